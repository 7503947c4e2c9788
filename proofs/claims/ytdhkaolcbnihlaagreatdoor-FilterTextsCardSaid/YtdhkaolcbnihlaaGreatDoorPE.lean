/- Part 5 of the proof of FilterTextsCard: the executor, the mirrors of the functions, the plain facts. -/
import Derived.Test.YtdhkaolcbnihlaaGreatDoorPD
import Derived.RangeFuncNested
import Derived.RangeFuncBound
import Derived.RangeFuncCalls
import Derived.RangeFuncLeaves
import Derived.OwnWalkIn
import Derived.TacticsInMore
import Derived.OrdersIn
set_option maxRecDepth 100000
set_option linter.unusedSectionVars false
set_option linter.unusedSimpArgs false
set_option linter.unusedVariables false
section
namespace Go.Sh
open Go Go.Proofs Go.RowKit Go.Sx
open Go.IntKind (wrap)
def y65 : List (Option Cont) := [none, none]
def y33 (x_ : Int) (y_ : Int) : Option (Int × Int) :=
 some ((wrap .u64 (wrap .u64 (wrap .u64 (Int.fdiv x_ ((2 : Int) ^ min (32 : Nat) (IntKind.bits .u64)) * Int.fdiv y_ ((2 : Int) ^ min (32 : Nat) (IntKind.bits .u64))) + Int.fdiv (wrap .u64 (wrap .u64 (Int.fdiv x_ ((2 : Int) ^ min (32 : Nat) (IntKind.bits .u64)) * wrap .u64 (↑(BitVec.toNat (BitVec.ofInt (IntKind.bits .u64) y_ &&& BitVec.ofInt (IntKind.bits .u64) (4294967295 : Int))) : Int)) + Int.fdiv (wrap .u64 (wrap .u64 (↑(BitVec.toNat (BitVec.ofInt (IntKind.bits .u64) x_ &&& BitVec.ofInt (IntKind.bits .u64) (4294967295 : Int))) : Int) * wrap .u64 (↑(BitVec.toNat (BitVec.ofInt (IntKind.bits .u64) y_ &&& BitVec.ofInt (IntKind.bits .u64) (4294967295 : Int))) : Int))) ((2 : Int) ^ min (32 : Nat) (IntKind.bits .u64)))) ((2 : Int) ^ min (32 : Nat) (IntKind.bits .u64))) + Int.fdiv (wrap .u64 (wrap .u64 (↑(BitVec.toNat (BitVec.ofInt (IntKind.bits .u64) (wrap .u64 (wrap .u64 (Int.fdiv x_ ((2 : Int) ^ min (32 : Nat) (IntKind.bits .u64)) * wrap .u64 (↑(BitVec.toNat (BitVec.ofInt (IntKind.bits .u64) y_ &&& BitVec.ofInt (IntKind.bits .u64) (4294967295 : Int))) : Int)) + Int.fdiv (wrap .u64 (wrap .u64 (↑(BitVec.toNat (BitVec.ofInt (IntKind.bits .u64) x_ &&& BitVec.ofInt (IntKind.bits .u64) (4294967295 : Int))) : Int) * wrap .u64 (↑(BitVec.toNat (BitVec.ofInt (IntKind.bits .u64) y_ &&& BitVec.ofInt (IntKind.bits .u64) (4294967295 : Int))) : Int))) ((2 : Int) ^ min (32 : Nat) (IntKind.bits .u64)))) &&& BitVec.ofInt (IntKind.bits .u64) (4294967295 : Int))) : Int) + wrap .u64 (wrap .u64 (↑(BitVec.toNat (BitVec.ofInt (IntKind.bits .u64) x_ &&& BitVec.ofInt (IntKind.bits .u64) (4294967295 : Int))) : Int) * Int.fdiv y_ ((2 : Int) ^ min (32 : Nat) (IntKind.bits .u64))))) ((2 : Int) ^ min (32 : Nat) (IntKind.bits .u64))), wrap .u64 (x_ * y_)))
def y53 : List A → Option (Prop × List RV)
 | [.d (.i .u64 x_), .d (.i .u64 y_)] => some (ok (y33 x_ y_), [.d (.i .u64 ((val (y33 x_ y_)).1)), .d (.i .u64 ((val (y33 x_ y_)).2))])
 | _ => none
abbrev sp_62 : jaa → jaa := ja3 62 true (jaG y65 y53)
def jig (x_ : Int) (y_ : Int) : T (Int × Int) :=
 .obC ((0 : Int) ≤ 32) (by decide)
 (.obC ((0 : Int) ≤ 32) (by decide)
 (.obC ((0 : Int) ≤ 32) (by decide)
 (.obC ((0 : Int) ≤ 32) (by decide)
 (.obC ((0 : Int) ≤ 32) (by decide)
 (.obT
 (.obT
 (.rc (((wrap .u64 (wrap .u64 (wrap .u64 (Int.fdiv x_ ((2 : Int) ^ min (32 : Nat) (IntKind.bits .u64)) * Int.fdiv y_ ((2 : Int) ^ min (32 : Nat) (IntKind.bits .u64))) + Int.fdiv (wrap .u64 (wrap .u64 (Int.fdiv x_ ((2 : Int) ^ min (32 : Nat) (IntKind.bits .u64)) * wrap .u64 (↑(BitVec.toNat (BitVec.ofInt (IntKind.bits .u64) y_ &&& BitVec.ofInt (IntKind.bits .u64) (4294967295 : Int))) : Int)) + Int.fdiv (wrap .u64 (wrap .u64 (↑(BitVec.toNat (BitVec.ofInt (IntKind.bits .u64) x_ &&& BitVec.ofInt (IntKind.bits .u64) (4294967295 : Int))) : Int) * wrap .u64 (↑(BitVec.toNat (BitVec.ofInt (IntKind.bits .u64) y_ &&& BitVec.ofInt (IntKind.bits .u64) (4294967295 : Int))) : Int))) ((2 : Int) ^ min (32 : Nat) (IntKind.bits .u64)))) ((2 : Int) ^ min (32 : Nat) (IntKind.bits .u64))) + Int.fdiv (wrap .u64 (wrap .u64 (↑(BitVec.toNat (BitVec.ofInt (IntKind.bits .u64) (wrap .u64 (wrap .u64 (Int.fdiv x_ ((2 : Int) ^ min (32 : Nat) (IntKind.bits .u64)) * wrap .u64 (↑(BitVec.toNat (BitVec.ofInt (IntKind.bits .u64) y_ &&& BitVec.ofInt (IntKind.bits .u64) (4294967295 : Int))) : Int)) + Int.fdiv (wrap .u64 (wrap .u64 (↑(BitVec.toNat (BitVec.ofInt (IntKind.bits .u64) x_ &&& BitVec.ofInt (IntKind.bits .u64) (4294967295 : Int))) : Int) * wrap .u64 (↑(BitVec.toNat (BitVec.ofInt (IntKind.bits .u64) y_ &&& BitVec.ofInt (IntKind.bits .u64) (4294967295 : Int))) : Int))) ((2 : Int) ^ min (32 : Nat) (IntKind.bits .u64)))) &&& BitVec.ofInt (IntKind.bits .u64) (4294967295 : Int))) : Int) + wrap .u64 (wrap .u64 (↑(BitVec.toNat (BitVec.ofInt (IntKind.bits .u64) x_ &&& BitVec.ofInt (IntKind.bits .u64) (4294967295 : Int))) : Int) * Int.fdiv y_ ((2 : Int) ^ min (32 : Nat) (IntKind.bits .u64))))) ((2 : Int) ^ min (32 : Nat) (IntKind.bits .u64))), wrap .u64 (x_ * y_)))))))))))
theorem jhH (x_ : Int) (y_ : Int) (r : Int × Int) (h : Option.bind (y33 x_ y_) some = some r) : jaI Tryz.f62 (sp0) (fun _ _ _ => none) [.d (.i .u64 x_), .d (.i .u64 y_)] [.d (.i .u64 r.1), .d (.i .u64 r.2)] :=
 T.vc (t := jig x_ y_) (by kernel_rfl) (by kernel_rfl) h
theorem jhI : jah Tryz.prog 62 true (jaG y65 y53) := by
 refine jaR (sp := sp0) (fn := Tryz.f62) (body := jai Tryz.f62) mixed jam Tryz.func62 (by kernel_rfl) (by kernel_rfl) fun as_ ob rs h ho => ?_
 unfold y53 at h
 split at h
 ·rename_i x_ y_
  cases h
  exact ⟨Nat.le_of_ble_eq_true rfl, _, _, jhH x_ y_ _ (ja7 ho)⟩
 ·cases h
theorem sp_62_ok {sp : jaa} (h : jac Tryz.prog sp) : jac Tryz.prog (sp_62 sp) := jax jhI h
def y66 : List (Option Cont) := [none]
def y38 (x_ : Int) : Option Int :=
 if x_ ≥ 4294967296 then
  if Int.fdiv x_ ((2 : Int) ^ min (32 : Nat) (IntKind.bits .u64)) ≥ 65536 then
  if Int.fdiv (Int.fdiv x_ ((2 : Int) ^ min (32 : Nat) (IntKind.bits .u64))) ((2 : Int) ^ min (16 : Nat) (IntKind.bits .u64)) ≥ 256 then
   if 0 ≤ wrap .u8 (Int.fdiv (Int.fdiv (Int.fdiv x_ ((2 : Int) ^ min (32 : Nat) (IntKind.bits .u64))) ((2 : Int) ^ min (16 : Nat) (IntKind.bits .u64))) ((2 : Int) ^ min (8 : Nat) (IntKind.bits .u64))) ∧ wrap .u8 (Int.fdiv (Int.fdiv (Int.fdiv x_ ((2 : Int) ^ min (32 : Nat) (IntKind.bits .u64))) ((2 : Int) ^ min (16 : Nat) (IntKind.bits .u64))) ((2 : Int) ^ min (8 : Nat) (IntKind.bits .u64))) < (↑(ByteArray.size jbg) : Int) then
   some (wrap .i64 (56 + wrap .i64 (↑(UInt8.toNat (Array.getD (ByteArray.data jbg) (Int.toNat (wrap .u8 (Int.fdiv (Int.fdiv (Int.fdiv x_ ((2 : Int) ^ min (32 : Nat) (IntKind.bits .u64))) ((2 : Int) ^ min (16 : Nat) (IntKind.bits .u64))) ((2 : Int) ^ min (8 : Nat) (IntKind.bits .u64))))) (0 : UInt8))) : Int)))
   else none
  else
   if 0 ≤ wrap .u8 (Int.fdiv (Int.fdiv x_ ((2 : Int) ^ min (32 : Nat) (IntKind.bits .u64))) ((2 : Int) ^ min (16 : Nat) (IntKind.bits .u64))) ∧ wrap .u8 (Int.fdiv (Int.fdiv x_ ((2 : Int) ^ min (32 : Nat) (IntKind.bits .u64))) ((2 : Int) ^ min (16 : Nat) (IntKind.bits .u64))) < (↑(ByteArray.size jbg) : Int) then
   some (wrap .i64 (48 + wrap .i64 (↑(UInt8.toNat (Array.getD (ByteArray.data jbg) (Int.toNat (wrap .u8 (Int.fdiv (Int.fdiv x_ ((2 : Int) ^ min (32 : Nat) (IntKind.bits .u64))) ((2 : Int) ^ min (16 : Nat) (IntKind.bits .u64))))) (0 : UInt8))) : Int)))
   else none
  else
  if Int.fdiv x_ ((2 : Int) ^ min (32 : Nat) (IntKind.bits .u64)) ≥ 256 then
   if 0 ≤ wrap .u8 (Int.fdiv (Int.fdiv x_ ((2 : Int) ^ min (32 : Nat) (IntKind.bits .u64))) ((2 : Int) ^ min (8 : Nat) (IntKind.bits .u64))) ∧ wrap .u8 (Int.fdiv (Int.fdiv x_ ((2 : Int) ^ min (32 : Nat) (IntKind.bits .u64))) ((2 : Int) ^ min (8 : Nat) (IntKind.bits .u64))) < (↑(ByteArray.size jbg) : Int) then
   some (wrap .i64 (40 + wrap .i64 (↑(UInt8.toNat (Array.getD (ByteArray.data jbg) (Int.toNat (wrap .u8 (Int.fdiv (Int.fdiv x_ ((2 : Int) ^ min (32 : Nat) (IntKind.bits .u64))) ((2 : Int) ^ min (8 : Nat) (IntKind.bits .u64))))) (0 : UInt8))) : Int)))
   else none
  else
   if 0 ≤ wrap .u8 (Int.fdiv x_ ((2 : Int) ^ min (32 : Nat) (IntKind.bits .u64))) ∧ wrap .u8 (Int.fdiv x_ ((2 : Int) ^ min (32 : Nat) (IntKind.bits .u64))) < (↑(ByteArray.size jbg) : Int) then
   some (wrap .i64 (32 + wrap .i64 (↑(UInt8.toNat (Array.getD (ByteArray.data jbg) (Int.toNat (wrap .u8 (Int.fdiv x_ ((2 : Int) ^ min (32 : Nat) (IntKind.bits .u64))))) (0 : UInt8))) : Int)))
   else none
 else
  if x_ ≥ 65536 then
  if Int.fdiv x_ ((2 : Int) ^ min (16 : Nat) (IntKind.bits .u64)) ≥ 256 then
   if 0 ≤ wrap .u8 (Int.fdiv (Int.fdiv x_ ((2 : Int) ^ min (16 : Nat) (IntKind.bits .u64))) ((2 : Int) ^ min (8 : Nat) (IntKind.bits .u64))) ∧ wrap .u8 (Int.fdiv (Int.fdiv x_ ((2 : Int) ^ min (16 : Nat) (IntKind.bits .u64))) ((2 : Int) ^ min (8 : Nat) (IntKind.bits .u64))) < (↑(ByteArray.size jbg) : Int) then
   some (wrap .i64 (24 + wrap .i64 (↑(UInt8.toNat (Array.getD (ByteArray.data jbg) (Int.toNat (wrap .u8 (Int.fdiv (Int.fdiv x_ ((2 : Int) ^ min (16 : Nat) (IntKind.bits .u64))) ((2 : Int) ^ min (8 : Nat) (IntKind.bits .u64))))) (0 : UInt8))) : Int)))
   else none
  else
   if 0 ≤ wrap .u8 (Int.fdiv x_ ((2 : Int) ^ min (16 : Nat) (IntKind.bits .u64))) ∧ wrap .u8 (Int.fdiv x_ ((2 : Int) ^ min (16 : Nat) (IntKind.bits .u64))) < (↑(ByteArray.size jbg) : Int) then
   some (wrap .i64 (16 + wrap .i64 (↑(UInt8.toNat (Array.getD (ByteArray.data jbg) (Int.toNat (wrap .u8 (Int.fdiv x_ ((2 : Int) ^ min (16 : Nat) (IntKind.bits .u64))))) (0 : UInt8))) : Int)))
   else none
  else
  if x_ ≥ 256 then
   if 0 ≤ wrap .u8 (Int.fdiv x_ ((2 : Int) ^ min (8 : Nat) (IntKind.bits .u64))) ∧ wrap .u8 (Int.fdiv x_ ((2 : Int) ^ min (8 : Nat) (IntKind.bits .u64))) < (↑(ByteArray.size jbg) : Int) then
   some (wrap .i64 (8 + wrap .i64 (↑(UInt8.toNat (Array.getD (ByteArray.data jbg) (Int.toNat (wrap .u8 (Int.fdiv x_ ((2 : Int) ^ min (8 : Nat) (IntKind.bits .u64))))) (0 : UInt8))) : Int)))
   else none
  else
   if 0 ≤ wrap .u8 x_ ∧ wrap .u8 x_ < (↑(ByteArray.size jbg) : Int) then
   some (wrap .i64 (0 + wrap .i64 (↑(UInt8.toNat (Array.getD (ByteArray.data jbg) (Int.toNat (wrap .u8 x_)) (0 : UInt8))) : Int)))
   else none
def y54 : List A → Option (Prop × List RV)
 | [.d (.i .u64 x_)] => some (ok (y38 x_), [.d (.i .i64 ((val (y38 x_))))])
 | _ => none
abbrev sp_93 : jaa → jaa := ja3 93 true (jaG y66 y54)
def jih (x_ : Int) : T (Int) :=
 .brP (x_ ≥ 4294967296)
 (.obC ((0 : Int) ≤ 32) (by decide)
 (.brP (Int.fdiv x_ ((2 : Int) ^ min (32 : Nat) (IntKind.bits .u64)) ≥ 65536)
 (.obC ((0 : Int) ≤ 16) (by decide)
 (.brP (Int.fdiv (Int.fdiv x_ ((2 : Int) ^ min (32 : Nat) (IntKind.bits .u64))) ((2 : Int) ^ min (16 : Nat) (IntKind.bits .u64)) ≥ 256)
 (.obC ((0 : Int) ≤ 8) (by decide)
 (.obT
 (.obP (0 ≤ wrap .u8 (Int.fdiv (Int.fdiv (Int.fdiv x_ ((2 : Int) ^ min (32 : Nat) (IntKind.bits .u64))) ((2 : Int) ^ min (16 : Nat) (IntKind.bits .u64))) ((2 : Int) ^ min (8 : Nat) (IntKind.bits .u64))) ∧ wrap .u8 (Int.fdiv (Int.fdiv (Int.fdiv x_ ((2 : Int) ^ min (32 : Nat) (IntKind.bits .u64))) ((2 : Int) ^ min (16 : Nat) (IntKind.bits .u64))) ((2 : Int) ^ min (8 : Nat) (IntKind.bits .u64))) < (↑(ByteArray.size jbg) : Int))
 (.obT
 (.obT
 (.rc ((wrap .i64 (56 + wrap .i64 (↑(UInt8.toNat (Array.getD (ByteArray.data jbg) (Int.toNat (wrap .u8 (Int.fdiv (Int.fdiv (Int.fdiv x_ ((2 : Int) ^ min (32 : Nat) (IntKind.bits .u64))) ((2 : Int) ^ min (16 : Nat) (IntKind.bits .u64))) ((2 : Int) ^ min (8 : Nat) (IntKind.bits .u64))))) (0 : UInt8))) : Int))))))))))
 (.obT
 (.obP (0 ≤ wrap .u8 (Int.fdiv (Int.fdiv x_ ((2 : Int) ^ min (32 : Nat) (IntKind.bits .u64))) ((2 : Int) ^ min (16 : Nat) (IntKind.bits .u64))) ∧ wrap .u8 (Int.fdiv (Int.fdiv x_ ((2 : Int) ^ min (32 : Nat) (IntKind.bits .u64))) ((2 : Int) ^ min (16 : Nat) (IntKind.bits .u64))) < (↑(ByteArray.size jbg) : Int))
 (.obT
 (.obT
 (.rc ((wrap .i64 (48 + wrap .i64 (↑(UInt8.toNat (Array.getD (ByteArray.data jbg) (Int.toNat (wrap .u8 (Int.fdiv (Int.fdiv x_ ((2 : Int) ^ min (32 : Nat) (IntKind.bits .u64))) ((2 : Int) ^ min (16 : Nat) (IntKind.bits .u64))))) (0 : UInt8))) : Int)))))))))))
 (.brP (Int.fdiv x_ ((2 : Int) ^ min (32 : Nat) (IntKind.bits .u64)) ≥ 256)
 (.obC ((0 : Int) ≤ 8) (by decide)
 (.obT
 (.obP (0 ≤ wrap .u8 (Int.fdiv (Int.fdiv x_ ((2 : Int) ^ min (32 : Nat) (IntKind.bits .u64))) ((2 : Int) ^ min (8 : Nat) (IntKind.bits .u64))) ∧ wrap .u8 (Int.fdiv (Int.fdiv x_ ((2 : Int) ^ min (32 : Nat) (IntKind.bits .u64))) ((2 : Int) ^ min (8 : Nat) (IntKind.bits .u64))) < (↑(ByteArray.size jbg) : Int))
 (.obT
 (.obT
 (.rc ((wrap .i64 (40 + wrap .i64 (↑(UInt8.toNat (Array.getD (ByteArray.data jbg) (Int.toNat (wrap .u8 (Int.fdiv (Int.fdiv x_ ((2 : Int) ^ min (32 : Nat) (IntKind.bits .u64))) ((2 : Int) ^ min (8 : Nat) (IntKind.bits .u64))))) (0 : UInt8))) : Int))))))))))
 (.obT
 (.obP (0 ≤ wrap .u8 (Int.fdiv x_ ((2 : Int) ^ min (32 : Nat) (IntKind.bits .u64))) ∧ wrap .u8 (Int.fdiv x_ ((2 : Int) ^ min (32 : Nat) (IntKind.bits .u64))) < (↑(ByteArray.size jbg) : Int))
 (.obT
 (.obT
 (.rc ((wrap .i64 (32 + wrap .i64 (↑(UInt8.toNat (Array.getD (ByteArray.data jbg) (Int.toNat (wrap .u8 (Int.fdiv x_ ((2 : Int) ^ min (32 : Nat) (IntKind.bits .u64))))) (0 : UInt8))) : Int))))))))))))
 (.brP (x_ ≥ 65536)
 (.obC ((0 : Int) ≤ 16) (by decide)
 (.brP (Int.fdiv x_ ((2 : Int) ^ min (16 : Nat) (IntKind.bits .u64)) ≥ 256)
 (.obC ((0 : Int) ≤ 8) (by decide)
 (.obT
 (.obP (0 ≤ wrap .u8 (Int.fdiv (Int.fdiv x_ ((2 : Int) ^ min (16 : Nat) (IntKind.bits .u64))) ((2 : Int) ^ min (8 : Nat) (IntKind.bits .u64))) ∧ wrap .u8 (Int.fdiv (Int.fdiv x_ ((2 : Int) ^ min (16 : Nat) (IntKind.bits .u64))) ((2 : Int) ^ min (8 : Nat) (IntKind.bits .u64))) < (↑(ByteArray.size jbg) : Int))
 (.obT
 (.obT
 (.rc ((wrap .i64 (24 + wrap .i64 (↑(UInt8.toNat (Array.getD (ByteArray.data jbg) (Int.toNat (wrap .u8 (Int.fdiv (Int.fdiv x_ ((2 : Int) ^ min (16 : Nat) (IntKind.bits .u64))) ((2 : Int) ^ min (8 : Nat) (IntKind.bits .u64))))) (0 : UInt8))) : Int))))))))))
 (.obT
 (.obP (0 ≤ wrap .u8 (Int.fdiv x_ ((2 : Int) ^ min (16 : Nat) (IntKind.bits .u64))) ∧ wrap .u8 (Int.fdiv x_ ((2 : Int) ^ min (16 : Nat) (IntKind.bits .u64))) < (↑(ByteArray.size jbg) : Int))
 (.obT
 (.obT
 (.rc ((wrap .i64 (16 + wrap .i64 (↑(UInt8.toNat (Array.getD (ByteArray.data jbg) (Int.toNat (wrap .u8 (Int.fdiv x_ ((2 : Int) ^ min (16 : Nat) (IntKind.bits .u64))))) (0 : UInt8))) : Int)))))))))))
 (.brP (x_ ≥ 256)
 (.obC ((0 : Int) ≤ 8) (by decide)
 (.obT
 (.obP (0 ≤ wrap .u8 (Int.fdiv x_ ((2 : Int) ^ min (8 : Nat) (IntKind.bits .u64))) ∧ wrap .u8 (Int.fdiv x_ ((2 : Int) ^ min (8 : Nat) (IntKind.bits .u64))) < (↑(ByteArray.size jbg) : Int))
 (.obT
 (.obT
 (.rc ((wrap .i64 (8 + wrap .i64 (↑(UInt8.toNat (Array.getD (ByteArray.data jbg) (Int.toNat (wrap .u8 (Int.fdiv x_ ((2 : Int) ^ min (8 : Nat) (IntKind.bits .u64))))) (0 : UInt8))) : Int))))))))))
 (.obT
 (.obP (0 ≤ wrap .u8 x_ ∧ wrap .u8 x_ < (↑(ByteArray.size jbg) : Int))
 (.obT
 (.obT
 (.rc ((wrap .i64 (0 + wrap .i64 (↑(UInt8.toNat (Array.getD (ByteArray.data jbg) (Int.toNat (wrap .u8 x_)) (0 : UInt8))) : Int)))))))))))
theorem jhJ (x_ : Int) (r : Int) (h : Option.bind (y38 x_) some = some r) : jaI Tryz.f93 (sp0) (fun _ _ _ => none) [.d (.i .u64 x_)] [.d (.i .i64 r)] :=
 T.vc (t := jih x_) (by kernel_rfl) (by kernel_rfl) h
theorem jhK : jah Tryz.prog 93 true (jaG y66 y54) := by
 refine jaR (sp := sp0) (fn := Tryz.f93) (body := jai Tryz.f93) mixed jam Tryz.func93 (by kernel_rfl) (by kernel_rfl) fun as_ ob rs h ho => ?_
 unfold y54 at h
 split at h
 ·rename_i x_
  cases h
  exact ⟨Nat.le_of_ble_eq_true rfl, _, _, jhJ x_ _ (ja7 ho)⟩
 ·cases h
theorem sp_93_ok {sp : jaa} (h : jac Tryz.prog sp) : jac Tryz.prog (sp_93 sp) := jax jhK h
def y46 : List (Option Cont) := [none]
def y2 (x_ : Int) : Option Int :=
 Option.bind (y38 x_) fun r0 =>
 some (wrap .i64 (64 - r0))
def y35 : List A → Option (Prop × List RV)
 | [.d (.i .u64 x_)] => some (ok (y2 x_), [.d (.i .i64 ((val (y2 x_))))])
 | _ => none
abbrev sp_76 : jaa → jaa := ja3 76 true (jaG y46 y35)
def y64 (x_ : Int) : T (Int) :=
 .call (y38 x_) fun r0 =>
 .obT
 (.rc ((wrap .i64 (64 - r0))))
theorem y59 (x_ : Int) (r : Int) (h : Option.bind (y2 x_) some = some r) : jaI Tryz.f76 ((sp_93 sp0)) (fun _ _ _ => none) [.d (.i .u64 x_)] [.d (.i .i64 r)] :=
 T.vc (t := y64 x_) (by kernel_rfl) (by kernel_rfl) h
theorem y60 : jah Tryz.prog 76 true (jaG y46 y35) := by
 refine jaR (sp := (sp_93 sp0)) (fn := Tryz.f76) (body := jai Tryz.f76) mixed (sp_93_ok jam) Tryz.func76 (by kernel_rfl) (by kernel_rfl) fun as_ ob rs h ho => ?_
 unfold y35 at h
 split at h
 ·rename_i x_
  cases h
  exact ⟨Nat.le_of_ble_eq_true rfl, _, _, y59 x_ _ (ja7 ho)⟩
 ·cases h
theorem sp_76_ok {sp : jaa} (h : jac Tryz.prog sp) : jac Tryz.prog (sp_76 sp) := jax y60 h
def y67 : List (Option Cont) := [none, none, none]
def y27 (lo : Int) (y_ : Int) (r0 : Int) (x0 : (Int × Int)) : Option ((Int × Int) ⊕ Int) :=
 if x0.1 ≥ 4294967296 then
  if wrap .u64 (x0.2 + Int.fdiv (wrap .u64 (y_ * 2 ^ min (Int.toNat (wrap .u64 r0)) (IntKind.bits .u64))) ((2 : Int) ^ min (32 : Nat) (IntKind.bits .u64))) ≥ 4294967296 then
  some (.inr (wrap .u64 (x0.1 - 1)))
  else
  some (.inl ((wrap .u64 (x0.1 - 1), wrap .u64 (x0.2 + Int.fdiv (wrap .u64 (y_ * 2 ^ min (Int.toNat (wrap .u64 r0)) (IntKind.bits .u64))) ((2 : Int) ^ min (32 : Nat) (IntKind.bits .u64))))))
 else
  if wrap .u64 (x0.1 * wrap .u64 (↑(BitVec.toNat (BitVec.ofInt (IntKind.bits .u64) (wrap .u64 (y_ * 2 ^ min (Int.toNat (wrap .u64 r0)) (IntKind.bits .u64))) &&& BitVec.ofInt (IntKind.bits .u64) (4294967295 : Int))) : Int)) > wrap .u64 (wrap .u64 (4294967296 * x0.2) + Int.fdiv (wrap .u64 (lo * 2 ^ min (Int.toNat (wrap .u64 r0)) (IntKind.bits .u64))) ((2 : Int) ^ min (32 : Nat) (IntKind.bits .u64))) then
  if wrap .u64 (x0.2 + Int.fdiv (wrap .u64 (y_ * 2 ^ min (Int.toNat (wrap .u64 r0)) (IntKind.bits .u64))) ((2 : Int) ^ min (32 : Nat) (IntKind.bits .u64))) ≥ 4294967296 then
   some (.inr (wrap .u64 (x0.1 - 1)))
  else
   some (.inl ((wrap .u64 (x0.1 - 1), wrap .u64 (x0.2 + Int.fdiv (wrap .u64 (y_ * 2 ^ min (Int.toNat (wrap .u64 r0)) (IntKind.bits .u64))) ((2 : Int) ^ min (32 : Nat) (IntKind.bits .u64))))))
  else
  some (.inr x0.1)
def y10 (lo : Int) (y_ : Int) (r0 : Int) (x1 : (Int × Int)) : Option ((Int × Int) ⊕ Int) :=
 if x1.2 ≥ 4294967296 then
  if wrap .u64 (x1.1 + Int.fdiv (wrap .u64 (y_ * 2 ^ min (Int.toNat (wrap .u64 r0)) (IntKind.bits .u64))) ((2 : Int) ^ min (32 : Nat) (IntKind.bits .u64))) ≥ 4294967296 then
  some (.inr (wrap .u64 (x1.2 - 1)))
  else
  some (.inl ((wrap .u64 (x1.1 + Int.fdiv (wrap .u64 (y_ * 2 ^ min (Int.toNat (wrap .u64 r0)) (IntKind.bits .u64))) ((2 : Int) ^ min (32 : Nat) (IntKind.bits .u64))), wrap .u64 (x1.2 - 1))))
 else
  if wrap .u64 (x1.2 * wrap .u64 (↑(BitVec.toNat (BitVec.ofInt (IntKind.bits .u64) (wrap .u64 (y_ * 2 ^ min (Int.toNat (wrap .u64 r0)) (IntKind.bits .u64))) &&& BitVec.ofInt (IntKind.bits .u64) (4294967295 : Int))) : Int)) > wrap .u64 (wrap .u64 (4294967296 * x1.1) + wrap .u64 (↑(BitVec.toNat (BitVec.ofInt (IntKind.bits .u64) (wrap .u64 (lo * 2 ^ min (Int.toNat (wrap .u64 r0)) (IntKind.bits .u64))) &&& BitVec.ofInt (IntKind.bits .u64) (4294967295 : Int))) : Int)) then
  if wrap .u64 (x1.1 + Int.fdiv (wrap .u64 (y_ * 2 ^ min (Int.toNat (wrap .u64 r0)) (IntKind.bits .u64))) ((2 : Int) ^ min (32 : Nat) (IntKind.bits .u64))) ≥ 4294967296 then
   some (.inr (wrap .u64 (x1.2 - 1)))
  else
   some (.inl ((wrap .u64 (x1.1 + Int.fdiv (wrap .u64 (y_ * 2 ^ min (Int.toNat (wrap .u64 r0)) (IntKind.bits .u64))) ((2 : Int) ^ min (32 : Nat) (IntKind.bits .u64))), wrap .u64 (x1.2 - 1))))
  else
  some (.inr x1.2)
def y11 (hi : Int) (lo : Int) (y_ : Int) (u0 : Int) (r0 : Int) (u3 : Int) : Option (Int × Int) :=
 if 0 ≤ wrap .u64 r0 then
  some ((wrap .u64 (wrap .u64 (u0 * 4294967296) + u3), Int.fdiv (wrap .u64 (wrap .u64 (wrap .u64 (wrap .u64 (wrap .u64 (wrap .u64 (wrap .u64 (↑(BitVec.toNat (BitVec.ofInt (IntKind.bits .u64) (wrap .u64 (hi * 2 ^ min (Int.toNat (wrap .u64 r0)) (IntKind.bits .u64))) ||| BitVec.ofInt (IntKind.bits .u64) (Int.fdiv lo ((2 : Int) ^ min (Int.toNat (wrap .u64 (64 - wrap .u64 r0))) (IntKind.bits .u64))))) : Int) * 4294967296) + Int.fdiv (wrap .u64 (lo * 2 ^ min (Int.toNat (wrap .u64 r0)) (IntKind.bits .u64))) ((2 : Int) ^ min (32 : Nat) (IntKind.bits .u64))) - wrap .u64 (u0 * wrap .u64 (y_ * 2 ^ min (Int.toNat (wrap .u64 r0)) (IntKind.bits .u64)))) * 4294967296) + wrap .u64 (↑(BitVec.toNat (BitVec.ofInt (IntKind.bits .u64) (wrap .u64 (lo * 2 ^ min (Int.toNat (wrap .u64 r0)) (IntKind.bits .u64))) &&& BitVec.ofInt (IntKind.bits .u64) (4294967295 : Int))) : Int)) - wrap .u64 (u3 * wrap .u64 (y_ * 2 ^ min (Int.toNat (wrap .u64 r0)) (IntKind.bits .u64))))) ((2 : Int) ^ min (Int.toNat (wrap .u64 r0)) (IntKind.bits .u64))))
 else none
def y28 (hi : Int) (lo : Int) (y_ : Int) (r0 : Int) (u0 : Int) : Option (Int × Int) :=
 if Int.fdiv (wrap .u64 (y_ * 2 ^ min (Int.toNat (wrap .u64 r0)) (IntKind.bits .u64))) ((2 : Int) ^ min (32 : Nat) (IntKind.bits .u64)) ≠ (0 : Int) then
  Option.bind (jad (y10 lo y_ r0) big ((wrap .u64 (wrap .u64 (wrap .u64 (wrap .u64 (wrap .u64 (↑(BitVec.toNat (BitVec.ofInt (IntKind.bits .u64) (wrap .u64 (hi * 2 ^ min (Int.toNat (wrap .u64 r0)) (IntKind.bits .u64))) ||| BitVec.ofInt (IntKind.bits .u64) (Int.fdiv lo ((2 : Int) ^ min (Int.toNat (wrap .u64 (64 - wrap .u64 r0))) (IntKind.bits .u64))))) : Int) * 4294967296) + Int.fdiv (wrap .u64 (lo * 2 ^ min (Int.toNat (wrap .u64 r0)) (IntKind.bits .u64))) ((2 : Int) ^ min (32 : Nat) (IntKind.bits .u64))) - wrap .u64 (u0 * wrap .u64 (y_ * 2 ^ min (Int.toNat (wrap .u64 r0)) (IntKind.bits .u64)))) - wrap .u64 (wrap .u64 (Int.tdiv (wrap .u64 (wrap .u64 (wrap .u64 (wrap .u64 (↑(BitVec.toNat (BitVec.ofInt (IntKind.bits .u64) (wrap .u64 (hi * 2 ^ min (Int.toNat (wrap .u64 r0)) (IntKind.bits .u64))) ||| BitVec.ofInt (IntKind.bits .u64) (Int.fdiv lo ((2 : Int) ^ min (Int.toNat (wrap .u64 (64 - wrap .u64 r0))) (IntKind.bits .u64))))) : Int) * 4294967296) + Int.fdiv (wrap .u64 (lo * 2 ^ min (Int.toNat (wrap .u64 r0)) (IntKind.bits .u64))) ((2 : Int) ^ min (32 : Nat) (IntKind.bits .u64))) - wrap .u64 (u0 * wrap .u64 (y_ * 2 ^ min (Int.toNat (wrap .u64 r0)) (IntKind.bits .u64))))) (Int.fdiv (wrap .u64 (y_ * 2 ^ min (Int.toNat (wrap .u64 r0)) (IntKind.bits .u64))) ((2 : Int) ^ min (32 : Nat) (IntKind.bits .u64)))) * Int.fdiv (wrap .u64 (y_ * 2 ^ min (Int.toNat (wrap .u64 r0)) (IntKind.bits .u64))) ((2 : Int) ^ min (32 : Nat) (IntKind.bits .u64)))), wrap .u64 (Int.tdiv (wrap .u64 (wrap .u64 (wrap .u64 (wrap .u64 (↑(BitVec.toNat (BitVec.ofInt (IntKind.bits .u64) (wrap .u64 (hi * 2 ^ min (Int.toNat (wrap .u64 r0)) (IntKind.bits .u64))) ||| BitVec.ofInt (IntKind.bits .u64) (Int.fdiv lo ((2 : Int) ^ min (Int.toNat (wrap .u64 (64 - wrap .u64 r0))) (IntKind.bits .u64))))) : Int) * 4294967296) + Int.fdiv (wrap .u64 (lo * 2 ^ min (Int.toNat (wrap .u64 r0)) (IntKind.bits .u64))) ((2 : Int) ^ min (32 : Nat) (IntKind.bits .u64))) - wrap .u64 (u0 * wrap .u64 (y_ * 2 ^ min (Int.toNat (wrap .u64 r0)) (IntKind.bits .u64))))) (Int.fdiv (wrap .u64 (y_ * 2 ^ min (Int.toNat (wrap .u64 r0)) (IntKind.bits .u64))) ((2 : Int) ^ min (32 : Nat) (IntKind.bits .u64))))))) (y11 hi lo y_ u0 r0)
 else none
def y34 (hi : Int) (lo : Int) (y_ : Int) : Option (Int × Int) :=
 if (y_ == 0) = true then
  none   else
  if y_ ≤ hi then
  none    else
  if (hi == 0) = true then
   if y_ ≠ (0 : Int) then
   if y_ ≠ (0 : Int) then
    some ((wrap .u64 (Int.tdiv lo y_), Int.tmod lo y_))
   else none
   else none
  else
   Option.bind (y2 y_) fun r0 =>
   if 0 ≤ wrap .u64 r0 then
   if 0 ≤ wrap .u64 r0 then
    if 0 ≤ wrap .u64 (64 - wrap .u64 r0) then
    if 0 ≤ wrap .u64 r0 then
     if Int.fdiv (wrap .u64 (y_ * 2 ^ min (Int.toNat (wrap .u64 r0)) (IntKind.bits .u64))) ((2 : Int) ^ min (32 : Nat) (IntKind.bits .u64)) ≠ (0 : Int) then
     Option.bind (jad (y27 lo y_ r0) big ((wrap .u64 (Int.tdiv (wrap .u64 (↑(BitVec.toNat (BitVec.ofInt (IntKind.bits .u64) (wrap .u64 (hi * 2 ^ min (Int.toNat (wrap .u64 r0)) (IntKind.bits .u64))) ||| BitVec.ofInt (IntKind.bits .u64) (Int.fdiv lo ((2 : Int) ^ min (Int.toNat (wrap .u64 (64 - wrap .u64 r0))) (IntKind.bits .u64))))) : Int)) (Int.fdiv (wrap .u64 (y_ * 2 ^ min (Int.toNat (wrap .u64 r0)) (IntKind.bits .u64))) ((2 : Int) ^ min (32 : Nat) (IntKind.bits .u64)))), wrap .u64 (wrap .u64 (↑(BitVec.toNat (BitVec.ofInt (IntKind.bits .u64) (wrap .u64 (hi * 2 ^ min (Int.toNat (wrap .u64 r0)) (IntKind.bits .u64))) ||| BitVec.ofInt (IntKind.bits .u64) (Int.fdiv lo ((2 : Int) ^ min (Int.toNat (wrap .u64 (64 - wrap .u64 r0))) (IntKind.bits .u64))))) : Int) - wrap .u64 (wrap .u64 (Int.tdiv (wrap .u64 (↑(BitVec.toNat (BitVec.ofInt (IntKind.bits .u64) (wrap .u64 (hi * 2 ^ min (Int.toNat (wrap .u64 r0)) (IntKind.bits .u64))) ||| BitVec.ofInt (IntKind.bits .u64) (Int.fdiv lo ((2 : Int) ^ min (Int.toNat (wrap .u64 (64 - wrap .u64 r0))) (IntKind.bits .u64))))) : Int)) (Int.fdiv (wrap .u64 (y_ * 2 ^ min (Int.toNat (wrap .u64 r0)) (IntKind.bits .u64))) ((2 : Int) ^ min (32 : Nat) (IntKind.bits .u64)))) * Int.fdiv (wrap .u64 (y_ * 2 ^ min (Int.toNat (wrap .u64 r0)) (IntKind.bits .u64))) ((2 : Int) ^ min (32 : Nat) (IntKind.bits .u64))))))) (y28 hi lo y_ r0)
     else none
    else none
    else none
   else none
   else none
def y55 : List A → Option (Prop × List RV)
 | [.d (.i .u64 hi), .d (.i .u64 lo), .d (.i .u64 y_)] => some (ok (y34 hi lo y_), [.d (.i .u64 ((val (y34 hi lo y_)).1)), .d (.i .u64 ((val (y34 hi lo y_)).2))])
 | _ => none
abbrev sp_63 : jaa → jaa := ja3 63 true (jaG y67 y55)
theorem jhL (hi : Int) (lo : Int) (y_ : Int) (r : Int × Int) (h : Option.bind (y34 hi lo y_) some = some r) : jaI Tryz.f63 ((sp_76 sp0)) (fun gs id _ => match id with
 | 0 => some ⟨(Int × Int) × Nat, fun z => ⟨[(2, .w (.c (.d (.i .u64 (wrap .u64 (y_ * 2 ^ min (Int.toNat (wrap .u64 (val (y2 y_)))) (IntKind.bits .u64))))))), (8, .w (.c (.d (.i .u64 (wrap .u64 (val (y2 y_))))))), (9, .w (.c (.d (.i .u64 (Int.fdiv (wrap .u64 (y_ * 2 ^ min (Int.toNat (wrap .u64 (val (y2 y_)))) (IntKind.bits .u64))) ((2 : Int) ^ min (32 : Nat) (IntKind.bits .u64))))))), (10, .w (.c (.d (.i .u64 (wrap .u64 (↑(BitVec.toNat (BitVec.ofInt (IntKind.bits .u64) (wrap .u64 (y_ * 2 ^ min (Int.toNat (wrap .u64 (val (y2 y_)))) (IntKind.bits .u64))) &&& BitVec.ofInt (IntKind.bits .u64) (4294967295 : Int))) : Int)))))), (11, .w (.c (.d (.i .u64 (wrap .u64 (↑(BitVec.toNat (BitVec.ofInt (IntKind.bits .u64) (wrap .u64 (hi * 2 ^ min (Int.toNat (wrap .u64 (val (y2 y_)))) (IntKind.bits .u64))) ||| BitVec.ofInt (IntKind.bits .u64) (Int.fdiv lo ((2 : Int) ^ min (Int.toNat (wrap .u64 (64 - wrap .u64 (val (y2 y_))))) (IntKind.bits .u64))))) : Int)))))), (13, .w (.c (.d (.i .u64 (Int.fdiv (wrap .u64 (lo * 2 ^ min (Int.toNat (wrap .u64 (val (y2 y_)))) (IntKind.bits .u64))) ((2 : Int) ^ min (32 : Nat) (IntKind.bits .u64))))))), (14, .w (.c (.d (.i .u64 (wrap .u64 (↑(BitVec.toNat (BitVec.ofInt (IntKind.bits .u64) (wrap .u64 (lo * 2 ^ min (Int.toNat (wrap .u64 (val (y2 y_)))) (IntKind.bits .u64))) &&& BitVec.ofInt (IntKind.bits .u64) (4294967295 : Int))) : Int)))))), (15, .w (.c (.d (.i .u64 (Prod.fst (Prod.fst z)))))), (16, .w (.c (.d (.i .u64 (Prod.snd (Prod.fst z))))))], [], 3⟩, fun z => Option.bind (jad (y27 lo y_ (val (y2 y_))) (Prod.snd z) (Prod.fst z)) (fun y0 => Option.bind (y28 hi lo y_ (val (y2 y_)) y0) some) = some r, fun z => Prod.snd z⟩
 | 2 => some ⟨Int × (Int × Int) × Nat, fun z => ⟨[(2, .w (.c (.d (.i .u64 (wrap .u64 (y_ * 2 ^ min (Int.toNat (wrap .u64 (val (y2 y_)))) (IntKind.bits .u64))))))), (8, .w (.c (.d (.i .u64 (wrap .u64 (val (y2 y_))))))), (9, .w (.c (.d (.i .u64 (Int.fdiv (wrap .u64 (y_ * 2 ^ min (Int.toNat (wrap .u64 (val (y2 y_)))) (IntKind.bits .u64))) ((2 : Int) ^ min (32 : Nat) (IntKind.bits .u64))))))), (10, .w (.c (.d (.i .u64 (wrap .u64 (↑(BitVec.toNat (BitVec.ofInt (IntKind.bits .u64) (wrap .u64 (y_ * 2 ^ min (Int.toNat (wrap .u64 (val (y2 y_)))) (IntKind.bits .u64))) &&& BitVec.ofInt (IntKind.bits .u64) (4294967295 : Int))) : Int)))))), (14, .w (.c (.d (.i .u64 (wrap .u64 (↑(BitVec.toNat (BitVec.ofInt (IntKind.bits .u64) (wrap .u64 (lo * 2 ^ min (Int.toNat (wrap .u64 (val (y2 y_)))) (IntKind.bits .u64))) &&& BitVec.ofInt (IntKind.bits .u64) (4294967295 : Int))) : Int)))))), (15, .w (.c (.d (.i .u64 (Prod.fst z))))), (16, .w (.c (.d (.i .u64 (Prod.fst (Prod.fst (Prod.snd z))))))), (17, .w (.c (.d (.i .u64 (wrap .u64 (wrap .u64 (wrap .u64 (wrap .u64 (↑(BitVec.toNat (BitVec.ofInt (IntKind.bits .u64) (wrap .u64 (hi * 2 ^ min (Int.toNat (wrap .u64 (val (y2 y_)))) (IntKind.bits .u64))) ||| BitVec.ofInt (IntKind.bits .u64) (Int.fdiv lo ((2 : Int) ^ min (Int.toNat (wrap .u64 (64 - wrap .u64 (val (y2 y_))))) (IntKind.bits .u64))))) : Int) * 4294967296) + Int.fdiv (wrap .u64 (lo * 2 ^ min (Int.toNat (wrap .u64 (val (y2 y_)))) (IntKind.bits .u64))) ((2 : Int) ^ min (32 : Nat) (IntKind.bits .u64))) - wrap .u64 (Prod.fst z * wrap .u64 (y_ * 2 ^ min (Int.toNat (wrap .u64 (val (y2 y_)))) (IntKind.bits .u64))))))))), (18, .w (.c (.d (.i .u64 (Prod.snd (Prod.fst (Prod.snd z)))))))], [], 3⟩, fun z => Option.bind (jad (y10 lo y_ (val (y2 y_))) (Prod.snd (Prod.snd z)) (Prod.fst (Prod.snd z))) (fun y0 => Option.bind (y11 hi lo y_ (Prod.fst z) (val (y2 y_)) y0) some) = some r, fun z => Prod.snd (Prod.snd z)⟩
 | _ => none) [.d (.i .u64 hi), .d (.i .u64 lo), .d (.i .u64 y_)] [.d (.i .u64 r.1), .d (.i .u64 r.2)] := by
 refine Eq.mp (by kernel_rfl : (
 Br (y_ == 0)
  (False)
 (Br (decide (y_ ≤ hi))
  (False)
 (Br (hi == 0)
  ((Ob (y_ ≠ (0 : Int)) ∧
 (Ob (y_ ≠ (0 : Int)) ∧
 (Ob True ∧
 (Ob True ∧
 (Ob (wrap .u64 (Int.tdiv lo y_) = r.1) ∧
 (Ob (Int.tmod lo y_ = r.2) ∧
 True)))))))
  ((Ob (ok (y2 y_)) ∧
 (Ob True ∧
 (Ob (0 ≤ wrap .u64 (val (y2 y_))) ∧
 (Ob ((0 : Int) ≤ 32) ∧
 (Ob (0 ≤ wrap .u64 (val (y2 y_))) ∧
 (Ob (0 ≤ wrap .u64 (64 - wrap .u64 (val (y2 y_)))) ∧
 (Ob (0 ≤ wrap .u64 (val (y2 y_))) ∧
 (Ob ((0 : Int) ≤ 32) ∧
 (Ob (Int.fdiv (wrap .u64 (y_ * 2 ^ min (Int.toNat (wrap .u64 (val (y2 y_)))) (IntKind.bits .u64))) ((2 : Int) ^ min (32 : Nat) (IntKind.bits .u64)) ≠ (0 : Int)) ∧
  ((∃ (v0 : (Int × Int) × Nat), (Ob ((Option.bind (jad (y27 lo y_ (val (y2 y_))) v0.2 v0.1) fun y0 => Option.bind (y28 hi lo y_ (val (y2 y_)) y0) some) = some r) ∧
 (Ob (wrap .u64 (y_ * 2 ^ min (Int.toNat (wrap .u64 (val (y2 y_)))) (IntKind.bits .u64)) = wrap .u64 (y_ * 2 ^ min (Int.toNat (wrap .u64 (val (y2 y_)))) (IntKind.bits .u64))) ∧
 (Ob (wrap .u64 (val (y2 y_)) = wrap .u64 (val (y2 y_))) ∧
 (Ob (Int.fdiv (wrap .u64 (y_ * 2 ^ min (Int.toNat (wrap .u64 (val (y2 y_)))) (IntKind.bits .u64))) ((2 : Int) ^ min (32 : Nat) (IntKind.bits .u64)) = Int.fdiv (wrap .u64 (y_ * 2 ^ min (Int.toNat (wrap .u64 (val (y2 y_)))) (IntKind.bits .u64))) ((2 : Int) ^ min (32 : Nat) (IntKind.bits .u64))) ∧
 (Ob (wrap .u64 (↑(BitVec.toNat (BitVec.ofInt (IntKind.bits .u64) (wrap .u64 (y_ * 2 ^ min (Int.toNat (wrap .u64 (val (y2 y_)))) (IntKind.bits .u64))) &&& BitVec.ofInt (IntKind.bits .u64) (4294967295 : Int))) : Int) = wrap .u64 (↑(BitVec.toNat (BitVec.ofInt (IntKind.bits .u64) (wrap .u64 (y_ * 2 ^ min (Int.toNat (wrap .u64 (val (y2 y_)))) (IntKind.bits .u64))) &&& BitVec.ofInt (IntKind.bits .u64) (4294967295 : Int))) : Int)) ∧
 (Ob (wrap .u64 (↑(BitVec.toNat (BitVec.ofInt (IntKind.bits .u64) (wrap .u64 (hi * 2 ^ min (Int.toNat (wrap .u64 (val (y2 y_)))) (IntKind.bits .u64))) ||| BitVec.ofInt (IntKind.bits .u64) (Int.fdiv lo ((2 : Int) ^ min (Int.toNat (wrap .u64 (64 - wrap .u64 (val (y2 y_))))) (IntKind.bits .u64))))) : Int) = wrap .u64 (↑(BitVec.toNat (BitVec.ofInt (IntKind.bits .u64) (wrap .u64 (hi * 2 ^ min (Int.toNat (wrap .u64 (val (y2 y_)))) (IntKind.bits .u64))) ||| BitVec.ofInt (IntKind.bits .u64) (Int.fdiv lo ((2 : Int) ^ min (Int.toNat (wrap .u64 (64 - wrap .u64 (val (y2 y_))))) (IntKind.bits .u64))))) : Int)) ∧
 (Ob (Int.fdiv (wrap .u64 (lo * 2 ^ min (Int.toNat (wrap .u64 (val (y2 y_)))) (IntKind.bits .u64))) ((2 : Int) ^ min (32 : Nat) (IntKind.bits .u64)) = Int.fdiv (wrap .u64 (lo * 2 ^ min (Int.toNat (wrap .u64 (val (y2 y_)))) (IntKind.bits .u64))) ((2 : Int) ^ min (32 : Nat) (IntKind.bits .u64))) ∧
 (Ob (wrap .u64 (↑(BitVec.toNat (BitVec.ofInt (IntKind.bits .u64) (wrap .u64 (lo * 2 ^ min (Int.toNat (wrap .u64 (val (y2 y_)))) (IntKind.bits .u64))) &&& BitVec.ofInt (IntKind.bits .u64) (4294967295 : Int))) : Int) = wrap .u64 (↑(BitVec.toNat (BitVec.ofInt (IntKind.bits .u64) (wrap .u64 (lo * 2 ^ min (Int.toNat (wrap .u64 (val (y2 y_)))) (IntKind.bits .u64))) &&& BitVec.ofInt (IntKind.bits .u64) (4294967295 : Int))) : Int)) ∧
 (Ob (wrap .u64 (Int.tdiv (wrap .u64 (↑(BitVec.toNat (BitVec.ofInt (IntKind.bits .u64) (wrap .u64 (hi * 2 ^ min (Int.toNat (wrap .u64 (val (y2 y_)))) (IntKind.bits .u64))) ||| BitVec.ofInt (IntKind.bits .u64) (Int.fdiv lo ((2 : Int) ^ min (Int.toNat (wrap .u64 (64 - wrap .u64 (val (y2 y_))))) (IntKind.bits .u64))))) : Int)) (Int.fdiv (wrap .u64 (y_ * 2 ^ min (Int.toNat (wrap .u64 (val (y2 y_)))) (IntKind.bits .u64))) ((2 : Int) ^ min (32 : Nat) (IntKind.bits .u64)))) = v0.1.1) ∧
 (Ob (wrap .u64 (wrap .u64 (↑(BitVec.toNat (BitVec.ofInt (IntKind.bits .u64) (wrap .u64 (hi * 2 ^ min (Int.toNat (wrap .u64 (val (y2 y_)))) (IntKind.bits .u64))) ||| BitVec.ofInt (IntKind.bits .u64) (Int.fdiv lo ((2 : Int) ^ min (Int.toNat (wrap .u64 (64 - wrap .u64 (val (y2 y_))))) (IntKind.bits .u64))))) : Int) - wrap .u64 (wrap .u64 (Int.tdiv (wrap .u64 (↑(BitVec.toNat (BitVec.ofInt (IntKind.bits .u64) (wrap .u64 (hi * 2 ^ min (Int.toNat (wrap .u64 (val (y2 y_)))) (IntKind.bits .u64))) ||| BitVec.ofInt (IntKind.bits .u64) (Int.fdiv lo ((2 : Int) ^ min (Int.toNat (wrap .u64 (64 - wrap .u64 (val (y2 y_))))) (IntKind.bits .u64))))) : Int)) (Int.fdiv (wrap .u64 (y_ * 2 ^ min (Int.toNat (wrap .u64 (val (y2 y_)))) (IntKind.bits .u64))) ((2 : Int) ^ min (32 : Nat) (IntKind.bits .u64)))) * Int.fdiv (wrap .u64 (y_ * 2 ^ min (Int.toNat (wrap .u64 (val (y2 y_)))) (IntKind.bits .u64))) ((2 : Int) ^ min (32 : Nat) (IntKind.bits .u64)))) = v0.1.2) ∧
 True))))))))))) ∧
  (∀ (v0 : (Int × Int) × Nat), ((Option.bind (jad (y27 lo y_ (val (y2 y_))) v0.2 v0.1) fun y0 => Option.bind (y28 hi lo y_ (val (y2 y_)) y0) some) = some r →
 Br (decide (v0.1.1 ≥ 4294967296))
 (Br (decide (wrap .u64 (v0.1.2 + Int.fdiv (wrap .u64 (y_ * 2 ^ min (Int.toNat (wrap .u64 (val (y2 y_)))) (IntKind.bits .u64))) ((2 : Int) ^ min (32 : Nat) (IntKind.bits .u64))) ≥ 4294967296))
  ((Ob (Int.fdiv (wrap .u64 (y_ * 2 ^ min (Int.toNat (wrap .u64 (val (y2 y_)))) (IntKind.bits .u64))) ((2 : Int) ^ min (32 : Nat) (IntKind.bits .u64)) ≠ (0 : Int)) ∧
  ((∃ (v1 : Int × (Int × Int) × Nat), (Ob ((Option.bind (jad (y10 lo y_ (val (y2 y_))) v1.2.2 v1.2.1) fun y0 => Option.bind (y11 hi lo y_ v1.1 (val (y2 y_)) y0) some) = some r) ∧
 (Ob (wrap .u64 (y_ * 2 ^ min (Int.toNat (wrap .u64 (val (y2 y_)))) (IntKind.bits .u64)) = wrap .u64 (y_ * 2 ^ min (Int.toNat (wrap .u64 (val (y2 y_)))) (IntKind.bits .u64))) ∧
 (Ob (wrap .u64 (val (y2 y_)) = wrap .u64 (val (y2 y_))) ∧
 (Ob (Int.fdiv (wrap .u64 (y_ * 2 ^ min (Int.toNat (wrap .u64 (val (y2 y_)))) (IntKind.bits .u64))) ((2 : Int) ^ min (32 : Nat) (IntKind.bits .u64)) = Int.fdiv (wrap .u64 (y_ * 2 ^ min (Int.toNat (wrap .u64 (val (y2 y_)))) (IntKind.bits .u64))) ((2 : Int) ^ min (32 : Nat) (IntKind.bits .u64))) ∧
 (Ob (wrap .u64 (↑(BitVec.toNat (BitVec.ofInt (IntKind.bits .u64) (wrap .u64 (y_ * 2 ^ min (Int.toNat (wrap .u64 (val (y2 y_)))) (IntKind.bits .u64))) &&& BitVec.ofInt (IntKind.bits .u64) (4294967295 : Int))) : Int) = wrap .u64 (↑(BitVec.toNat (BitVec.ofInt (IntKind.bits .u64) (wrap .u64 (y_ * 2 ^ min (Int.toNat (wrap .u64 (val (y2 y_)))) (IntKind.bits .u64))) &&& BitVec.ofInt (IntKind.bits .u64) (4294967295 : Int))) : Int)) ∧
 (Ob (wrap .u64 (↑(BitVec.toNat (BitVec.ofInt (IntKind.bits .u64) (wrap .u64 (lo * 2 ^ min (Int.toNat (wrap .u64 (val (y2 y_)))) (IntKind.bits .u64))) &&& BitVec.ofInt (IntKind.bits .u64) (4294967295 : Int))) : Int) = wrap .u64 (↑(BitVec.toNat (BitVec.ofInt (IntKind.bits .u64) (wrap .u64 (lo * 2 ^ min (Int.toNat (wrap .u64 (val (y2 y_)))) (IntKind.bits .u64))) &&& BitVec.ofInt (IntKind.bits .u64) (4294967295 : Int))) : Int)) ∧
 (Ob (wrap .u64 (v0.1.1 - 1) = v1.1) ∧
 (Ob (wrap .u64 (wrap .u64 (wrap .u64 (wrap .u64 (wrap .u64 (↑(BitVec.toNat (BitVec.ofInt (IntKind.bits .u64) (wrap .u64 (hi * 2 ^ min (Int.toNat (wrap .u64 (val (y2 y_)))) (IntKind.bits .u64))) ||| BitVec.ofInt (IntKind.bits .u64) (Int.fdiv lo ((2 : Int) ^ min (Int.toNat (wrap .u64 (64 - wrap .u64 (val (y2 y_))))) (IntKind.bits .u64))))) : Int) * 4294967296) + Int.fdiv (wrap .u64 (lo * 2 ^ min (Int.toNat (wrap .u64 (val (y2 y_)))) (IntKind.bits .u64))) ((2 : Int) ^ min (32 : Nat) (IntKind.bits .u64))) - wrap .u64 (wrap .u64 (v0.1.1 - 1) * wrap .u64 (y_ * 2 ^ min (Int.toNat (wrap .u64 (val (y2 y_)))) (IntKind.bits .u64)))) - wrap .u64 (wrap .u64 (Int.tdiv (wrap .u64 (wrap .u64 (wrap .u64 (wrap .u64 (↑(BitVec.toNat (BitVec.ofInt (IntKind.bits .u64) (wrap .u64 (hi * 2 ^ min (Int.toNat (wrap .u64 (val (y2 y_)))) (IntKind.bits .u64))) ||| BitVec.ofInt (IntKind.bits .u64) (Int.fdiv lo ((2 : Int) ^ min (Int.toNat (wrap .u64 (64 - wrap .u64 (val (y2 y_))))) (IntKind.bits .u64))))) : Int) * 4294967296) + Int.fdiv (wrap .u64 (lo * 2 ^ min (Int.toNat (wrap .u64 (val (y2 y_)))) (IntKind.bits .u64))) ((2 : Int) ^ min (32 : Nat) (IntKind.bits .u64))) - wrap .u64 (wrap .u64 (v0.1.1 - 1) * wrap .u64 (y_ * 2 ^ min (Int.toNat (wrap .u64 (val (y2 y_)))) (IntKind.bits .u64))))) (Int.fdiv (wrap .u64 (y_ * 2 ^ min (Int.toNat (wrap .u64 (val (y2 y_)))) (IntKind.bits .u64))) ((2 : Int) ^ min (32 : Nat) (IntKind.bits .u64)))) * Int.fdiv (wrap .u64 (y_ * 2 ^ min (Int.toNat (wrap .u64 (val (y2 y_)))) (IntKind.bits .u64))) ((2 : Int) ^ min (32 : Nat) (IntKind.bits .u64)))) = v1.2.1.1) ∧
 (Ob (wrap .u64 (wrap .u64 (wrap .u64 (wrap .u64 (↑(BitVec.toNat (BitVec.ofInt (IntKind.bits .u64) (wrap .u64 (hi * 2 ^ min (Int.toNat (wrap .u64 (val (y2 y_)))) (IntKind.bits .u64))) ||| BitVec.ofInt (IntKind.bits .u64) (Int.fdiv lo ((2 : Int) ^ min (Int.toNat (wrap .u64 (64 - wrap .u64 (val (y2 y_))))) (IntKind.bits .u64))))) : Int) * 4294967296) + Int.fdiv (wrap .u64 (lo * 2 ^ min (Int.toNat (wrap .u64 (val (y2 y_)))) (IntKind.bits .u64))) ((2 : Int) ^ min (32 : Nat) (IntKind.bits .u64))) - wrap .u64 (wrap .u64 (v0.1.1 - 1) * wrap .u64 (y_ * 2 ^ min (Int.toNat (wrap .u64 (val (y2 y_)))) (IntKind.bits .u64)))) = wrap .u64 (wrap .u64 (wrap .u64 (wrap .u64 (↑(BitVec.toNat (BitVec.ofInt (IntKind.bits .u64) (wrap .u64 (hi * 2 ^ min (Int.toNat (wrap .u64 (val (y2 y_)))) (IntKind.bits .u64))) ||| BitVec.ofInt (IntKind.bits .u64) (Int.fdiv lo ((2 : Int) ^ min (Int.toNat (wrap .u64 (64 - wrap .u64 (val (y2 y_))))) (IntKind.bits .u64))))) : Int) * 4294967296) + Int.fdiv (wrap .u64 (lo * 2 ^ min (Int.toNat (wrap .u64 (val (y2 y_)))) (IntKind.bits .u64))) ((2 : Int) ^ min (32 : Nat) (IntKind.bits .u64))) - wrap .u64 (v1.1 * wrap .u64 (y_ * 2 ^ min (Int.toNat (wrap .u64 (val (y2 y_)))) (IntKind.bits .u64))))) ∧
 (Ob (wrap .u64 (Int.tdiv (wrap .u64 (wrap .u64 (wrap .u64 (wrap .u64 (↑(BitVec.toNat (BitVec.ofInt (IntKind.bits .u64) (wrap .u64 (hi * 2 ^ min (Int.toNat (wrap .u64 (val (y2 y_)))) (IntKind.bits .u64))) ||| BitVec.ofInt (IntKind.bits .u64) (Int.fdiv lo ((2 : Int) ^ min (Int.toNat (wrap .u64 (64 - wrap .u64 (val (y2 y_))))) (IntKind.bits .u64))))) : Int) * 4294967296) + Int.fdiv (wrap .u64 (lo * 2 ^ min (Int.toNat (wrap .u64 (val (y2 y_)))) (IntKind.bits .u64))) ((2 : Int) ^ min (32 : Nat) (IntKind.bits .u64))) - wrap .u64 (wrap .u64 (v0.1.1 - 1) * wrap .u64 (y_ * 2 ^ min (Int.toNat (wrap .u64 (val (y2 y_)))) (IntKind.bits .u64))))) (Int.fdiv (wrap .u64 (y_ * 2 ^ min (Int.toNat (wrap .u64 (val (y2 y_)))) (IntKind.bits .u64))) ((2 : Int) ^ min (32 : Nat) (IntKind.bits .u64)))) = v1.2.1.2) ∧
 True))))))))))) ∧
  (∀ (v1 : Int × (Int × Int) × Nat), ((Option.bind (jad (y10 lo y_ (val (y2 y_))) v1.2.2 v1.2.1) fun y0 => Option.bind (y11 hi lo y_ v1.1 (val (y2 y_)) y0) some) = some r →
 Br (decide (v1.2.1.2 ≥ 4294967296))
 (Br (decide (wrap .u64 (v1.2.1.1 + Int.fdiv (wrap .u64 (y_ * 2 ^ min (Int.toNat (wrap .u64 (val (y2 y_)))) (IntKind.bits .u64))) ((2 : Int) ^ min (32 : Nat) (IntKind.bits .u64))) ≥ 4294967296))
  ((Ob (0 ≤ wrap .u64 (val (y2 y_))) ∧
 (Ob True ∧
 (Ob True ∧
 (Ob (wrap .u64 (wrap .u64 (v1.1 * 4294967296) + wrap .u64 (v1.2.1.2 - 1)) = r.1) ∧
 (Ob (Int.fdiv (wrap .u64 (wrap .u64 (wrap .u64 (wrap .u64 (wrap .u64 (wrap .u64 (wrap .u64 (↑(BitVec.toNat (BitVec.ofInt (IntKind.bits .u64) (wrap .u64 (hi * 2 ^ min (Int.toNat (wrap .u64 (val (y2 y_)))) (IntKind.bits .u64))) ||| BitVec.ofInt (IntKind.bits .u64) (Int.fdiv lo ((2 : Int) ^ min (Int.toNat (wrap .u64 (64 - wrap .u64 (val (y2 y_))))) (IntKind.bits .u64))))) : Int) * 4294967296) + Int.fdiv (wrap .u64 (lo * 2 ^ min (Int.toNat (wrap .u64 (val (y2 y_)))) (IntKind.bits .u64))) ((2 : Int) ^ min (32 : Nat) (IntKind.bits .u64))) - wrap .u64 (v1.1 * wrap .u64 (y_ * 2 ^ min (Int.toNat (wrap .u64 (val (y2 y_)))) (IntKind.bits .u64)))) * 4294967296) + wrap .u64 (↑(BitVec.toNat (BitVec.ofInt (IntKind.bits .u64) (wrap .u64 (lo * 2 ^ min (Int.toNat (wrap .u64 (val (y2 y_)))) (IntKind.bits .u64))) &&& BitVec.ofInt (IntKind.bits .u64) (4294967295 : Int))) : Int)) - wrap .u64 (wrap .u64 (v1.2.1.2 - 1) * wrap .u64 (y_ * 2 ^ min (Int.toNat (wrap .u64 (val (y2 y_)))) (IntKind.bits .u64))))) ((2 : Int) ^ min (Int.toNat (wrap .u64 (val (y2 y_)))) (IntKind.bits .u64)) = r.2) ∧
 True))))))
  ((∃ (v2 : Int × (Int × Int) × Nat), (Ob ((Option.bind (jad (y10 lo y_ (val (y2 y_))) v2.2.2 v2.2.1) fun y0 => Option.bind (y11 hi lo y_ v2.1 (val (y2 y_)) y0) some) = some r) ∧
 (Ob (v2.2.2 < v1.2.2) ∧
 (Ob (wrap .u64 (y_ * 2 ^ min (Int.toNat (wrap .u64 (val (y2 y_)))) (IntKind.bits .u64)) = wrap .u64 (y_ * 2 ^ min (Int.toNat (wrap .u64 (val (y2 y_)))) (IntKind.bits .u64))) ∧
 (Ob (wrap .u64 (val (y2 y_)) = wrap .u64 (val (y2 y_))) ∧
 (Ob (Int.fdiv (wrap .u64 (y_ * 2 ^ min (Int.toNat (wrap .u64 (val (y2 y_)))) (IntKind.bits .u64))) ((2 : Int) ^ min (32 : Nat) (IntKind.bits .u64)) = Int.fdiv (wrap .u64 (y_ * 2 ^ min (Int.toNat (wrap .u64 (val (y2 y_)))) (IntKind.bits .u64))) ((2 : Int) ^ min (32 : Nat) (IntKind.bits .u64))) ∧
 (Ob (wrap .u64 (↑(BitVec.toNat (BitVec.ofInt (IntKind.bits .u64) (wrap .u64 (y_ * 2 ^ min (Int.toNat (wrap .u64 (val (y2 y_)))) (IntKind.bits .u64))) &&& BitVec.ofInt (IntKind.bits .u64) (4294967295 : Int))) : Int) = wrap .u64 (↑(BitVec.toNat (BitVec.ofInt (IntKind.bits .u64) (wrap .u64 (y_ * 2 ^ min (Int.toNat (wrap .u64 (val (y2 y_)))) (IntKind.bits .u64))) &&& BitVec.ofInt (IntKind.bits .u64) (4294967295 : Int))) : Int)) ∧
 (Ob (wrap .u64 (↑(BitVec.toNat (BitVec.ofInt (IntKind.bits .u64) (wrap .u64 (lo * 2 ^ min (Int.toNat (wrap .u64 (val (y2 y_)))) (IntKind.bits .u64))) &&& BitVec.ofInt (IntKind.bits .u64) (4294967295 : Int))) : Int) = wrap .u64 (↑(BitVec.toNat (BitVec.ofInt (IntKind.bits .u64) (wrap .u64 (lo * 2 ^ min (Int.toNat (wrap .u64 (val (y2 y_)))) (IntKind.bits .u64))) &&& BitVec.ofInt (IntKind.bits .u64) (4294967295 : Int))) : Int)) ∧
 (Ob (v1.1 = v2.1) ∧
 (Ob (wrap .u64 (v1.2.1.1 + Int.fdiv (wrap .u64 (y_ * 2 ^ min (Int.toNat (wrap .u64 (val (y2 y_)))) (IntKind.bits .u64))) ((2 : Int) ^ min (32 : Nat) (IntKind.bits .u64))) = v2.2.1.1) ∧
 (Ob (wrap .u64 (wrap .u64 (wrap .u64 (wrap .u64 (↑(BitVec.toNat (BitVec.ofInt (IntKind.bits .u64) (wrap .u64 (hi * 2 ^ min (Int.toNat (wrap .u64 (val (y2 y_)))) (IntKind.bits .u64))) ||| BitVec.ofInt (IntKind.bits .u64) (Int.fdiv lo ((2 : Int) ^ min (Int.toNat (wrap .u64 (64 - wrap .u64 (val (y2 y_))))) (IntKind.bits .u64))))) : Int) * 4294967296) + Int.fdiv (wrap .u64 (lo * 2 ^ min (Int.toNat (wrap .u64 (val (y2 y_)))) (IntKind.bits .u64))) ((2 : Int) ^ min (32 : Nat) (IntKind.bits .u64))) - wrap .u64 (v1.1 * wrap .u64 (y_ * 2 ^ min (Int.toNat (wrap .u64 (val (y2 y_)))) (IntKind.bits .u64)))) = wrap .u64 (wrap .u64 (wrap .u64 (wrap .u64 (↑(BitVec.toNat (BitVec.ofInt (IntKind.bits .u64) (wrap .u64 (hi * 2 ^ min (Int.toNat (wrap .u64 (val (y2 y_)))) (IntKind.bits .u64))) ||| BitVec.ofInt (IntKind.bits .u64) (Int.fdiv lo ((2 : Int) ^ min (Int.toNat (wrap .u64 (64 - wrap .u64 (val (y2 y_))))) (IntKind.bits .u64))))) : Int) * 4294967296) + Int.fdiv (wrap .u64 (lo * 2 ^ min (Int.toNat (wrap .u64 (val (y2 y_)))) (IntKind.bits .u64))) ((2 : Int) ^ min (32 : Nat) (IntKind.bits .u64))) - wrap .u64 (v2.1 * wrap .u64 (y_ * 2 ^ min (Int.toNat (wrap .u64 (val (y2 y_)))) (IntKind.bits .u64))))) ∧
 (Ob (wrap .u64 (v1.2.1.2 - 1) = v2.2.1.2) ∧
 True))))))))))))))
 (Br (decide (wrap .u64 (v1.2.1.2 * wrap .u64 (↑(BitVec.toNat (BitVec.ofInt (IntKind.bits .u64) (wrap .u64 (y_ * 2 ^ min (Int.toNat (wrap .u64 (val (y2 y_)))) (IntKind.bits .u64))) &&& BitVec.ofInt (IntKind.bits .u64) (4294967295 : Int))) : Int)) > wrap .u64 (wrap .u64 (4294967296 * v1.2.1.1) + wrap .u64 (↑(BitVec.toNat (BitVec.ofInt (IntKind.bits .u64) (wrap .u64 (lo * 2 ^ min (Int.toNat (wrap .u64 (val (y2 y_)))) (IntKind.bits .u64))) &&& BitVec.ofInt (IntKind.bits .u64) (4294967295 : Int))) : Int))))
 (Br (decide (wrap .u64 (v1.2.1.1 + Int.fdiv (wrap .u64 (y_ * 2 ^ min (Int.toNat (wrap .u64 (val (y2 y_)))) (IntKind.bits .u64))) ((2 : Int) ^ min (32 : Nat) (IntKind.bits .u64))) ≥ 4294967296))
  ((Ob (0 ≤ wrap .u64 (val (y2 y_))) ∧
 (Ob True ∧
 (Ob True ∧
 (Ob (wrap .u64 (wrap .u64 (v1.1 * 4294967296) + wrap .u64 (v1.2.1.2 - 1)) = r.1) ∧
 (Ob (Int.fdiv (wrap .u64 (wrap .u64 (wrap .u64 (wrap .u64 (wrap .u64 (wrap .u64 (wrap .u64 (↑(BitVec.toNat (BitVec.ofInt (IntKind.bits .u64) (wrap .u64 (hi * 2 ^ min (Int.toNat (wrap .u64 (val (y2 y_)))) (IntKind.bits .u64))) ||| BitVec.ofInt (IntKind.bits .u64) (Int.fdiv lo ((2 : Int) ^ min (Int.toNat (wrap .u64 (64 - wrap .u64 (val (y2 y_))))) (IntKind.bits .u64))))) : Int) * 4294967296) + Int.fdiv (wrap .u64 (lo * 2 ^ min (Int.toNat (wrap .u64 (val (y2 y_)))) (IntKind.bits .u64))) ((2 : Int) ^ min (32 : Nat) (IntKind.bits .u64))) - wrap .u64 (v1.1 * wrap .u64 (y_ * 2 ^ min (Int.toNat (wrap .u64 (val (y2 y_)))) (IntKind.bits .u64)))) * 4294967296) + wrap .u64 (↑(BitVec.toNat (BitVec.ofInt (IntKind.bits .u64) (wrap .u64 (lo * 2 ^ min (Int.toNat (wrap .u64 (val (y2 y_)))) (IntKind.bits .u64))) &&& BitVec.ofInt (IntKind.bits .u64) (4294967295 : Int))) : Int)) - wrap .u64 (wrap .u64 (v1.2.1.2 - 1) * wrap .u64 (y_ * 2 ^ min (Int.toNat (wrap .u64 (val (y2 y_)))) (IntKind.bits .u64))))) ((2 : Int) ^ min (Int.toNat (wrap .u64 (val (y2 y_)))) (IntKind.bits .u64)) = r.2) ∧
 True))))))
  ((∃ (v2 : Int × (Int × Int) × Nat), (Ob ((Option.bind (jad (y10 lo y_ (val (y2 y_))) v2.2.2 v2.2.1) fun y0 => Option.bind (y11 hi lo y_ v2.1 (val (y2 y_)) y0) some) = some r) ∧
 (Ob (v2.2.2 < v1.2.2) ∧
 (Ob (wrap .u64 (y_ * 2 ^ min (Int.toNat (wrap .u64 (val (y2 y_)))) (IntKind.bits .u64)) = wrap .u64 (y_ * 2 ^ min (Int.toNat (wrap .u64 (val (y2 y_)))) (IntKind.bits .u64))) ∧
 (Ob (wrap .u64 (val (y2 y_)) = wrap .u64 (val (y2 y_))) ∧
 (Ob (Int.fdiv (wrap .u64 (y_ * 2 ^ min (Int.toNat (wrap .u64 (val (y2 y_)))) (IntKind.bits .u64))) ((2 : Int) ^ min (32 : Nat) (IntKind.bits .u64)) = Int.fdiv (wrap .u64 (y_ * 2 ^ min (Int.toNat (wrap .u64 (val (y2 y_)))) (IntKind.bits .u64))) ((2 : Int) ^ min (32 : Nat) (IntKind.bits .u64))) ∧
 (Ob (wrap .u64 (↑(BitVec.toNat (BitVec.ofInt (IntKind.bits .u64) (wrap .u64 (y_ * 2 ^ min (Int.toNat (wrap .u64 (val (y2 y_)))) (IntKind.bits .u64))) &&& BitVec.ofInt (IntKind.bits .u64) (4294967295 : Int))) : Int) = wrap .u64 (↑(BitVec.toNat (BitVec.ofInt (IntKind.bits .u64) (wrap .u64 (y_ * 2 ^ min (Int.toNat (wrap .u64 (val (y2 y_)))) (IntKind.bits .u64))) &&& BitVec.ofInt (IntKind.bits .u64) (4294967295 : Int))) : Int)) ∧
 (Ob (wrap .u64 (↑(BitVec.toNat (BitVec.ofInt (IntKind.bits .u64) (wrap .u64 (lo * 2 ^ min (Int.toNat (wrap .u64 (val (y2 y_)))) (IntKind.bits .u64))) &&& BitVec.ofInt (IntKind.bits .u64) (4294967295 : Int))) : Int) = wrap .u64 (↑(BitVec.toNat (BitVec.ofInt (IntKind.bits .u64) (wrap .u64 (lo * 2 ^ min (Int.toNat (wrap .u64 (val (y2 y_)))) (IntKind.bits .u64))) &&& BitVec.ofInt (IntKind.bits .u64) (4294967295 : Int))) : Int)) ∧
 (Ob (v1.1 = v2.1) ∧
 (Ob (wrap .u64 (v1.2.1.1 + Int.fdiv (wrap .u64 (y_ * 2 ^ min (Int.toNat (wrap .u64 (val (y2 y_)))) (IntKind.bits .u64))) ((2 : Int) ^ min (32 : Nat) (IntKind.bits .u64))) = v2.2.1.1) ∧
 (Ob (wrap .u64 (wrap .u64 (wrap .u64 (wrap .u64 (↑(BitVec.toNat (BitVec.ofInt (IntKind.bits .u64) (wrap .u64 (hi * 2 ^ min (Int.toNat (wrap .u64 (val (y2 y_)))) (IntKind.bits .u64))) ||| BitVec.ofInt (IntKind.bits .u64) (Int.fdiv lo ((2 : Int) ^ min (Int.toNat (wrap .u64 (64 - wrap .u64 (val (y2 y_))))) (IntKind.bits .u64))))) : Int) * 4294967296) + Int.fdiv (wrap .u64 (lo * 2 ^ min (Int.toNat (wrap .u64 (val (y2 y_)))) (IntKind.bits .u64))) ((2 : Int) ^ min (32 : Nat) (IntKind.bits .u64))) - wrap .u64 (v1.1 * wrap .u64 (y_ * 2 ^ min (Int.toNat (wrap .u64 (val (y2 y_)))) (IntKind.bits .u64)))) = wrap .u64 (wrap .u64 (wrap .u64 (wrap .u64 (↑(BitVec.toNat (BitVec.ofInt (IntKind.bits .u64) (wrap .u64 (hi * 2 ^ min (Int.toNat (wrap .u64 (val (y2 y_)))) (IntKind.bits .u64))) ||| BitVec.ofInt (IntKind.bits .u64) (Int.fdiv lo ((2 : Int) ^ min (Int.toNat (wrap .u64 (64 - wrap .u64 (val (y2 y_))))) (IntKind.bits .u64))))) : Int) * 4294967296) + Int.fdiv (wrap .u64 (lo * 2 ^ min (Int.toNat (wrap .u64 (val (y2 y_)))) (IntKind.bits .u64))) ((2 : Int) ^ min (32 : Nat) (IntKind.bits .u64))) - wrap .u64 (v2.1 * wrap .u64 (y_ * 2 ^ min (Int.toNat (wrap .u64 (val (y2 y_)))) (IntKind.bits .u64))))) ∧
 (Ob (wrap .u64 (v1.2.1.2 - 1) = v2.2.1.2) ∧
 True))))))))))))))
  ((Ob (0 ≤ wrap .u64 (val (y2 y_))) ∧
 (Ob True ∧
 (Ob True ∧
 (Ob (wrap .u64 (wrap .u64 (v1.1 * 4294967296) + v1.2.1.2) = r.1) ∧
 (Ob (Int.fdiv (wrap .u64 (wrap .u64 (wrap .u64 (wrap .u64 (wrap .u64 (wrap .u64 (wrap .u64 (↑(BitVec.toNat (BitVec.ofInt (IntKind.bits .u64) (wrap .u64 (hi * 2 ^ min (Int.toNat (wrap .u64 (val (y2 y_)))) (IntKind.bits .u64))) ||| BitVec.ofInt (IntKind.bits .u64) (Int.fdiv lo ((2 : Int) ^ min (Int.toNat (wrap .u64 (64 - wrap .u64 (val (y2 y_))))) (IntKind.bits .u64))))) : Int) * 4294967296) + Int.fdiv (wrap .u64 (lo * 2 ^ min (Int.toNat (wrap .u64 (val (y2 y_)))) (IntKind.bits .u64))) ((2 : Int) ^ min (32 : Nat) (IntKind.bits .u64))) - wrap .u64 (v1.1 * wrap .u64 (y_ * 2 ^ min (Int.toNat (wrap .u64 (val (y2 y_)))) (IntKind.bits .u64)))) * 4294967296) + wrap .u64 (↑(BitVec.toNat (BitVec.ofInt (IntKind.bits .u64) (wrap .u64 (lo * 2 ^ min (Int.toNat (wrap .u64 (val (y2 y_)))) (IntKind.bits .u64))) &&& BitVec.ofInt (IntKind.bits .u64) (4294967295 : Int))) : Int)) - wrap .u64 (v1.2.1.2 * wrap .u64 (y_ * 2 ^ min (Int.toNat (wrap .u64 (val (y2 y_)))) (IntKind.bits .u64))))) ((2 : Int) ^ min (Int.toNat (wrap .u64 (val (y2 y_)))) (IntKind.bits .u64)) = r.2) ∧
 True))))))))))))
  ((∃ (v1 : (Int × Int) × Nat), (Ob ((Option.bind (jad (y27 lo y_ (val (y2 y_))) v1.2 v1.1) fun y0 => Option.bind (y28 hi lo y_ (val (y2 y_)) y0) some) = some r) ∧
 (Ob (v1.2 < v0.2) ∧
 (Ob (wrap .u64 (y_ * 2 ^ min (Int.toNat (wrap .u64 (val (y2 y_)))) (IntKind.bits .u64)) = wrap .u64 (y_ * 2 ^ min (Int.toNat (wrap .u64 (val (y2 y_)))) (IntKind.bits .u64))) ∧
 (Ob (wrap .u64 (val (y2 y_)) = wrap .u64 (val (y2 y_))) ∧
 (Ob (Int.fdiv (wrap .u64 (y_ * 2 ^ min (Int.toNat (wrap .u64 (val (y2 y_)))) (IntKind.bits .u64))) ((2 : Int) ^ min (32 : Nat) (IntKind.bits .u64)) = Int.fdiv (wrap .u64 (y_ * 2 ^ min (Int.toNat (wrap .u64 (val (y2 y_)))) (IntKind.bits .u64))) ((2 : Int) ^ min (32 : Nat) (IntKind.bits .u64))) ∧
 (Ob (wrap .u64 (↑(BitVec.toNat (BitVec.ofInt (IntKind.bits .u64) (wrap .u64 (y_ * 2 ^ min (Int.toNat (wrap .u64 (val (y2 y_)))) (IntKind.bits .u64))) &&& BitVec.ofInt (IntKind.bits .u64) (4294967295 : Int))) : Int) = wrap .u64 (↑(BitVec.toNat (BitVec.ofInt (IntKind.bits .u64) (wrap .u64 (y_ * 2 ^ min (Int.toNat (wrap .u64 (val (y2 y_)))) (IntKind.bits .u64))) &&& BitVec.ofInt (IntKind.bits .u64) (4294967295 : Int))) : Int)) ∧
 (Ob (wrap .u64 (↑(BitVec.toNat (BitVec.ofInt (IntKind.bits .u64) (wrap .u64 (hi * 2 ^ min (Int.toNat (wrap .u64 (val (y2 y_)))) (IntKind.bits .u64))) ||| BitVec.ofInt (IntKind.bits .u64) (Int.fdiv lo ((2 : Int) ^ min (Int.toNat (wrap .u64 (64 - wrap .u64 (val (y2 y_))))) (IntKind.bits .u64))))) : Int) = wrap .u64 (↑(BitVec.toNat (BitVec.ofInt (IntKind.bits .u64) (wrap .u64 (hi * 2 ^ min (Int.toNat (wrap .u64 (val (y2 y_)))) (IntKind.bits .u64))) ||| BitVec.ofInt (IntKind.bits .u64) (Int.fdiv lo ((2 : Int) ^ min (Int.toNat (wrap .u64 (64 - wrap .u64 (val (y2 y_))))) (IntKind.bits .u64))))) : Int)) ∧
 (Ob (Int.fdiv (wrap .u64 (lo * 2 ^ min (Int.toNat (wrap .u64 (val (y2 y_)))) (IntKind.bits .u64))) ((2 : Int) ^ min (32 : Nat) (IntKind.bits .u64)) = Int.fdiv (wrap .u64 (lo * 2 ^ min (Int.toNat (wrap .u64 (val (y2 y_)))) (IntKind.bits .u64))) ((2 : Int) ^ min (32 : Nat) (IntKind.bits .u64))) ∧
 (Ob (wrap .u64 (↑(BitVec.toNat (BitVec.ofInt (IntKind.bits .u64) (wrap .u64 (lo * 2 ^ min (Int.toNat (wrap .u64 (val (y2 y_)))) (IntKind.bits .u64))) &&& BitVec.ofInt (IntKind.bits .u64) (4294967295 : Int))) : Int) = wrap .u64 (↑(BitVec.toNat (BitVec.ofInt (IntKind.bits .u64) (wrap .u64 (lo * 2 ^ min (Int.toNat (wrap .u64 (val (y2 y_)))) (IntKind.bits .u64))) &&& BitVec.ofInt (IntKind.bits .u64) (4294967295 : Int))) : Int)) ∧
 (Ob (wrap .u64 (v0.1.1 - 1) = v1.1.1) ∧
 (Ob (wrap .u64 (v0.1.2 + Int.fdiv (wrap .u64 (y_ * 2 ^ min (Int.toNat (wrap .u64 (val (y2 y_)))) (IntKind.bits .u64))) ((2 : Int) ^ min (32 : Nat) (IntKind.bits .u64))) = v1.1.2) ∧
 True))))))))))))))
 (Br (decide (wrap .u64 (v0.1.1 * wrap .u64 (↑(BitVec.toNat (BitVec.ofInt (IntKind.bits .u64) (wrap .u64 (y_ * 2 ^ min (Int.toNat (wrap .u64 (val (y2 y_)))) (IntKind.bits .u64))) &&& BitVec.ofInt (IntKind.bits .u64) (4294967295 : Int))) : Int)) > wrap .u64 (wrap .u64 (4294967296 * v0.1.2) + Int.fdiv (wrap .u64 (lo * 2 ^ min (Int.toNat (wrap .u64 (val (y2 y_)))) (IntKind.bits .u64))) ((2 : Int) ^ min (32 : Nat) (IntKind.bits .u64)))))
 (Br (decide (wrap .u64 (v0.1.2 + Int.fdiv (wrap .u64 (y_ * 2 ^ min (Int.toNat (wrap .u64 (val (y2 y_)))) (IntKind.bits .u64))) ((2 : Int) ^ min (32 : Nat) (IntKind.bits .u64))) ≥ 4294967296))
  ((Ob (Int.fdiv (wrap .u64 (y_ * 2 ^ min (Int.toNat (wrap .u64 (val (y2 y_)))) (IntKind.bits .u64))) ((2 : Int) ^ min (32 : Nat) (IntKind.bits .u64)) ≠ (0 : Int)) ∧
  ((∃ (v1 : Int × (Int × Int) × Nat), (Ob ((Option.bind (jad (y10 lo y_ (val (y2 y_))) v1.2.2 v1.2.1) fun y0 => Option.bind (y11 hi lo y_ v1.1 (val (y2 y_)) y0) some) = some r) ∧
 (Ob (wrap .u64 (y_ * 2 ^ min (Int.toNat (wrap .u64 (val (y2 y_)))) (IntKind.bits .u64)) = wrap .u64 (y_ * 2 ^ min (Int.toNat (wrap .u64 (val (y2 y_)))) (IntKind.bits .u64))) ∧
 (Ob (wrap .u64 (val (y2 y_)) = wrap .u64 (val (y2 y_))) ∧
 (Ob (Int.fdiv (wrap .u64 (y_ * 2 ^ min (Int.toNat (wrap .u64 (val (y2 y_)))) (IntKind.bits .u64))) ((2 : Int) ^ min (32 : Nat) (IntKind.bits .u64)) = Int.fdiv (wrap .u64 (y_ * 2 ^ min (Int.toNat (wrap .u64 (val (y2 y_)))) (IntKind.bits .u64))) ((2 : Int) ^ min (32 : Nat) (IntKind.bits .u64))) ∧
 (Ob (wrap .u64 (↑(BitVec.toNat (BitVec.ofInt (IntKind.bits .u64) (wrap .u64 (y_ * 2 ^ min (Int.toNat (wrap .u64 (val (y2 y_)))) (IntKind.bits .u64))) &&& BitVec.ofInt (IntKind.bits .u64) (4294967295 : Int))) : Int) = wrap .u64 (↑(BitVec.toNat (BitVec.ofInt (IntKind.bits .u64) (wrap .u64 (y_ * 2 ^ min (Int.toNat (wrap .u64 (val (y2 y_)))) (IntKind.bits .u64))) &&& BitVec.ofInt (IntKind.bits .u64) (4294967295 : Int))) : Int)) ∧
 (Ob (wrap .u64 (↑(BitVec.toNat (BitVec.ofInt (IntKind.bits .u64) (wrap .u64 (lo * 2 ^ min (Int.toNat (wrap .u64 (val (y2 y_)))) (IntKind.bits .u64))) &&& BitVec.ofInt (IntKind.bits .u64) (4294967295 : Int))) : Int) = wrap .u64 (↑(BitVec.toNat (BitVec.ofInt (IntKind.bits .u64) (wrap .u64 (lo * 2 ^ min (Int.toNat (wrap .u64 (val (y2 y_)))) (IntKind.bits .u64))) &&& BitVec.ofInt (IntKind.bits .u64) (4294967295 : Int))) : Int)) ∧
 (Ob (wrap .u64 (v0.1.1 - 1) = v1.1) ∧
 (Ob (wrap .u64 (wrap .u64 (wrap .u64 (wrap .u64 (wrap .u64 (↑(BitVec.toNat (BitVec.ofInt (IntKind.bits .u64) (wrap .u64 (hi * 2 ^ min (Int.toNat (wrap .u64 (val (y2 y_)))) (IntKind.bits .u64))) ||| BitVec.ofInt (IntKind.bits .u64) (Int.fdiv lo ((2 : Int) ^ min (Int.toNat (wrap .u64 (64 - wrap .u64 (val (y2 y_))))) (IntKind.bits .u64))))) : Int) * 4294967296) + Int.fdiv (wrap .u64 (lo * 2 ^ min (Int.toNat (wrap .u64 (val (y2 y_)))) (IntKind.bits .u64))) ((2 : Int) ^ min (32 : Nat) (IntKind.bits .u64))) - wrap .u64 (wrap .u64 (v0.1.1 - 1) * wrap .u64 (y_ * 2 ^ min (Int.toNat (wrap .u64 (val (y2 y_)))) (IntKind.bits .u64)))) - wrap .u64 (wrap .u64 (Int.tdiv (wrap .u64 (wrap .u64 (wrap .u64 (wrap .u64 (↑(BitVec.toNat (BitVec.ofInt (IntKind.bits .u64) (wrap .u64 (hi * 2 ^ min (Int.toNat (wrap .u64 (val (y2 y_)))) (IntKind.bits .u64))) ||| BitVec.ofInt (IntKind.bits .u64) (Int.fdiv lo ((2 : Int) ^ min (Int.toNat (wrap .u64 (64 - wrap .u64 (val (y2 y_))))) (IntKind.bits .u64))))) : Int) * 4294967296) + Int.fdiv (wrap .u64 (lo * 2 ^ min (Int.toNat (wrap .u64 (val (y2 y_)))) (IntKind.bits .u64))) ((2 : Int) ^ min (32 : Nat) (IntKind.bits .u64))) - wrap .u64 (wrap .u64 (v0.1.1 - 1) * wrap .u64 (y_ * 2 ^ min (Int.toNat (wrap .u64 (val (y2 y_)))) (IntKind.bits .u64))))) (Int.fdiv (wrap .u64 (y_ * 2 ^ min (Int.toNat (wrap .u64 (val (y2 y_)))) (IntKind.bits .u64))) ((2 : Int) ^ min (32 : Nat) (IntKind.bits .u64)))) * Int.fdiv (wrap .u64 (y_ * 2 ^ min (Int.toNat (wrap .u64 (val (y2 y_)))) (IntKind.bits .u64))) ((2 : Int) ^ min (32 : Nat) (IntKind.bits .u64)))) = v1.2.1.1) ∧
 (Ob (wrap .u64 (wrap .u64 (wrap .u64 (wrap .u64 (↑(BitVec.toNat (BitVec.ofInt (IntKind.bits .u64) (wrap .u64 (hi * 2 ^ min (Int.toNat (wrap .u64 (val (y2 y_)))) (IntKind.bits .u64))) ||| BitVec.ofInt (IntKind.bits .u64) (Int.fdiv lo ((2 : Int) ^ min (Int.toNat (wrap .u64 (64 - wrap .u64 (val (y2 y_))))) (IntKind.bits .u64))))) : Int) * 4294967296) + Int.fdiv (wrap .u64 (lo * 2 ^ min (Int.toNat (wrap .u64 (val (y2 y_)))) (IntKind.bits .u64))) ((2 : Int) ^ min (32 : Nat) (IntKind.bits .u64))) - wrap .u64 (wrap .u64 (v0.1.1 - 1) * wrap .u64 (y_ * 2 ^ min (Int.toNat (wrap .u64 (val (y2 y_)))) (IntKind.bits .u64)))) = wrap .u64 (wrap .u64 (wrap .u64 (wrap .u64 (↑(BitVec.toNat (BitVec.ofInt (IntKind.bits .u64) (wrap .u64 (hi * 2 ^ min (Int.toNat (wrap .u64 (val (y2 y_)))) (IntKind.bits .u64))) ||| BitVec.ofInt (IntKind.bits .u64) (Int.fdiv lo ((2 : Int) ^ min (Int.toNat (wrap .u64 (64 - wrap .u64 (val (y2 y_))))) (IntKind.bits .u64))))) : Int) * 4294967296) + Int.fdiv (wrap .u64 (lo * 2 ^ min (Int.toNat (wrap .u64 (val (y2 y_)))) (IntKind.bits .u64))) ((2 : Int) ^ min (32 : Nat) (IntKind.bits .u64))) - wrap .u64 (v1.1 * wrap .u64 (y_ * 2 ^ min (Int.toNat (wrap .u64 (val (y2 y_)))) (IntKind.bits .u64))))) ∧
 (Ob (wrap .u64 (Int.tdiv (wrap .u64 (wrap .u64 (wrap .u64 (wrap .u64 (↑(BitVec.toNat (BitVec.ofInt (IntKind.bits .u64) (wrap .u64 (hi * 2 ^ min (Int.toNat (wrap .u64 (val (y2 y_)))) (IntKind.bits .u64))) ||| BitVec.ofInt (IntKind.bits .u64) (Int.fdiv lo ((2 : Int) ^ min (Int.toNat (wrap .u64 (64 - wrap .u64 (val (y2 y_))))) (IntKind.bits .u64))))) : Int) * 4294967296) + Int.fdiv (wrap .u64 (lo * 2 ^ min (Int.toNat (wrap .u64 (val (y2 y_)))) (IntKind.bits .u64))) ((2 : Int) ^ min (32 : Nat) (IntKind.bits .u64))) - wrap .u64 (wrap .u64 (v0.1.1 - 1) * wrap .u64 (y_ * 2 ^ min (Int.toNat (wrap .u64 (val (y2 y_)))) (IntKind.bits .u64))))) (Int.fdiv (wrap .u64 (y_ * 2 ^ min (Int.toNat (wrap .u64 (val (y2 y_)))) (IntKind.bits .u64))) ((2 : Int) ^ min (32 : Nat) (IntKind.bits .u64)))) = v1.2.1.2) ∧
 True))))))))))) ∧
  (∀ (v1 : Int × (Int × Int) × Nat), ((Option.bind (jad (y10 lo y_ (val (y2 y_))) v1.2.2 v1.2.1) fun y0 => Option.bind (y11 hi lo y_ v1.1 (val (y2 y_)) y0) some) = some r →
 Br (decide (v1.2.1.2 ≥ 4294967296))
 (Br (decide (wrap .u64 (v1.2.1.1 + Int.fdiv (wrap .u64 (y_ * 2 ^ min (Int.toNat (wrap .u64 (val (y2 y_)))) (IntKind.bits .u64))) ((2 : Int) ^ min (32 : Nat) (IntKind.bits .u64))) ≥ 4294967296))
  ((Ob (0 ≤ wrap .u64 (val (y2 y_))) ∧
 (Ob True ∧
 (Ob True ∧
 (Ob (wrap .u64 (wrap .u64 (v1.1 * 4294967296) + wrap .u64 (v1.2.1.2 - 1)) = r.1) ∧
 (Ob (Int.fdiv (wrap .u64 (wrap .u64 (wrap .u64 (wrap .u64 (wrap .u64 (wrap .u64 (wrap .u64 (↑(BitVec.toNat (BitVec.ofInt (IntKind.bits .u64) (wrap .u64 (hi * 2 ^ min (Int.toNat (wrap .u64 (val (y2 y_)))) (IntKind.bits .u64))) ||| BitVec.ofInt (IntKind.bits .u64) (Int.fdiv lo ((2 : Int) ^ min (Int.toNat (wrap .u64 (64 - wrap .u64 (val (y2 y_))))) (IntKind.bits .u64))))) : Int) * 4294967296) + Int.fdiv (wrap .u64 (lo * 2 ^ min (Int.toNat (wrap .u64 (val (y2 y_)))) (IntKind.bits .u64))) ((2 : Int) ^ min (32 : Nat) (IntKind.bits .u64))) - wrap .u64 (v1.1 * wrap .u64 (y_ * 2 ^ min (Int.toNat (wrap .u64 (val (y2 y_)))) (IntKind.bits .u64)))) * 4294967296) + wrap .u64 (↑(BitVec.toNat (BitVec.ofInt (IntKind.bits .u64) (wrap .u64 (lo * 2 ^ min (Int.toNat (wrap .u64 (val (y2 y_)))) (IntKind.bits .u64))) &&& BitVec.ofInt (IntKind.bits .u64) (4294967295 : Int))) : Int)) - wrap .u64 (wrap .u64 (v1.2.1.2 - 1) * wrap .u64 (y_ * 2 ^ min (Int.toNat (wrap .u64 (val (y2 y_)))) (IntKind.bits .u64))))) ((2 : Int) ^ min (Int.toNat (wrap .u64 (val (y2 y_)))) (IntKind.bits .u64)) = r.2) ∧
 True))))))
  ((∃ (v2 : Int × (Int × Int) × Nat), (Ob ((Option.bind (jad (y10 lo y_ (val (y2 y_))) v2.2.2 v2.2.1) fun y0 => Option.bind (y11 hi lo y_ v2.1 (val (y2 y_)) y0) some) = some r) ∧
 (Ob (v2.2.2 < v1.2.2) ∧
 (Ob (wrap .u64 (y_ * 2 ^ min (Int.toNat (wrap .u64 (val (y2 y_)))) (IntKind.bits .u64)) = wrap .u64 (y_ * 2 ^ min (Int.toNat (wrap .u64 (val (y2 y_)))) (IntKind.bits .u64))) ∧
 (Ob (wrap .u64 (val (y2 y_)) = wrap .u64 (val (y2 y_))) ∧
 (Ob (Int.fdiv (wrap .u64 (y_ * 2 ^ min (Int.toNat (wrap .u64 (val (y2 y_)))) (IntKind.bits .u64))) ((2 : Int) ^ min (32 : Nat) (IntKind.bits .u64)) = Int.fdiv (wrap .u64 (y_ * 2 ^ min (Int.toNat (wrap .u64 (val (y2 y_)))) (IntKind.bits .u64))) ((2 : Int) ^ min (32 : Nat) (IntKind.bits .u64))) ∧
 (Ob (wrap .u64 (↑(BitVec.toNat (BitVec.ofInt (IntKind.bits .u64) (wrap .u64 (y_ * 2 ^ min (Int.toNat (wrap .u64 (val (y2 y_)))) (IntKind.bits .u64))) &&& BitVec.ofInt (IntKind.bits .u64) (4294967295 : Int))) : Int) = wrap .u64 (↑(BitVec.toNat (BitVec.ofInt (IntKind.bits .u64) (wrap .u64 (y_ * 2 ^ min (Int.toNat (wrap .u64 (val (y2 y_)))) (IntKind.bits .u64))) &&& BitVec.ofInt (IntKind.bits .u64) (4294967295 : Int))) : Int)) ∧
 (Ob (wrap .u64 (↑(BitVec.toNat (BitVec.ofInt (IntKind.bits .u64) (wrap .u64 (lo * 2 ^ min (Int.toNat (wrap .u64 (val (y2 y_)))) (IntKind.bits .u64))) &&& BitVec.ofInt (IntKind.bits .u64) (4294967295 : Int))) : Int) = wrap .u64 (↑(BitVec.toNat (BitVec.ofInt (IntKind.bits .u64) (wrap .u64 (lo * 2 ^ min (Int.toNat (wrap .u64 (val (y2 y_)))) (IntKind.bits .u64))) &&& BitVec.ofInt (IntKind.bits .u64) (4294967295 : Int))) : Int)) ∧
 (Ob (v1.1 = v2.1) ∧
 (Ob (wrap .u64 (v1.2.1.1 + Int.fdiv (wrap .u64 (y_ * 2 ^ min (Int.toNat (wrap .u64 (val (y2 y_)))) (IntKind.bits .u64))) ((2 : Int) ^ min (32 : Nat) (IntKind.bits .u64))) = v2.2.1.1) ∧
 (Ob (wrap .u64 (wrap .u64 (wrap .u64 (wrap .u64 (↑(BitVec.toNat (BitVec.ofInt (IntKind.bits .u64) (wrap .u64 (hi * 2 ^ min (Int.toNat (wrap .u64 (val (y2 y_)))) (IntKind.bits .u64))) ||| BitVec.ofInt (IntKind.bits .u64) (Int.fdiv lo ((2 : Int) ^ min (Int.toNat (wrap .u64 (64 - wrap .u64 (val (y2 y_))))) (IntKind.bits .u64))))) : Int) * 4294967296) + Int.fdiv (wrap .u64 (lo * 2 ^ min (Int.toNat (wrap .u64 (val (y2 y_)))) (IntKind.bits .u64))) ((2 : Int) ^ min (32 : Nat) (IntKind.bits .u64))) - wrap .u64 (v1.1 * wrap .u64 (y_ * 2 ^ min (Int.toNat (wrap .u64 (val (y2 y_)))) (IntKind.bits .u64)))) = wrap .u64 (wrap .u64 (wrap .u64 (wrap .u64 (↑(BitVec.toNat (BitVec.ofInt (IntKind.bits .u64) (wrap .u64 (hi * 2 ^ min (Int.toNat (wrap .u64 (val (y2 y_)))) (IntKind.bits .u64))) ||| BitVec.ofInt (IntKind.bits .u64) (Int.fdiv lo ((2 : Int) ^ min (Int.toNat (wrap .u64 (64 - wrap .u64 (val (y2 y_))))) (IntKind.bits .u64))))) : Int) * 4294967296) + Int.fdiv (wrap .u64 (lo * 2 ^ min (Int.toNat (wrap .u64 (val (y2 y_)))) (IntKind.bits .u64))) ((2 : Int) ^ min (32 : Nat) (IntKind.bits .u64))) - wrap .u64 (v2.1 * wrap .u64 (y_ * 2 ^ min (Int.toNat (wrap .u64 (val (y2 y_)))) (IntKind.bits .u64))))) ∧
 (Ob (wrap .u64 (v1.2.1.2 - 1) = v2.2.1.2) ∧
 True))))))))))))))
 (Br (decide (wrap .u64 (v1.2.1.2 * wrap .u64 (↑(BitVec.toNat (BitVec.ofInt (IntKind.bits .u64) (wrap .u64 (y_ * 2 ^ min (Int.toNat (wrap .u64 (val (y2 y_)))) (IntKind.bits .u64))) &&& BitVec.ofInt (IntKind.bits .u64) (4294967295 : Int))) : Int)) > wrap .u64 (wrap .u64 (4294967296 * v1.2.1.1) + wrap .u64 (↑(BitVec.toNat (BitVec.ofInt (IntKind.bits .u64) (wrap .u64 (lo * 2 ^ min (Int.toNat (wrap .u64 (val (y2 y_)))) (IntKind.bits .u64))) &&& BitVec.ofInt (IntKind.bits .u64) (4294967295 : Int))) : Int))))
 (Br (decide (wrap .u64 (v1.2.1.1 + Int.fdiv (wrap .u64 (y_ * 2 ^ min (Int.toNat (wrap .u64 (val (y2 y_)))) (IntKind.bits .u64))) ((2 : Int) ^ min (32 : Nat) (IntKind.bits .u64))) ≥ 4294967296))
  ((Ob (0 ≤ wrap .u64 (val (y2 y_))) ∧
 (Ob True ∧
 (Ob True ∧
 (Ob (wrap .u64 (wrap .u64 (v1.1 * 4294967296) + wrap .u64 (v1.2.1.2 - 1)) = r.1) ∧
 (Ob (Int.fdiv (wrap .u64 (wrap .u64 (wrap .u64 (wrap .u64 (wrap .u64 (wrap .u64 (wrap .u64 (↑(BitVec.toNat (BitVec.ofInt (IntKind.bits .u64) (wrap .u64 (hi * 2 ^ min (Int.toNat (wrap .u64 (val (y2 y_)))) (IntKind.bits .u64))) ||| BitVec.ofInt (IntKind.bits .u64) (Int.fdiv lo ((2 : Int) ^ min (Int.toNat (wrap .u64 (64 - wrap .u64 (val (y2 y_))))) (IntKind.bits .u64))))) : Int) * 4294967296) + Int.fdiv (wrap .u64 (lo * 2 ^ min (Int.toNat (wrap .u64 (val (y2 y_)))) (IntKind.bits .u64))) ((2 : Int) ^ min (32 : Nat) (IntKind.bits .u64))) - wrap .u64 (v1.1 * wrap .u64 (y_ * 2 ^ min (Int.toNat (wrap .u64 (val (y2 y_)))) (IntKind.bits .u64)))) * 4294967296) + wrap .u64 (↑(BitVec.toNat (BitVec.ofInt (IntKind.bits .u64) (wrap .u64 (lo * 2 ^ min (Int.toNat (wrap .u64 (val (y2 y_)))) (IntKind.bits .u64))) &&& BitVec.ofInt (IntKind.bits .u64) (4294967295 : Int))) : Int)) - wrap .u64 (wrap .u64 (v1.2.1.2 - 1) * wrap .u64 (y_ * 2 ^ min (Int.toNat (wrap .u64 (val (y2 y_)))) (IntKind.bits .u64))))) ((2 : Int) ^ min (Int.toNat (wrap .u64 (val (y2 y_)))) (IntKind.bits .u64)) = r.2) ∧
 True))))))
  ((∃ (v2 : Int × (Int × Int) × Nat), (Ob ((Option.bind (jad (y10 lo y_ (val (y2 y_))) v2.2.2 v2.2.1) fun y0 => Option.bind (y11 hi lo y_ v2.1 (val (y2 y_)) y0) some) = some r) ∧
 (Ob (v2.2.2 < v1.2.2) ∧
 (Ob (wrap .u64 (y_ * 2 ^ min (Int.toNat (wrap .u64 (val (y2 y_)))) (IntKind.bits .u64)) = wrap .u64 (y_ * 2 ^ min (Int.toNat (wrap .u64 (val (y2 y_)))) (IntKind.bits .u64))) ∧
 (Ob (wrap .u64 (val (y2 y_)) = wrap .u64 (val (y2 y_))) ∧
 (Ob (Int.fdiv (wrap .u64 (y_ * 2 ^ min (Int.toNat (wrap .u64 (val (y2 y_)))) (IntKind.bits .u64))) ((2 : Int) ^ min (32 : Nat) (IntKind.bits .u64)) = Int.fdiv (wrap .u64 (y_ * 2 ^ min (Int.toNat (wrap .u64 (val (y2 y_)))) (IntKind.bits .u64))) ((2 : Int) ^ min (32 : Nat) (IntKind.bits .u64))) ∧
 (Ob (wrap .u64 (↑(BitVec.toNat (BitVec.ofInt (IntKind.bits .u64) (wrap .u64 (y_ * 2 ^ min (Int.toNat (wrap .u64 (val (y2 y_)))) (IntKind.bits .u64))) &&& BitVec.ofInt (IntKind.bits .u64) (4294967295 : Int))) : Int) = wrap .u64 (↑(BitVec.toNat (BitVec.ofInt (IntKind.bits .u64) (wrap .u64 (y_ * 2 ^ min (Int.toNat (wrap .u64 (val (y2 y_)))) (IntKind.bits .u64))) &&& BitVec.ofInt (IntKind.bits .u64) (4294967295 : Int))) : Int)) ∧
 (Ob (wrap .u64 (↑(BitVec.toNat (BitVec.ofInt (IntKind.bits .u64) (wrap .u64 (lo * 2 ^ min (Int.toNat (wrap .u64 (val (y2 y_)))) (IntKind.bits .u64))) &&& BitVec.ofInt (IntKind.bits .u64) (4294967295 : Int))) : Int) = wrap .u64 (↑(BitVec.toNat (BitVec.ofInt (IntKind.bits .u64) (wrap .u64 (lo * 2 ^ min (Int.toNat (wrap .u64 (val (y2 y_)))) (IntKind.bits .u64))) &&& BitVec.ofInt (IntKind.bits .u64) (4294967295 : Int))) : Int)) ∧
 (Ob (v1.1 = v2.1) ∧
 (Ob (wrap .u64 (v1.2.1.1 + Int.fdiv (wrap .u64 (y_ * 2 ^ min (Int.toNat (wrap .u64 (val (y2 y_)))) (IntKind.bits .u64))) ((2 : Int) ^ min (32 : Nat) (IntKind.bits .u64))) = v2.2.1.1) ∧
 (Ob (wrap .u64 (wrap .u64 (wrap .u64 (wrap .u64 (↑(BitVec.toNat (BitVec.ofInt (IntKind.bits .u64) (wrap .u64 (hi * 2 ^ min (Int.toNat (wrap .u64 (val (y2 y_)))) (IntKind.bits .u64))) ||| BitVec.ofInt (IntKind.bits .u64) (Int.fdiv lo ((2 : Int) ^ min (Int.toNat (wrap .u64 (64 - wrap .u64 (val (y2 y_))))) (IntKind.bits .u64))))) : Int) * 4294967296) + Int.fdiv (wrap .u64 (lo * 2 ^ min (Int.toNat (wrap .u64 (val (y2 y_)))) (IntKind.bits .u64))) ((2 : Int) ^ min (32 : Nat) (IntKind.bits .u64))) - wrap .u64 (v1.1 * wrap .u64 (y_ * 2 ^ min (Int.toNat (wrap .u64 (val (y2 y_)))) (IntKind.bits .u64)))) = wrap .u64 (wrap .u64 (wrap .u64 (wrap .u64 (↑(BitVec.toNat (BitVec.ofInt (IntKind.bits .u64) (wrap .u64 (hi * 2 ^ min (Int.toNat (wrap .u64 (val (y2 y_)))) (IntKind.bits .u64))) ||| BitVec.ofInt (IntKind.bits .u64) (Int.fdiv lo ((2 : Int) ^ min (Int.toNat (wrap .u64 (64 - wrap .u64 (val (y2 y_))))) (IntKind.bits .u64))))) : Int) * 4294967296) + Int.fdiv (wrap .u64 (lo * 2 ^ min (Int.toNat (wrap .u64 (val (y2 y_)))) (IntKind.bits .u64))) ((2 : Int) ^ min (32 : Nat) (IntKind.bits .u64))) - wrap .u64 (v2.1 * wrap .u64 (y_ * 2 ^ min (Int.toNat (wrap .u64 (val (y2 y_)))) (IntKind.bits .u64))))) ∧
 (Ob (wrap .u64 (v1.2.1.2 - 1) = v2.2.1.2) ∧
 True))))))))))))))
  ((Ob (0 ≤ wrap .u64 (val (y2 y_))) ∧
 (Ob True ∧
 (Ob True ∧
 (Ob (wrap .u64 (wrap .u64 (v1.1 * 4294967296) + v1.2.1.2) = r.1) ∧
 (Ob (Int.fdiv (wrap .u64 (wrap .u64 (wrap .u64 (wrap .u64 (wrap .u64 (wrap .u64 (wrap .u64 (↑(BitVec.toNat (BitVec.ofInt (IntKind.bits .u64) (wrap .u64 (hi * 2 ^ min (Int.toNat (wrap .u64 (val (y2 y_)))) (IntKind.bits .u64))) ||| BitVec.ofInt (IntKind.bits .u64) (Int.fdiv lo ((2 : Int) ^ min (Int.toNat (wrap .u64 (64 - wrap .u64 (val (y2 y_))))) (IntKind.bits .u64))))) : Int) * 4294967296) + Int.fdiv (wrap .u64 (lo * 2 ^ min (Int.toNat (wrap .u64 (val (y2 y_)))) (IntKind.bits .u64))) ((2 : Int) ^ min (32 : Nat) (IntKind.bits .u64))) - wrap .u64 (v1.1 * wrap .u64 (y_ * 2 ^ min (Int.toNat (wrap .u64 (val (y2 y_)))) (IntKind.bits .u64)))) * 4294967296) + wrap .u64 (↑(BitVec.toNat (BitVec.ofInt (IntKind.bits .u64) (wrap .u64 (lo * 2 ^ min (Int.toNat (wrap .u64 (val (y2 y_)))) (IntKind.bits .u64))) &&& BitVec.ofInt (IntKind.bits .u64) (4294967295 : Int))) : Int)) - wrap .u64 (v1.2.1.2 * wrap .u64 (y_ * 2 ^ min (Int.toNat (wrap .u64 (val (y2 y_)))) (IntKind.bits .u64))))) ((2 : Int) ^ min (Int.toNat (wrap .u64 (val (y2 y_)))) (IntKind.bits .u64)) = r.2) ∧
 True))))))))))))
  ((∃ (v1 : (Int × Int) × Nat), (Ob ((Option.bind (jad (y27 lo y_ (val (y2 y_))) v1.2 v1.1) fun y0 => Option.bind (y28 hi lo y_ (val (y2 y_)) y0) some) = some r) ∧
 (Ob (v1.2 < v0.2) ∧
 (Ob (wrap .u64 (y_ * 2 ^ min (Int.toNat (wrap .u64 (val (y2 y_)))) (IntKind.bits .u64)) = wrap .u64 (y_ * 2 ^ min (Int.toNat (wrap .u64 (val (y2 y_)))) (IntKind.bits .u64))) ∧
 (Ob (wrap .u64 (val (y2 y_)) = wrap .u64 (val (y2 y_))) ∧
 (Ob (Int.fdiv (wrap .u64 (y_ * 2 ^ min (Int.toNat (wrap .u64 (val (y2 y_)))) (IntKind.bits .u64))) ((2 : Int) ^ min (32 : Nat) (IntKind.bits .u64)) = Int.fdiv (wrap .u64 (y_ * 2 ^ min (Int.toNat (wrap .u64 (val (y2 y_)))) (IntKind.bits .u64))) ((2 : Int) ^ min (32 : Nat) (IntKind.bits .u64))) ∧
 (Ob (wrap .u64 (↑(BitVec.toNat (BitVec.ofInt (IntKind.bits .u64) (wrap .u64 (y_ * 2 ^ min (Int.toNat (wrap .u64 (val (y2 y_)))) (IntKind.bits .u64))) &&& BitVec.ofInt (IntKind.bits .u64) (4294967295 : Int))) : Int) = wrap .u64 (↑(BitVec.toNat (BitVec.ofInt (IntKind.bits .u64) (wrap .u64 (y_ * 2 ^ min (Int.toNat (wrap .u64 (val (y2 y_)))) (IntKind.bits .u64))) &&& BitVec.ofInt (IntKind.bits .u64) (4294967295 : Int))) : Int)) ∧
 (Ob (wrap .u64 (↑(BitVec.toNat (BitVec.ofInt (IntKind.bits .u64) (wrap .u64 (hi * 2 ^ min (Int.toNat (wrap .u64 (val (y2 y_)))) (IntKind.bits .u64))) ||| BitVec.ofInt (IntKind.bits .u64) (Int.fdiv lo ((2 : Int) ^ min (Int.toNat (wrap .u64 (64 - wrap .u64 (val (y2 y_))))) (IntKind.bits .u64))))) : Int) = wrap .u64 (↑(BitVec.toNat (BitVec.ofInt (IntKind.bits .u64) (wrap .u64 (hi * 2 ^ min (Int.toNat (wrap .u64 (val (y2 y_)))) (IntKind.bits .u64))) ||| BitVec.ofInt (IntKind.bits .u64) (Int.fdiv lo ((2 : Int) ^ min (Int.toNat (wrap .u64 (64 - wrap .u64 (val (y2 y_))))) (IntKind.bits .u64))))) : Int)) ∧
 (Ob (Int.fdiv (wrap .u64 (lo * 2 ^ min (Int.toNat (wrap .u64 (val (y2 y_)))) (IntKind.bits .u64))) ((2 : Int) ^ min (32 : Nat) (IntKind.bits .u64)) = Int.fdiv (wrap .u64 (lo * 2 ^ min (Int.toNat (wrap .u64 (val (y2 y_)))) (IntKind.bits .u64))) ((2 : Int) ^ min (32 : Nat) (IntKind.bits .u64))) ∧
 (Ob (wrap .u64 (↑(BitVec.toNat (BitVec.ofInt (IntKind.bits .u64) (wrap .u64 (lo * 2 ^ min (Int.toNat (wrap .u64 (val (y2 y_)))) (IntKind.bits .u64))) &&& BitVec.ofInt (IntKind.bits .u64) (4294967295 : Int))) : Int) = wrap .u64 (↑(BitVec.toNat (BitVec.ofInt (IntKind.bits .u64) (wrap .u64 (lo * 2 ^ min (Int.toNat (wrap .u64 (val (y2 y_)))) (IntKind.bits .u64))) &&& BitVec.ofInt (IntKind.bits .u64) (4294967295 : Int))) : Int)) ∧
 (Ob (wrap .u64 (v0.1.1 - 1) = v1.1.1) ∧
 (Ob (wrap .u64 (v0.1.2 + Int.fdiv (wrap .u64 (y_ * 2 ^ min (Int.toNat (wrap .u64 (val (y2 y_)))) (IntKind.bits .u64))) ((2 : Int) ^ min (32 : Nat) (IntKind.bits .u64))) = v1.1.2) ∧
 True))))))))))))))
  ((Ob (Int.fdiv (wrap .u64 (y_ * 2 ^ min (Int.toNat (wrap .u64 (val (y2 y_)))) (IntKind.bits .u64))) ((2 : Int) ^ min (32 : Nat) (IntKind.bits .u64)) ≠ (0 : Int)) ∧
  ((∃ (v1 : Int × (Int × Int) × Nat), (Ob ((Option.bind (jad (y10 lo y_ (val (y2 y_))) v1.2.2 v1.2.1) fun y0 => Option.bind (y11 hi lo y_ v1.1 (val (y2 y_)) y0) some) = some r) ∧
 (Ob (wrap .u64 (y_ * 2 ^ min (Int.toNat (wrap .u64 (val (y2 y_)))) (IntKind.bits .u64)) = wrap .u64 (y_ * 2 ^ min (Int.toNat (wrap .u64 (val (y2 y_)))) (IntKind.bits .u64))) ∧
 (Ob (wrap .u64 (val (y2 y_)) = wrap .u64 (val (y2 y_))) ∧
 (Ob (Int.fdiv (wrap .u64 (y_ * 2 ^ min (Int.toNat (wrap .u64 (val (y2 y_)))) (IntKind.bits .u64))) ((2 : Int) ^ min (32 : Nat) (IntKind.bits .u64)) = Int.fdiv (wrap .u64 (y_ * 2 ^ min (Int.toNat (wrap .u64 (val (y2 y_)))) (IntKind.bits .u64))) ((2 : Int) ^ min (32 : Nat) (IntKind.bits .u64))) ∧
 (Ob (wrap .u64 (↑(BitVec.toNat (BitVec.ofInt (IntKind.bits .u64) (wrap .u64 (y_ * 2 ^ min (Int.toNat (wrap .u64 (val (y2 y_)))) (IntKind.bits .u64))) &&& BitVec.ofInt (IntKind.bits .u64) (4294967295 : Int))) : Int) = wrap .u64 (↑(BitVec.toNat (BitVec.ofInt (IntKind.bits .u64) (wrap .u64 (y_ * 2 ^ min (Int.toNat (wrap .u64 (val (y2 y_)))) (IntKind.bits .u64))) &&& BitVec.ofInt (IntKind.bits .u64) (4294967295 : Int))) : Int)) ∧
 (Ob (wrap .u64 (↑(BitVec.toNat (BitVec.ofInt (IntKind.bits .u64) (wrap .u64 (lo * 2 ^ min (Int.toNat (wrap .u64 (val (y2 y_)))) (IntKind.bits .u64))) &&& BitVec.ofInt (IntKind.bits .u64) (4294967295 : Int))) : Int) = wrap .u64 (↑(BitVec.toNat (BitVec.ofInt (IntKind.bits .u64) (wrap .u64 (lo * 2 ^ min (Int.toNat (wrap .u64 (val (y2 y_)))) (IntKind.bits .u64))) &&& BitVec.ofInt (IntKind.bits .u64) (4294967295 : Int))) : Int)) ∧
 (Ob (v0.1.1 = v1.1) ∧
 (Ob (wrap .u64 (wrap .u64 (wrap .u64 (wrap .u64 (wrap .u64 (↑(BitVec.toNat (BitVec.ofInt (IntKind.bits .u64) (wrap .u64 (hi * 2 ^ min (Int.toNat (wrap .u64 (val (y2 y_)))) (IntKind.bits .u64))) ||| BitVec.ofInt (IntKind.bits .u64) (Int.fdiv lo ((2 : Int) ^ min (Int.toNat (wrap .u64 (64 - wrap .u64 (val (y2 y_))))) (IntKind.bits .u64))))) : Int) * 4294967296) + Int.fdiv (wrap .u64 (lo * 2 ^ min (Int.toNat (wrap .u64 (val (y2 y_)))) (IntKind.bits .u64))) ((2 : Int) ^ min (32 : Nat) (IntKind.bits .u64))) - wrap .u64 (v0.1.1 * wrap .u64 (y_ * 2 ^ min (Int.toNat (wrap .u64 (val (y2 y_)))) (IntKind.bits .u64)))) - wrap .u64 (wrap .u64 (Int.tdiv (wrap .u64 (wrap .u64 (wrap .u64 (wrap .u64 (↑(BitVec.toNat (BitVec.ofInt (IntKind.bits .u64) (wrap .u64 (hi * 2 ^ min (Int.toNat (wrap .u64 (val (y2 y_)))) (IntKind.bits .u64))) ||| BitVec.ofInt (IntKind.bits .u64) (Int.fdiv lo ((2 : Int) ^ min (Int.toNat (wrap .u64 (64 - wrap .u64 (val (y2 y_))))) (IntKind.bits .u64))))) : Int) * 4294967296) + Int.fdiv (wrap .u64 (lo * 2 ^ min (Int.toNat (wrap .u64 (val (y2 y_)))) (IntKind.bits .u64))) ((2 : Int) ^ min (32 : Nat) (IntKind.bits .u64))) - wrap .u64 (v0.1.1 * wrap .u64 (y_ * 2 ^ min (Int.toNat (wrap .u64 (val (y2 y_)))) (IntKind.bits .u64))))) (Int.fdiv (wrap .u64 (y_ * 2 ^ min (Int.toNat (wrap .u64 (val (y2 y_)))) (IntKind.bits .u64))) ((2 : Int) ^ min (32 : Nat) (IntKind.bits .u64)))) * Int.fdiv (wrap .u64 (y_ * 2 ^ min (Int.toNat (wrap .u64 (val (y2 y_)))) (IntKind.bits .u64))) ((2 : Int) ^ min (32 : Nat) (IntKind.bits .u64)))) = v1.2.1.1) ∧
 (Ob (wrap .u64 (wrap .u64 (wrap .u64 (wrap .u64 (↑(BitVec.toNat (BitVec.ofInt (IntKind.bits .u64) (wrap .u64 (hi * 2 ^ min (Int.toNat (wrap .u64 (val (y2 y_)))) (IntKind.bits .u64))) ||| BitVec.ofInt (IntKind.bits .u64) (Int.fdiv lo ((2 : Int) ^ min (Int.toNat (wrap .u64 (64 - wrap .u64 (val (y2 y_))))) (IntKind.bits .u64))))) : Int) * 4294967296) + Int.fdiv (wrap .u64 (lo * 2 ^ min (Int.toNat (wrap .u64 (val (y2 y_)))) (IntKind.bits .u64))) ((2 : Int) ^ min (32 : Nat) (IntKind.bits .u64))) - wrap .u64 (v0.1.1 * wrap .u64 (y_ * 2 ^ min (Int.toNat (wrap .u64 (val (y2 y_)))) (IntKind.bits .u64)))) = wrap .u64 (wrap .u64 (wrap .u64 (wrap .u64 (↑(BitVec.toNat (BitVec.ofInt (IntKind.bits .u64) (wrap .u64 (hi * 2 ^ min (Int.toNat (wrap .u64 (val (y2 y_)))) (IntKind.bits .u64))) ||| BitVec.ofInt (IntKind.bits .u64) (Int.fdiv lo ((2 : Int) ^ min (Int.toNat (wrap .u64 (64 - wrap .u64 (val (y2 y_))))) (IntKind.bits .u64))))) : Int) * 4294967296) + Int.fdiv (wrap .u64 (lo * 2 ^ min (Int.toNat (wrap .u64 (val (y2 y_)))) (IntKind.bits .u64))) ((2 : Int) ^ min (32 : Nat) (IntKind.bits .u64))) - wrap .u64 (v1.1 * wrap .u64 (y_ * 2 ^ min (Int.toNat (wrap .u64 (val (y2 y_)))) (IntKind.bits .u64))))) ∧
 (Ob (wrap .u64 (Int.tdiv (wrap .u64 (wrap .u64 (wrap .u64 (wrap .u64 (↑(BitVec.toNat (BitVec.ofInt (IntKind.bits .u64) (wrap .u64 (hi * 2 ^ min (Int.toNat (wrap .u64 (val (y2 y_)))) (IntKind.bits .u64))) ||| BitVec.ofInt (IntKind.bits .u64) (Int.fdiv lo ((2 : Int) ^ min (Int.toNat (wrap .u64 (64 - wrap .u64 (val (y2 y_))))) (IntKind.bits .u64))))) : Int) * 4294967296) + Int.fdiv (wrap .u64 (lo * 2 ^ min (Int.toNat (wrap .u64 (val (y2 y_)))) (IntKind.bits .u64))) ((2 : Int) ^ min (32 : Nat) (IntKind.bits .u64))) - wrap .u64 (v0.1.1 * wrap .u64 (y_ * 2 ^ min (Int.toNat (wrap .u64 (val (y2 y_)))) (IntKind.bits .u64))))) (Int.fdiv (wrap .u64 (y_ * 2 ^ min (Int.toNat (wrap .u64 (val (y2 y_)))) (IntKind.bits .u64))) ((2 : Int) ^ min (32 : Nat) (IntKind.bits .u64)))) = v1.2.1.2) ∧
 True))))))))))) ∧
  (∀ (v1 : Int × (Int × Int) × Nat), ((Option.bind (jad (y10 lo y_ (val (y2 y_))) v1.2.2 v1.2.1) fun y0 => Option.bind (y11 hi lo y_ v1.1 (val (y2 y_)) y0) some) = some r →
 Br (decide (v1.2.1.2 ≥ 4294967296))
 (Br (decide (wrap .u64 (v1.2.1.1 + Int.fdiv (wrap .u64 (y_ * 2 ^ min (Int.toNat (wrap .u64 (val (y2 y_)))) (IntKind.bits .u64))) ((2 : Int) ^ min (32 : Nat) (IntKind.bits .u64))) ≥ 4294967296))
  ((Ob (0 ≤ wrap .u64 (val (y2 y_))) ∧
 (Ob True ∧
 (Ob True ∧
 (Ob (wrap .u64 (wrap .u64 (v1.1 * 4294967296) + wrap .u64 (v1.2.1.2 - 1)) = r.1) ∧
 (Ob (Int.fdiv (wrap .u64 (wrap .u64 (wrap .u64 (wrap .u64 (wrap .u64 (wrap .u64 (wrap .u64 (↑(BitVec.toNat (BitVec.ofInt (IntKind.bits .u64) (wrap .u64 (hi * 2 ^ min (Int.toNat (wrap .u64 (val (y2 y_)))) (IntKind.bits .u64))) ||| BitVec.ofInt (IntKind.bits .u64) (Int.fdiv lo ((2 : Int) ^ min (Int.toNat (wrap .u64 (64 - wrap .u64 (val (y2 y_))))) (IntKind.bits .u64))))) : Int) * 4294967296) + Int.fdiv (wrap .u64 (lo * 2 ^ min (Int.toNat (wrap .u64 (val (y2 y_)))) (IntKind.bits .u64))) ((2 : Int) ^ min (32 : Nat) (IntKind.bits .u64))) - wrap .u64 (v1.1 * wrap .u64 (y_ * 2 ^ min (Int.toNat (wrap .u64 (val (y2 y_)))) (IntKind.bits .u64)))) * 4294967296) + wrap .u64 (↑(BitVec.toNat (BitVec.ofInt (IntKind.bits .u64) (wrap .u64 (lo * 2 ^ min (Int.toNat (wrap .u64 (val (y2 y_)))) (IntKind.bits .u64))) &&& BitVec.ofInt (IntKind.bits .u64) (4294967295 : Int))) : Int)) - wrap .u64 (wrap .u64 (v1.2.1.2 - 1) * wrap .u64 (y_ * 2 ^ min (Int.toNat (wrap .u64 (val (y2 y_)))) (IntKind.bits .u64))))) ((2 : Int) ^ min (Int.toNat (wrap .u64 (val (y2 y_)))) (IntKind.bits .u64)) = r.2) ∧
 True))))))
  ((∃ (v2 : Int × (Int × Int) × Nat), (Ob ((Option.bind (jad (y10 lo y_ (val (y2 y_))) v2.2.2 v2.2.1) fun y0 => Option.bind (y11 hi lo y_ v2.1 (val (y2 y_)) y0) some) = some r) ∧
 (Ob (v2.2.2 < v1.2.2) ∧
 (Ob (wrap .u64 (y_ * 2 ^ min (Int.toNat (wrap .u64 (val (y2 y_)))) (IntKind.bits .u64)) = wrap .u64 (y_ * 2 ^ min (Int.toNat (wrap .u64 (val (y2 y_)))) (IntKind.bits .u64))) ∧
 (Ob (wrap .u64 (val (y2 y_)) = wrap .u64 (val (y2 y_))) ∧
 (Ob (Int.fdiv (wrap .u64 (y_ * 2 ^ min (Int.toNat (wrap .u64 (val (y2 y_)))) (IntKind.bits .u64))) ((2 : Int) ^ min (32 : Nat) (IntKind.bits .u64)) = Int.fdiv (wrap .u64 (y_ * 2 ^ min (Int.toNat (wrap .u64 (val (y2 y_)))) (IntKind.bits .u64))) ((2 : Int) ^ min (32 : Nat) (IntKind.bits .u64))) ∧
 (Ob (wrap .u64 (↑(BitVec.toNat (BitVec.ofInt (IntKind.bits .u64) (wrap .u64 (y_ * 2 ^ min (Int.toNat (wrap .u64 (val (y2 y_)))) (IntKind.bits .u64))) &&& BitVec.ofInt (IntKind.bits .u64) (4294967295 : Int))) : Int) = wrap .u64 (↑(BitVec.toNat (BitVec.ofInt (IntKind.bits .u64) (wrap .u64 (y_ * 2 ^ min (Int.toNat (wrap .u64 (val (y2 y_)))) (IntKind.bits .u64))) &&& BitVec.ofInt (IntKind.bits .u64) (4294967295 : Int))) : Int)) ∧
 (Ob (wrap .u64 (↑(BitVec.toNat (BitVec.ofInt (IntKind.bits .u64) (wrap .u64 (lo * 2 ^ min (Int.toNat (wrap .u64 (val (y2 y_)))) (IntKind.bits .u64))) &&& BitVec.ofInt (IntKind.bits .u64) (4294967295 : Int))) : Int) = wrap .u64 (↑(BitVec.toNat (BitVec.ofInt (IntKind.bits .u64) (wrap .u64 (lo * 2 ^ min (Int.toNat (wrap .u64 (val (y2 y_)))) (IntKind.bits .u64))) &&& BitVec.ofInt (IntKind.bits .u64) (4294967295 : Int))) : Int)) ∧
 (Ob (v1.1 = v2.1) ∧
 (Ob (wrap .u64 (v1.2.1.1 + Int.fdiv (wrap .u64 (y_ * 2 ^ min (Int.toNat (wrap .u64 (val (y2 y_)))) (IntKind.bits .u64))) ((2 : Int) ^ min (32 : Nat) (IntKind.bits .u64))) = v2.2.1.1) ∧
 (Ob (wrap .u64 (wrap .u64 (wrap .u64 (wrap .u64 (↑(BitVec.toNat (BitVec.ofInt (IntKind.bits .u64) (wrap .u64 (hi * 2 ^ min (Int.toNat (wrap .u64 (val (y2 y_)))) (IntKind.bits .u64))) ||| BitVec.ofInt (IntKind.bits .u64) (Int.fdiv lo ((2 : Int) ^ min (Int.toNat (wrap .u64 (64 - wrap .u64 (val (y2 y_))))) (IntKind.bits .u64))))) : Int) * 4294967296) + Int.fdiv (wrap .u64 (lo * 2 ^ min (Int.toNat (wrap .u64 (val (y2 y_)))) (IntKind.bits .u64))) ((2 : Int) ^ min (32 : Nat) (IntKind.bits .u64))) - wrap .u64 (v1.1 * wrap .u64 (y_ * 2 ^ min (Int.toNat (wrap .u64 (val (y2 y_)))) (IntKind.bits .u64)))) = wrap .u64 (wrap .u64 (wrap .u64 (wrap .u64 (↑(BitVec.toNat (BitVec.ofInt (IntKind.bits .u64) (wrap .u64 (hi * 2 ^ min (Int.toNat (wrap .u64 (val (y2 y_)))) (IntKind.bits .u64))) ||| BitVec.ofInt (IntKind.bits .u64) (Int.fdiv lo ((2 : Int) ^ min (Int.toNat (wrap .u64 (64 - wrap .u64 (val (y2 y_))))) (IntKind.bits .u64))))) : Int) * 4294967296) + Int.fdiv (wrap .u64 (lo * 2 ^ min (Int.toNat (wrap .u64 (val (y2 y_)))) (IntKind.bits .u64))) ((2 : Int) ^ min (32 : Nat) (IntKind.bits .u64))) - wrap .u64 (v2.1 * wrap .u64 (y_ * 2 ^ min (Int.toNat (wrap .u64 (val (y2 y_)))) (IntKind.bits .u64))))) ∧
 (Ob (wrap .u64 (v1.2.1.2 - 1) = v2.2.1.2) ∧
 True))))))))))))))
 (Br (decide (wrap .u64 (v1.2.1.2 * wrap .u64 (↑(BitVec.toNat (BitVec.ofInt (IntKind.bits .u64) (wrap .u64 (y_ * 2 ^ min (Int.toNat (wrap .u64 (val (y2 y_)))) (IntKind.bits .u64))) &&& BitVec.ofInt (IntKind.bits .u64) (4294967295 : Int))) : Int)) > wrap .u64 (wrap .u64 (4294967296 * v1.2.1.1) + wrap .u64 (↑(BitVec.toNat (BitVec.ofInt (IntKind.bits .u64) (wrap .u64 (lo * 2 ^ min (Int.toNat (wrap .u64 (val (y2 y_)))) (IntKind.bits .u64))) &&& BitVec.ofInt (IntKind.bits .u64) (4294967295 : Int))) : Int))))
 (Br (decide (wrap .u64 (v1.2.1.1 + Int.fdiv (wrap .u64 (y_ * 2 ^ min (Int.toNat (wrap .u64 (val (y2 y_)))) (IntKind.bits .u64))) ((2 : Int) ^ min (32 : Nat) (IntKind.bits .u64))) ≥ 4294967296))
  ((Ob (0 ≤ wrap .u64 (val (y2 y_))) ∧
 (Ob True ∧
 (Ob True ∧
 (Ob (wrap .u64 (wrap .u64 (v1.1 * 4294967296) + wrap .u64 (v1.2.1.2 - 1)) = r.1) ∧
 (Ob (Int.fdiv (wrap .u64 (wrap .u64 (wrap .u64 (wrap .u64 (wrap .u64 (wrap .u64 (wrap .u64 (↑(BitVec.toNat (BitVec.ofInt (IntKind.bits .u64) (wrap .u64 (hi * 2 ^ min (Int.toNat (wrap .u64 (val (y2 y_)))) (IntKind.bits .u64))) ||| BitVec.ofInt (IntKind.bits .u64) (Int.fdiv lo ((2 : Int) ^ min (Int.toNat (wrap .u64 (64 - wrap .u64 (val (y2 y_))))) (IntKind.bits .u64))))) : Int) * 4294967296) + Int.fdiv (wrap .u64 (lo * 2 ^ min (Int.toNat (wrap .u64 (val (y2 y_)))) (IntKind.bits .u64))) ((2 : Int) ^ min (32 : Nat) (IntKind.bits .u64))) - wrap .u64 (v1.1 * wrap .u64 (y_ * 2 ^ min (Int.toNat (wrap .u64 (val (y2 y_)))) (IntKind.bits .u64)))) * 4294967296) + wrap .u64 (↑(BitVec.toNat (BitVec.ofInt (IntKind.bits .u64) (wrap .u64 (lo * 2 ^ min (Int.toNat (wrap .u64 (val (y2 y_)))) (IntKind.bits .u64))) &&& BitVec.ofInt (IntKind.bits .u64) (4294967295 : Int))) : Int)) - wrap .u64 (wrap .u64 (v1.2.1.2 - 1) * wrap .u64 (y_ * 2 ^ min (Int.toNat (wrap .u64 (val (y2 y_)))) (IntKind.bits .u64))))) ((2 : Int) ^ min (Int.toNat (wrap .u64 (val (y2 y_)))) (IntKind.bits .u64)) = r.2) ∧
 True))))))
  ((∃ (v2 : Int × (Int × Int) × Nat), (Ob ((Option.bind (jad (y10 lo y_ (val (y2 y_))) v2.2.2 v2.2.1) fun y0 => Option.bind (y11 hi lo y_ v2.1 (val (y2 y_)) y0) some) = some r) ∧
 (Ob (v2.2.2 < v1.2.2) ∧
 (Ob (wrap .u64 (y_ * 2 ^ min (Int.toNat (wrap .u64 (val (y2 y_)))) (IntKind.bits .u64)) = wrap .u64 (y_ * 2 ^ min (Int.toNat (wrap .u64 (val (y2 y_)))) (IntKind.bits .u64))) ∧
 (Ob (wrap .u64 (val (y2 y_)) = wrap .u64 (val (y2 y_))) ∧
 (Ob (Int.fdiv (wrap .u64 (y_ * 2 ^ min (Int.toNat (wrap .u64 (val (y2 y_)))) (IntKind.bits .u64))) ((2 : Int) ^ min (32 : Nat) (IntKind.bits .u64)) = Int.fdiv (wrap .u64 (y_ * 2 ^ min (Int.toNat (wrap .u64 (val (y2 y_)))) (IntKind.bits .u64))) ((2 : Int) ^ min (32 : Nat) (IntKind.bits .u64))) ∧
 (Ob (wrap .u64 (↑(BitVec.toNat (BitVec.ofInt (IntKind.bits .u64) (wrap .u64 (y_ * 2 ^ min (Int.toNat (wrap .u64 (val (y2 y_)))) (IntKind.bits .u64))) &&& BitVec.ofInt (IntKind.bits .u64) (4294967295 : Int))) : Int) = wrap .u64 (↑(BitVec.toNat (BitVec.ofInt (IntKind.bits .u64) (wrap .u64 (y_ * 2 ^ min (Int.toNat (wrap .u64 (val (y2 y_)))) (IntKind.bits .u64))) &&& BitVec.ofInt (IntKind.bits .u64) (4294967295 : Int))) : Int)) ∧
 (Ob (wrap .u64 (↑(BitVec.toNat (BitVec.ofInt (IntKind.bits .u64) (wrap .u64 (lo * 2 ^ min (Int.toNat (wrap .u64 (val (y2 y_)))) (IntKind.bits .u64))) &&& BitVec.ofInt (IntKind.bits .u64) (4294967295 : Int))) : Int) = wrap .u64 (↑(BitVec.toNat (BitVec.ofInt (IntKind.bits .u64) (wrap .u64 (lo * 2 ^ min (Int.toNat (wrap .u64 (val (y2 y_)))) (IntKind.bits .u64))) &&& BitVec.ofInt (IntKind.bits .u64) (4294967295 : Int))) : Int)) ∧
 (Ob (v1.1 = v2.1) ∧
 (Ob (wrap .u64 (v1.2.1.1 + Int.fdiv (wrap .u64 (y_ * 2 ^ min (Int.toNat (wrap .u64 (val (y2 y_)))) (IntKind.bits .u64))) ((2 : Int) ^ min (32 : Nat) (IntKind.bits .u64))) = v2.2.1.1) ∧
 (Ob (wrap .u64 (wrap .u64 (wrap .u64 (wrap .u64 (↑(BitVec.toNat (BitVec.ofInt (IntKind.bits .u64) (wrap .u64 (hi * 2 ^ min (Int.toNat (wrap .u64 (val (y2 y_)))) (IntKind.bits .u64))) ||| BitVec.ofInt (IntKind.bits .u64) (Int.fdiv lo ((2 : Int) ^ min (Int.toNat (wrap .u64 (64 - wrap .u64 (val (y2 y_))))) (IntKind.bits .u64))))) : Int) * 4294967296) + Int.fdiv (wrap .u64 (lo * 2 ^ min (Int.toNat (wrap .u64 (val (y2 y_)))) (IntKind.bits .u64))) ((2 : Int) ^ min (32 : Nat) (IntKind.bits .u64))) - wrap .u64 (v1.1 * wrap .u64 (y_ * 2 ^ min (Int.toNat (wrap .u64 (val (y2 y_)))) (IntKind.bits .u64)))) = wrap .u64 (wrap .u64 (wrap .u64 (wrap .u64 (↑(BitVec.toNat (BitVec.ofInt (IntKind.bits .u64) (wrap .u64 (hi * 2 ^ min (Int.toNat (wrap .u64 (val (y2 y_)))) (IntKind.bits .u64))) ||| BitVec.ofInt (IntKind.bits .u64) (Int.fdiv lo ((2 : Int) ^ min (Int.toNat (wrap .u64 (64 - wrap .u64 (val (y2 y_))))) (IntKind.bits .u64))))) : Int) * 4294967296) + Int.fdiv (wrap .u64 (lo * 2 ^ min (Int.toNat (wrap .u64 (val (y2 y_)))) (IntKind.bits .u64))) ((2 : Int) ^ min (32 : Nat) (IntKind.bits .u64))) - wrap .u64 (v2.1 * wrap .u64 (y_ * 2 ^ min (Int.toNat (wrap .u64 (val (y2 y_)))) (IntKind.bits .u64))))) ∧
 (Ob (wrap .u64 (v1.2.1.2 - 1) = v2.2.1.2) ∧
 True))))))))))))))
  ((Ob (0 ≤ wrap .u64 (val (y2 y_))) ∧
 (Ob True ∧
 (Ob True ∧
 (Ob (wrap .u64 (wrap .u64 (v1.1 * 4294967296) + v1.2.1.2) = r.1) ∧
 (Ob (Int.fdiv (wrap .u64 (wrap .u64 (wrap .u64 (wrap .u64 (wrap .u64 (wrap .u64 (wrap .u64 (↑(BitVec.toNat (BitVec.ofInt (IntKind.bits .u64) (wrap .u64 (hi * 2 ^ min (Int.toNat (wrap .u64 (val (y2 y_)))) (IntKind.bits .u64))) ||| BitVec.ofInt (IntKind.bits .u64) (Int.fdiv lo ((2 : Int) ^ min (Int.toNat (wrap .u64 (64 - wrap .u64 (val (y2 y_))))) (IntKind.bits .u64))))) : Int) * 4294967296) + Int.fdiv (wrap .u64 (lo * 2 ^ min (Int.toNat (wrap .u64 (val (y2 y_)))) (IntKind.bits .u64))) ((2 : Int) ^ min (32 : Nat) (IntKind.bits .u64))) - wrap .u64 (v1.1 * wrap .u64 (y_ * 2 ^ min (Int.toNat (wrap .u64 (val (y2 y_)))) (IntKind.bits .u64)))) * 4294967296) + wrap .u64 (↑(BitVec.toNat (BitVec.ofInt (IntKind.bits .u64) (wrap .u64 (lo * 2 ^ min (Int.toNat (wrap .u64 (val (y2 y_)))) (IntKind.bits .u64))) &&& BitVec.ofInt (IntKind.bits .u64) (4294967295 : Int))) : Int)) - wrap .u64 (v1.2.1.2 * wrap .u64 (y_ * 2 ^ min (Int.toNat (wrap .u64 (val (y2 y_)))) (IntKind.bits .u64))))) ((2 : Int) ^ min (Int.toNat (wrap .u64 (val (y2 y_)))) (IntKind.bits .u64)) = r.2) ∧
 True))))))))))))))))))))))))))))) = _) ?_
 refine jbd h (fun h => ?_) (fun h => ?_)
 ·exact nomatch h
 ·refine jaD h (fun h => ?_) (fun h => ?_)
  ·exact nomatch h
  ·refine jbd h (fun h => ?_) (fun h => ?_)
   ·refine jaj h fun h => ?_
    refine jaj h fun h => ?_
    refine jae ?_
    refine jae ?_
    exact jal h (fun e => by subst e; exact (by repeat' (first | exact trivial | exact ⟨rfl⟩ | refine And.intro ?_ ?_)))
   ·refine jcp h fun h => ?_
    refine jae ?_
    refine jaj h fun h => ?_
    refine jbx (p := (0 : Int) ≤ 32) (by decide) ?_
    refine jaj h fun h => ?_
    refine jaj h fun h => ?_
    refine jaj h fun h => ?_
    refine jbx (p := (0 : Int) ≤ 32) (by decide) ?_
    refine jaj h fun h => ?_
    refine ⟨⟨((wrap .u64 (Int.tdiv (wrap .u64 (↑(BitVec.toNat (BitVec.ofInt (IntKind.bits .u64) (wrap .u64 (hi * 2 ^ min (Int.toNat (wrap .u64 (val (y2 y_)))) (IntKind.bits .u64))) ||| BitVec.ofInt (IntKind.bits .u64) (Int.fdiv lo ((2 : Int) ^ min (Int.toNat (wrap .u64 (64 - wrap .u64 (val (y2 y_))))) (IntKind.bits .u64))))) : Int)) (Int.fdiv (wrap .u64 (y_ * 2 ^ min (Int.toNat (wrap .u64 (val (y2 y_)))) (IntKind.bits .u64))) ((2 : Int) ^ min (32 : Nat) (IntKind.bits .u64)))), wrap .u64 (wrap .u64 (↑(BitVec.toNat (BitVec.ofInt (IntKind.bits .u64) (wrap .u64 (hi * 2 ^ min (Int.toNat (wrap .u64 (val (y2 y_)))) (IntKind.bits .u64))) ||| BitVec.ofInt (IntKind.bits .u64) (Int.fdiv lo ((2 : Int) ^ min (Int.toNat (wrap .u64 (64 - wrap .u64 (val (y2 y_))))) (IntKind.bits .u64))))) : Int) - wrap .u64 (wrap .u64 (Int.tdiv (wrap .u64 (↑(BitVec.toNat (BitVec.ofInt (IntKind.bits .u64) (wrap .u64 (hi * 2 ^ min (Int.toNat (wrap .u64 (val (y2 y_)))) (IntKind.bits .u64))) ||| BitVec.ofInt (IntKind.bits .u64) (Int.fdiv lo ((2 : Int) ^ min (Int.toNat (wrap .u64 (64 - wrap .u64 (val (y2 y_))))) (IntKind.bits .u64))))) : Int)) (Int.fdiv (wrap .u64 (y_ * 2 ^ min (Int.toNat (wrap .u64 (val (y2 y_)))) (IntKind.bits .u64))) ((2 : Int) ^ min (32 : Nat) (IntKind.bits .u64)))) * Int.fdiv (wrap .u64 (y_ * 2 ^ min (Int.toNat (wrap .u64 (val (y2 y_)))) (IntKind.bits .u64))) ((2 : Int) ^ min (32 : Nat) (IntKind.bits .u64))))), big), ⟨jba h⟩, (by repeat' (first | exact trivial | exact ⟨rfl⟩ | refine And.intro ?_ ?_))⟩, fun z1 hz1 => ?_⟩
    obtain ⟨k1, hm1, h⟩ := jaN hz1
    refine jaD h (fun h => ?_) (fun h => ?_)
    ·refine jaD h (fun h => ?_) (fun h => ?_)
     ·have h := jaq h
      refine jaj h fun h => ?_
      refine ⟨⟨(wrap .u64 ((Prod.fst z1).1 - 1), (wrap .u64 (wrap .u64 (wrap .u64 (wrap .u64 (wrap .u64 (↑(BitVec.toNat (BitVec.ofInt (IntKind.bits .u64) (wrap .u64 (hi * 2 ^ min (Int.toNat (wrap .u64 (val (y2 y_)))) (IntKind.bits .u64))) ||| BitVec.ofInt (IntKind.bits .u64) (Int.fdiv lo ((2 : Int) ^ min (Int.toNat (wrap .u64 (64 - wrap .u64 (val (y2 y_))))) (IntKind.bits .u64))))) : Int) * 4294967296) + Int.fdiv (wrap .u64 (lo * 2 ^ min (Int.toNat (wrap .u64 (val (y2 y_)))) (IntKind.bits .u64))) ((2 : Int) ^ min (32 : Nat) (IntKind.bits .u64))) - wrap .u64 (wrap .u64 ((Prod.fst z1).1 - 1) * wrap .u64 (y_ * 2 ^ min (Int.toNat (wrap .u64 (val (y2 y_)))) (IntKind.bits .u64)))) - wrap .u64 (wrap .u64 (Int.tdiv (wrap .u64 (wrap .u64 (wrap .u64 (wrap .u64 (↑(BitVec.toNat (BitVec.ofInt (IntKind.bits .u64) (wrap .u64 (hi * 2 ^ min (Int.toNat (wrap .u64 (val (y2 y_)))) (IntKind.bits .u64))) ||| BitVec.ofInt (IntKind.bits .u64) (Int.fdiv lo ((2 : Int) ^ min (Int.toNat (wrap .u64 (64 - wrap .u64 (val (y2 y_))))) (IntKind.bits .u64))))) : Int) * 4294967296) + Int.fdiv (wrap .u64 (lo * 2 ^ min (Int.toNat (wrap .u64 (val (y2 y_)))) (IntKind.bits .u64))) ((2 : Int) ^ min (32 : Nat) (IntKind.bits .u64))) - wrap .u64 (wrap .u64 ((Prod.fst z1).1 - 1) * wrap .u64 (y_ * 2 ^ min (Int.toNat (wrap .u64 (val (y2 y_)))) (IntKind.bits .u64))))) (Int.fdiv (wrap .u64 (y_ * 2 ^ min (Int.toNat (wrap .u64 (val (y2 y_)))) (IntKind.bits .u64))) ((2 : Int) ^ min (32 : Nat) (IntKind.bits .u64)))) * Int.fdiv (wrap .u64 (y_ * 2 ^ min (Int.toNat (wrap .u64 (val (y2 y_)))) (IntKind.bits .u64))) ((2 : Int) ^ min (32 : Nat) (IntKind.bits .u64)))), wrap .u64 (Int.tdiv (wrap .u64 (wrap .u64 (wrap .u64 (wrap .u64 (↑(BitVec.toNat (BitVec.ofInt (IntKind.bits .u64) (wrap .u64 (hi * 2 ^ min (Int.toNat (wrap .u64 (val (y2 y_)))) (IntKind.bits .u64))) ||| BitVec.ofInt (IntKind.bits .u64) (Int.fdiv lo ((2 : Int) ^ min (Int.toNat (wrap .u64 (64 - wrap .u64 (val (y2 y_))))) (IntKind.bits .u64))))) : Int) * 4294967296) + Int.fdiv (wrap .u64 (lo * 2 ^ min (Int.toNat (wrap .u64 (val (y2 y_)))) (IntKind.bits .u64))) ((2 : Int) ^ min (32 : Nat) (IntKind.bits .u64))) - wrap .u64 (wrap .u64 ((Prod.fst z1).1 - 1) * wrap .u64 (y_ * 2 ^ min (Int.toNat (wrap .u64 (val (y2 y_)))) (IntKind.bits .u64))))) (Int.fdiv (wrap .u64 (y_ * 2 ^ min (Int.toNat (wrap .u64 (val (y2 y_)))) (IntKind.bits .u64))) ((2 : Int) ^ min (32 : Nat) (IntKind.bits .u64))))), big), ⟨jba h⟩, (by repeat' (first | exact trivial | exact ⟨rfl⟩ | refine And.intro ?_ ?_))⟩, fun z2 hz2 => ?_⟩
      obtain ⟨k2, hm2, h⟩ := jaN hz2
      refine jaD h (fun h => ?_) (fun h => ?_)
      ·refine jaD h (fun h => ?_) (fun h => ?_)
       ·have h := jaq h
        refine jaj h fun h => ?_
        refine jae ?_
        refine jae ?_
        exact jal h (fun e => by subst e; exact (by repeat' (first | exact trivial | exact ⟨rfl⟩ | refine And.intro ?_ ?_)))
       ·exact ⟨(Prod.fst z2, (wrap .u64 ((Prod.fst (Prod.snd z2)).1 + Int.fdiv (wrap .u64 (y_ * 2 ^ min (Int.toNat (wrap .u64 (val (y2 y_)))) (IntKind.bits .u64))) ((2 : Int) ^ min (32 : Nat) (IntKind.bits .u64))), wrap .u64 ((Prod.fst (Prod.snd z2)).2 - 1)), k2), ⟨jaO h⟩, ⟨ja2 hm2.symm⟩, (by repeat' (first | exact trivial | exact ⟨rfl⟩ | refine And.intro ?_ ?_))⟩
      ·refine jaD h (fun h => ?_) (fun h => ?_)
       ·refine jaD h (fun h => ?_) (fun h => ?_)
        ·have h := jaq h
         refine jaj h fun h => ?_
         refine jae ?_
         refine jae ?_
         exact jal h (fun e => by subst e; exact (by repeat' (first | exact trivial | exact ⟨rfl⟩ | refine And.intro ?_ ?_)))
        ·exact ⟨(Prod.fst z2, (wrap .u64 ((Prod.fst (Prod.snd z2)).1 + Int.fdiv (wrap .u64 (y_ * 2 ^ min (Int.toNat (wrap .u64 (val (y2 y_)))) (IntKind.bits .u64))) ((2 : Int) ^ min (32 : Nat) (IntKind.bits .u64))), wrap .u64 ((Prod.fst (Prod.snd z2)).2 - 1)), k2), ⟨jaO h⟩, ⟨ja2 hm2.symm⟩, (by repeat' (first | exact trivial | exact ⟨rfl⟩ | refine And.intro ?_ ?_))⟩
       ·have h := jaq h
        refine jaj h fun h => ?_
        refine jae ?_
        refine jae ?_
        exact jal h (fun e => by subst e; exact (by repeat' (first | exact trivial | exact ⟨rfl⟩ | refine And.intro ?_ ?_)))
     ·exact ⟨((wrap .u64 ((Prod.fst z1).1 - 1), wrap .u64 ((Prod.fst z1).2 + Int.fdiv (wrap .u64 (y_ * 2 ^ min (Int.toNat (wrap .u64 (val (y2 y_)))) (IntKind.bits .u64))) ((2 : Int) ^ min (32 : Nat) (IntKind.bits .u64)))), k1), ⟨jaO h⟩, ⟨ja2 hm1.symm⟩, (by repeat' (first | exact trivial | exact ⟨rfl⟩ | refine And.intro ?_ ?_))⟩
    ·refine jaD h (fun h => ?_) (fun h => ?_)
     ·refine jaD h (fun h => ?_) (fun h => ?_)
      ·have h := jaq h
       refine jaj h fun h => ?_
       refine ⟨⟨(wrap .u64 ((Prod.fst z1).1 - 1), (wrap .u64 (wrap .u64 (wrap .u64 (wrap .u64 (wrap .u64 (↑(BitVec.toNat (BitVec.ofInt (IntKind.bits .u64) (wrap .u64 (hi * 2 ^ min (Int.toNat (wrap .u64 (val (y2 y_)))) (IntKind.bits .u64))) ||| BitVec.ofInt (IntKind.bits .u64) (Int.fdiv lo ((2 : Int) ^ min (Int.toNat (wrap .u64 (64 - wrap .u64 (val (y2 y_))))) (IntKind.bits .u64))))) : Int) * 4294967296) + Int.fdiv (wrap .u64 (lo * 2 ^ min (Int.toNat (wrap .u64 (val (y2 y_)))) (IntKind.bits .u64))) ((2 : Int) ^ min (32 : Nat) (IntKind.bits .u64))) - wrap .u64 (wrap .u64 ((Prod.fst z1).1 - 1) * wrap .u64 (y_ * 2 ^ min (Int.toNat (wrap .u64 (val (y2 y_)))) (IntKind.bits .u64)))) - wrap .u64 (wrap .u64 (Int.tdiv (wrap .u64 (wrap .u64 (wrap .u64 (wrap .u64 (↑(BitVec.toNat (BitVec.ofInt (IntKind.bits .u64) (wrap .u64 (hi * 2 ^ min (Int.toNat (wrap .u64 (val (y2 y_)))) (IntKind.bits .u64))) ||| BitVec.ofInt (IntKind.bits .u64) (Int.fdiv lo ((2 : Int) ^ min (Int.toNat (wrap .u64 (64 - wrap .u64 (val (y2 y_))))) (IntKind.bits .u64))))) : Int) * 4294967296) + Int.fdiv (wrap .u64 (lo * 2 ^ min (Int.toNat (wrap .u64 (val (y2 y_)))) (IntKind.bits .u64))) ((2 : Int) ^ min (32 : Nat) (IntKind.bits .u64))) - wrap .u64 (wrap .u64 ((Prod.fst z1).1 - 1) * wrap .u64 (y_ * 2 ^ min (Int.toNat (wrap .u64 (val (y2 y_)))) (IntKind.bits .u64))))) (Int.fdiv (wrap .u64 (y_ * 2 ^ min (Int.toNat (wrap .u64 (val (y2 y_)))) (IntKind.bits .u64))) ((2 : Int) ^ min (32 : Nat) (IntKind.bits .u64)))) * Int.fdiv (wrap .u64 (y_ * 2 ^ min (Int.toNat (wrap .u64 (val (y2 y_)))) (IntKind.bits .u64))) ((2 : Int) ^ min (32 : Nat) (IntKind.bits .u64)))), wrap .u64 (Int.tdiv (wrap .u64 (wrap .u64 (wrap .u64 (wrap .u64 (↑(BitVec.toNat (BitVec.ofInt (IntKind.bits .u64) (wrap .u64 (hi * 2 ^ min (Int.toNat (wrap .u64 (val (y2 y_)))) (IntKind.bits .u64))) ||| BitVec.ofInt (IntKind.bits .u64) (Int.fdiv lo ((2 : Int) ^ min (Int.toNat (wrap .u64 (64 - wrap .u64 (val (y2 y_))))) (IntKind.bits .u64))))) : Int) * 4294967296) + Int.fdiv (wrap .u64 (lo * 2 ^ min (Int.toNat (wrap .u64 (val (y2 y_)))) (IntKind.bits .u64))) ((2 : Int) ^ min (32 : Nat) (IntKind.bits .u64))) - wrap .u64 (wrap .u64 ((Prod.fst z1).1 - 1) * wrap .u64 (y_ * 2 ^ min (Int.toNat (wrap .u64 (val (y2 y_)))) (IntKind.bits .u64))))) (Int.fdiv (wrap .u64 (y_ * 2 ^ min (Int.toNat (wrap .u64 (val (y2 y_)))) (IntKind.bits .u64))) ((2 : Int) ^ min (32 : Nat) (IntKind.bits .u64))))), big), ⟨jba h⟩, (by repeat' (first | exact trivial | exact ⟨rfl⟩ | refine And.intro ?_ ?_))⟩, fun z3 hz3 => ?_⟩
       obtain ⟨k3, hm3, h⟩ := jaN hz3
       refine jaD h (fun h => ?_) (fun h => ?_)
       ·refine jaD h (fun h => ?_) (fun h => ?_)
        ·have h := jaq h
         refine jaj h fun h => ?_
         refine jae ?_
         refine jae ?_
         exact jal h (fun e => by subst e; exact (by repeat' (first | exact trivial | exact ⟨rfl⟩ | refine And.intro ?_ ?_)))
        ·exact ⟨(Prod.fst z3, (wrap .u64 ((Prod.fst (Prod.snd z3)).1 + Int.fdiv (wrap .u64 (y_ * 2 ^ min (Int.toNat (wrap .u64 (val (y2 y_)))) (IntKind.bits .u64))) ((2 : Int) ^ min (32 : Nat) (IntKind.bits .u64))), wrap .u64 ((Prod.fst (Prod.snd z3)).2 - 1)), k3), ⟨jaO h⟩, ⟨ja2 hm3.symm⟩, (by repeat' (first | exact trivial | exact ⟨rfl⟩ | refine And.intro ?_ ?_))⟩
       ·refine jaD h (fun h => ?_) (fun h => ?_)
        ·refine jaD h (fun h => ?_) (fun h => ?_)
         ·have h := jaq h
          refine jaj h fun h => ?_
          refine jae ?_
          refine jae ?_
          exact jal h (fun e => by subst e; exact (by repeat' (first | exact trivial | exact ⟨rfl⟩ | refine And.intro ?_ ?_)))
         ·exact ⟨(Prod.fst z3, (wrap .u64 ((Prod.fst (Prod.snd z3)).1 + Int.fdiv (wrap .u64 (y_ * 2 ^ min (Int.toNat (wrap .u64 (val (y2 y_)))) (IntKind.bits .u64))) ((2 : Int) ^ min (32 : Nat) (IntKind.bits .u64))), wrap .u64 ((Prod.fst (Prod.snd z3)).2 - 1)), k3), ⟨jaO h⟩, ⟨ja2 hm3.symm⟩, (by repeat' (first | exact trivial | exact ⟨rfl⟩ | refine And.intro ?_ ?_))⟩
        ·have h := jaq h
         refine jaj h fun h => ?_
         refine jae ?_
         refine jae ?_
         exact jal h (fun e => by subst e; exact (by repeat' (first | exact trivial | exact ⟨rfl⟩ | refine And.intro ?_ ?_)))
      ·exact ⟨((wrap .u64 ((Prod.fst z1).1 - 1), wrap .u64 ((Prod.fst z1).2 + Int.fdiv (wrap .u64 (y_ * 2 ^ min (Int.toNat (wrap .u64 (val (y2 y_)))) (IntKind.bits .u64))) ((2 : Int) ^ min (32 : Nat) (IntKind.bits .u64)))), k1), ⟨jaO h⟩, ⟨ja2 hm1.symm⟩, (by repeat' (first | exact trivial | exact ⟨rfl⟩ | refine And.intro ?_ ?_))⟩
     ·have h := jaq h
      refine jaj h fun h => ?_
      refine ⟨⟨((Prod.fst z1).1, (wrap .u64 (wrap .u64 (wrap .u64 (wrap .u64 (wrap .u64 (↑(BitVec.toNat (BitVec.ofInt (IntKind.bits .u64) (wrap .u64 (hi * 2 ^ min (Int.toNat (wrap .u64 (val (y2 y_)))) (IntKind.bits .u64))) ||| BitVec.ofInt (IntKind.bits .u64) (Int.fdiv lo ((2 : Int) ^ min (Int.toNat (wrap .u64 (64 - wrap .u64 (val (y2 y_))))) (IntKind.bits .u64))))) : Int) * 4294967296) + Int.fdiv (wrap .u64 (lo * 2 ^ min (Int.toNat (wrap .u64 (val (y2 y_)))) (IntKind.bits .u64))) ((2 : Int) ^ min (32 : Nat) (IntKind.bits .u64))) - wrap .u64 ((Prod.fst z1).1 * wrap .u64 (y_ * 2 ^ min (Int.toNat (wrap .u64 (val (y2 y_)))) (IntKind.bits .u64)))) - wrap .u64 (wrap .u64 (Int.tdiv (wrap .u64 (wrap .u64 (wrap .u64 (wrap .u64 (↑(BitVec.toNat (BitVec.ofInt (IntKind.bits .u64) (wrap .u64 (hi * 2 ^ min (Int.toNat (wrap .u64 (val (y2 y_)))) (IntKind.bits .u64))) ||| BitVec.ofInt (IntKind.bits .u64) (Int.fdiv lo ((2 : Int) ^ min (Int.toNat (wrap .u64 (64 - wrap .u64 (val (y2 y_))))) (IntKind.bits .u64))))) : Int) * 4294967296) + Int.fdiv (wrap .u64 (lo * 2 ^ min (Int.toNat (wrap .u64 (val (y2 y_)))) (IntKind.bits .u64))) ((2 : Int) ^ min (32 : Nat) (IntKind.bits .u64))) - wrap .u64 ((Prod.fst z1).1 * wrap .u64 (y_ * 2 ^ min (Int.toNat (wrap .u64 (val (y2 y_)))) (IntKind.bits .u64))))) (Int.fdiv (wrap .u64 (y_ * 2 ^ min (Int.toNat (wrap .u64 (val (y2 y_)))) (IntKind.bits .u64))) ((2 : Int) ^ min (32 : Nat) (IntKind.bits .u64)))) * Int.fdiv (wrap .u64 (y_ * 2 ^ min (Int.toNat (wrap .u64 (val (y2 y_)))) (IntKind.bits .u64))) ((2 : Int) ^ min (32 : Nat) (IntKind.bits .u64)))), wrap .u64 (Int.tdiv (wrap .u64 (wrap .u64 (wrap .u64 (wrap .u64 (↑(BitVec.toNat (BitVec.ofInt (IntKind.bits .u64) (wrap .u64 (hi * 2 ^ min (Int.toNat (wrap .u64 (val (y2 y_)))) (IntKind.bits .u64))) ||| BitVec.ofInt (IntKind.bits .u64) (Int.fdiv lo ((2 : Int) ^ min (Int.toNat (wrap .u64 (64 - wrap .u64 (val (y2 y_))))) (IntKind.bits .u64))))) : Int) * 4294967296) + Int.fdiv (wrap .u64 (lo * 2 ^ min (Int.toNat (wrap .u64 (val (y2 y_)))) (IntKind.bits .u64))) ((2 : Int) ^ min (32 : Nat) (IntKind.bits .u64))) - wrap .u64 ((Prod.fst z1).1 * wrap .u64 (y_ * 2 ^ min (Int.toNat (wrap .u64 (val (y2 y_)))) (IntKind.bits .u64))))) (Int.fdiv (wrap .u64 (y_ * 2 ^ min (Int.toNat (wrap .u64 (val (y2 y_)))) (IntKind.bits .u64))) ((2 : Int) ^ min (32 : Nat) (IntKind.bits .u64))))), big), ⟨jba h⟩, (by repeat' (first | exact trivial | exact ⟨rfl⟩ | refine And.intro ?_ ?_))⟩, fun z4 hz4 => ?_⟩
      obtain ⟨k4, hm4, h⟩ := jaN hz4
      refine jaD h (fun h => ?_) (fun h => ?_)
      ·refine jaD h (fun h => ?_) (fun h => ?_)
       ·have h := jaq h
        refine jaj h fun h => ?_
        refine jae ?_
        refine jae ?_
        exact jal h (fun e => by subst e; exact (by repeat' (first | exact trivial | exact ⟨rfl⟩ | refine And.intro ?_ ?_)))
       ·exact ⟨(Prod.fst z4, (wrap .u64 ((Prod.fst (Prod.snd z4)).1 + Int.fdiv (wrap .u64 (y_ * 2 ^ min (Int.toNat (wrap .u64 (val (y2 y_)))) (IntKind.bits .u64))) ((2 : Int) ^ min (32 : Nat) (IntKind.bits .u64))), wrap .u64 ((Prod.fst (Prod.snd z4)).2 - 1)), k4), ⟨jaO h⟩, ⟨ja2 hm4.symm⟩, (by repeat' (first | exact trivial | exact ⟨rfl⟩ | refine And.intro ?_ ?_))⟩
      ·refine jaD h (fun h => ?_) (fun h => ?_)
       ·refine jaD h (fun h => ?_) (fun h => ?_)
        ·have h := jaq h
         refine jaj h fun h => ?_
         refine jae ?_
         refine jae ?_
         exact jal h (fun e => by subst e; exact (by repeat' (first | exact trivial | exact ⟨rfl⟩ | refine And.intro ?_ ?_)))
        ·exact ⟨(Prod.fst z4, (wrap .u64 ((Prod.fst (Prod.snd z4)).1 + Int.fdiv (wrap .u64 (y_ * 2 ^ min (Int.toNat (wrap .u64 (val (y2 y_)))) (IntKind.bits .u64))) ((2 : Int) ^ min (32 : Nat) (IntKind.bits .u64))), wrap .u64 ((Prod.fst (Prod.snd z4)).2 - 1)), k4), ⟨jaO h⟩, ⟨ja2 hm4.symm⟩, (by repeat' (first | exact trivial | exact ⟨rfl⟩ | refine And.intro ?_ ?_))⟩
       ·have h := jaq h
        refine jaj h fun h => ?_
        refine jae ?_
        refine jae ?_
        exact jal h (fun e => by subst e; exact (by repeat' (first | exact trivial | exact ⟨rfl⟩ | refine And.intro ?_ ?_)))
theorem jhM : jah Tryz.prog 63 true (jaG y67 y55) := by
 refine jaR (sp := (sp_76 sp0)) (fn := Tryz.f63) (body := jai Tryz.f63) mixed (sp_76_ok jam) Tryz.func63 (by kernel_rfl) (by kernel_rfl) fun as_ ob rs h ho => ?_
 unfold y55 at h
 split at h
 ·rename_i hi lo y_
  cases h
  exact ⟨Nat.le_of_ble_eq_true rfl, _, _, jhL hi lo y_ _ (ja7 ho)⟩
 ·cases h
theorem sp_63_ok {sp : jaa} (h : jac Tryz.prog sp) : jac Tryz.prog (sp_63 sp) := jax jhM h
def jk4 : List (Option Cont) := [none, none]
def y37 (num : Int) (den : Int) : Option (Int × Int × Bool) :=
 Option.bind (y33 (wrap .u64 num) (1048576 : Int)) fun r0 =>
 if wrap .u64 (wrap .u64 (wrap .u64 (Int.fdiv (wrap .u64 num) ((2 : Int) ^ min (32 : Nat) (IntKind.bits .u64)) * Int.fdiv (1048576 : Int) ((2 : Int) ^ min (32 : Nat) (IntKind.bits .u64))) + Int.fdiv (wrap .u64 (wrap .u64 (Int.fdiv (wrap .u64 num) ((2 : Int) ^ min (32 : Nat) (IntKind.bits .u64)) * 1048576) + Int.fdiv (wrap .u64 (wrap .u64 (↑(BitVec.toNat (BitVec.ofInt (IntKind.bits .u64) (wrap .u64 num) &&& BitVec.ofInt (IntKind.bits .u64) (4294967295 : Int))) : Int) * 1048576)) ((2 : Int) ^ min (32 : Nat) (IntKind.bits .u64)))) ((2 : Int) ^ min (32 : Nat) (IntKind.bits .u64))) + Int.fdiv (wrap .u64 (wrap .u64 (↑(BitVec.toNat (BitVec.ofInt (IntKind.bits .u64) (wrap .u64 (wrap .u64 (Int.fdiv (wrap .u64 num) ((2 : Int) ^ min (32 : Nat) (IntKind.bits .u64)) * 1048576) + Int.fdiv (wrap .u64 (wrap .u64 (↑(BitVec.toNat (BitVec.ofInt (IntKind.bits .u64) (wrap .u64 num) &&& BitVec.ofInt (IntKind.bits .u64) (4294967295 : Int))) : Int) * 1048576)) ((2 : Int) ^ min (32 : Nat) (IntKind.bits .u64)))) &&& BitVec.ofInt (IntKind.bits .u64) (4294967295 : Int))) : Int) + wrap .u64 (wrap .u64 (↑(BitVec.toNat (BitVec.ofInt (IntKind.bits .u64) (wrap .u64 num) &&& BitVec.ofInt (IntKind.bits .u64) (4294967295 : Int))) : Int) * Int.fdiv (1048576 : Int) ((2 : Int) ^ min (32 : Nat) (IntKind.bits .u64))))) ((2 : Int) ^ min (32 : Nat) (IntKind.bits .u64))) ≥ wrap .u64 den then
  some (((0 : Int), 0, false))
 else
  Option.bind (y34 (wrap .u64 (wrap .u64 (wrap .u64 (Int.fdiv (wrap .u64 num) ((2 : Int) ^ min (32 : Nat) (IntKind.bits .u64)) * Int.fdiv (1048576 : Int) ((2 : Int) ^ min (32 : Nat) (IntKind.bits .u64))) + Int.fdiv (wrap .u64 (wrap .u64 (Int.fdiv (wrap .u64 num) ((2 : Int) ^ min (32 : Nat) (IntKind.bits .u64)) * 1048576) + Int.fdiv (wrap .u64 (wrap .u64 (↑(BitVec.toNat (BitVec.ofInt (IntKind.bits .u64) (wrap .u64 num) &&& BitVec.ofInt (IntKind.bits .u64) (4294967295 : Int))) : Int) * 1048576)) ((2 : Int) ^ min (32 : Nat) (IntKind.bits .u64)))) ((2 : Int) ^ min (32 : Nat) (IntKind.bits .u64))) + Int.fdiv (wrap .u64 (wrap .u64 (↑(BitVec.toNat (BitVec.ofInt (IntKind.bits .u64) (wrap .u64 (wrap .u64 (Int.fdiv (wrap .u64 num) ((2 : Int) ^ min (32 : Nat) (IntKind.bits .u64)) * 1048576) + Int.fdiv (wrap .u64 (wrap .u64 (↑(BitVec.toNat (BitVec.ofInt (IntKind.bits .u64) (wrap .u64 num) &&& BitVec.ofInt (IntKind.bits .u64) (4294967295 : Int))) : Int) * 1048576)) ((2 : Int) ^ min (32 : Nat) (IntKind.bits .u64)))) &&& BitVec.ofInt (IntKind.bits .u64) (4294967295 : Int))) : Int) + wrap .u64 (wrap .u64 (↑(BitVec.toNat (BitVec.ofInt (IntKind.bits .u64) (wrap .u64 num) &&& BitVec.ofInt (IntKind.bits .u64) (4294967295 : Int))) : Int) * Int.fdiv (1048576 : Int) ((2 : Int) ^ min (32 : Nat) (IntKind.bits .u64))))) ((2 : Int) ^ min (32 : Nat) (IntKind.bits .u64)))) (wrap .u64 (wrap .u64 num * 1048576)) (wrap .u64 den)) fun r1 =>
  if r1.1 > 1073741824 then
  some (((0 : Int), 0, false))
  else
  if r1.2 > 0 then
   some ((wrap .i64 r1.1, wrap .i64 (wrap .i64 r1.1 + 1), decide (wrap .i64 (wrap .i64 r1.1 + 1) ≤ 1073741824)))
  else
   some ((wrap .i64 r1.1, wrap .i64 r1.1, decide (wrap .i64 r1.1 ≤ 1073741824)))
def jhN : List A → Option (Prop × List RV)
 | [.d (.i .i64 num), .d (.i .i64 den)] => some (ok (y37 num den), [.s [.i .i64 ((val (y37 num den)).1), .i .i64 ((val (y37 num den)).2.1)], .d (.b ((val (y37 num den)).2.2))])
 | _ => none
abbrev sp_42 : jaa → jaa := ja3 42 true (jaG jk4 jhN)
def jpo (num : Int) (den : Int) : T (Int × Int × Bool) :=
 .obT
 (.call (y33 (wrap .u64 num) (1048576 : Int)) fun r0 =>
 .obT
 (.brP (wrap .u64 (wrap .u64 (wrap .u64 (Int.fdiv (wrap .u64 num) ((2 : Int) ^ min (32 : Nat) (IntKind.bits .u64)) * Int.fdiv (1048576 : Int) ((2 : Int) ^ min (32 : Nat) (IntKind.bits .u64))) + Int.fdiv (wrap .u64 (wrap .u64 (Int.fdiv (wrap .u64 num) ((2 : Int) ^ min (32 : Nat) (IntKind.bits .u64)) * 1048576) + Int.fdiv (wrap .u64 (wrap .u64 (↑(BitVec.toNat (BitVec.ofInt (IntKind.bits .u64) (wrap .u64 num) &&& BitVec.ofInt (IntKind.bits .u64) (4294967295 : Int))) : Int) * 1048576)) ((2 : Int) ^ min (32 : Nat) (IntKind.bits .u64)))) ((2 : Int) ^ min (32 : Nat) (IntKind.bits .u64))) + Int.fdiv (wrap .u64 (wrap .u64 (↑(BitVec.toNat (BitVec.ofInt (IntKind.bits .u64) (wrap .u64 (wrap .u64 (Int.fdiv (wrap .u64 num) ((2 : Int) ^ min (32 : Nat) (IntKind.bits .u64)) * 1048576) + Int.fdiv (wrap .u64 (wrap .u64 (↑(BitVec.toNat (BitVec.ofInt (IntKind.bits .u64) (wrap .u64 num) &&& BitVec.ofInt (IntKind.bits .u64) (4294967295 : Int))) : Int) * 1048576)) ((2 : Int) ^ min (32 : Nat) (IntKind.bits .u64)))) &&& BitVec.ofInt (IntKind.bits .u64) (4294967295 : Int))) : Int) + wrap .u64 (wrap .u64 (↑(BitVec.toNat (BitVec.ofInt (IntKind.bits .u64) (wrap .u64 num) &&& BitVec.ofInt (IntKind.bits .u64) (4294967295 : Int))) : Int) * Int.fdiv (1048576 : Int) ((2 : Int) ^ min (32 : Nat) (IntKind.bits .u64))))) ((2 : Int) ^ min (32 : Nat) (IntKind.bits .u64))) ≥ wrap .u64 den)
 (.obT
 (.obT
 (.rc ((((0 : Int), 0, false))))))
 (.obT
 (.call (y34 (wrap .u64 (wrap .u64 (wrap .u64 (Int.fdiv (wrap .u64 num) ((2 : Int) ^ min (32 : Nat) (IntKind.bits .u64)) * Int.fdiv (1048576 : Int) ((2 : Int) ^ min (32 : Nat) (IntKind.bits .u64))) + Int.fdiv (wrap .u64 (wrap .u64 (Int.fdiv (wrap .u64 num) ((2 : Int) ^ min (32 : Nat) (IntKind.bits .u64)) * 1048576) + Int.fdiv (wrap .u64 (wrap .u64 (↑(BitVec.toNat (BitVec.ofInt (IntKind.bits .u64) (wrap .u64 num) &&& BitVec.ofInt (IntKind.bits .u64) (4294967295 : Int))) : Int) * 1048576)) ((2 : Int) ^ min (32 : Nat) (IntKind.bits .u64)))) ((2 : Int) ^ min (32 : Nat) (IntKind.bits .u64))) + Int.fdiv (wrap .u64 (wrap .u64 (↑(BitVec.toNat (BitVec.ofInt (IntKind.bits .u64) (wrap .u64 (wrap .u64 (Int.fdiv (wrap .u64 num) ((2 : Int) ^ min (32 : Nat) (IntKind.bits .u64)) * 1048576) + Int.fdiv (wrap .u64 (wrap .u64 (↑(BitVec.toNat (BitVec.ofInt (IntKind.bits .u64) (wrap .u64 num) &&& BitVec.ofInt (IntKind.bits .u64) (4294967295 : Int))) : Int) * 1048576)) ((2 : Int) ^ min (32 : Nat) (IntKind.bits .u64)))) &&& BitVec.ofInt (IntKind.bits .u64) (4294967295 : Int))) : Int) + wrap .u64 (wrap .u64 (↑(BitVec.toNat (BitVec.ofInt (IntKind.bits .u64) (wrap .u64 num) &&& BitVec.ofInt (IntKind.bits .u64) (4294967295 : Int))) : Int) * Int.fdiv (1048576 : Int) ((2 : Int) ^ min (32 : Nat) (IntKind.bits .u64))))) ((2 : Int) ^ min (32 : Nat) (IntKind.bits .u64)))) (wrap .u64 (wrap .u64 num * 1048576)) (wrap .u64 den)) fun r1 =>
 .brP (r1.1 > 1073741824)
 (.obT
 (.obT
 (.rc ((((0 : Int), 0, false))))))
 (.obT
 (.obT
 (.brP (r1.2 > 0)
 (.obT
 (.obT
 (.rc (((wrap .i64 r1.1, wrap .i64 (wrap .i64 r1.1 + 1), decide (wrap .i64 (wrap .i64 r1.1 + 1) ≤ 1073741824)))))))
 (.obT
 (.obT
 (.rc (((wrap .i64 r1.1, wrap .i64 r1.1, decide (wrap .i64 r1.1 ≤ 1073741824))))))))))))))
theorem jom (num : Int) (den : Int) (r : Int × Int × Bool) (h : Option.bind (y37 num den) some = some r) : jaI Tryz.f42 ((sp_62 (sp_63 sp0))) (fun _ _ _ => none) [.d (.i .i64 num), .d (.i .i64 den)] [.s [.i .i64 r.1, .i .i64 r.2.1], .d (.b r.2.2)] :=
 T.vc (t := jpo num den) (by kernel_rfl) (by kernel_rfl) h
theorem jon : jah Tryz.prog 42 true (jaG jk4 jhN) := by
 refine jaR (sp := (sp_62 (sp_63 sp0))) (fn := Tryz.f42) (body := jai Tryz.f42) mixed (sp_62_ok (sp_63_ok jam)) Tryz.func42 (by kernel_rfl) (by kernel_rfl) fun as_ ob rs h ho => ?_
 unfold jhN at h
 split at h
 ·rename_i num den
  cases h
  exact ⟨Nat.le_of_ble_eq_true rfl, _, _, jom num den _ (ja7 ho)⟩
 ·cases h
theorem sp_42_ok {sp : jaa} (h : jac Tryz.prog sp) : jac Tryz.prog (sp_42 sp) := jax jon h
def jgW : List (Option Cont) := [some (.recs 5 []), none]
def y40 (c : List (List Int)) (tP : Int) (tQ : Int) (tR : Int) (x0 : (Int × Int × Int)) : Option ((Int × Int × Int) ⊕ (Int ⊕ (Int × Int))) :=
 if x0.1 < (↑(List.length c) : Int) then
  if 0 ≤ x0.1 ∧ x0.1 < (↑(List.length c) : Int) then
  if Int.toNat x0.1 < List.length c then
   if Sx06.secB (List.getD (List.getD c (Int.toNat x0.1) []) 0 (0 : Int)) (List.getD (List.getD c (Int.toNat x0.1) []) 1 (0 : Int)) (List.getD (List.getD c (Int.toNat x0.1) []) 2 (0 : Int)) (List.getD (List.getD c (Int.toNat x0.1) []) 3 (0 : Int)) (List.getD (List.getD c (Int.toNat x0.1) []) 4 (0 : Int)) = true ∧ ((-100 : Int) ≤ tP ∧ tP ≤ 100) ∧ ((-100 : Int) ≤ tQ ∧ tQ ≤ 100) ∧ (-100 : Int) ≤ tR ∧ tR ≤ 100 then
   if (Sx06.sqS (16384 : Int) (List.getD (List.getD c (Int.toNat x0.1) []) 3 (0 : Int)) (List.getD (List.getD c (Int.toNat x0.1) []) 4 (0 : Int)) tP tQ tR == 0) = true then
    some (.inr ((.inl (11 : Int))))
   else
    Option.bind (y37 (Sx06.sqS (List.getD (List.getD c (Int.toNat x0.1) []) 0 (0 : Int)) (List.getD (List.getD c (Int.toNat x0.1) []) 1 (0 : Int)) (List.getD (List.getD c (Int.toNat x0.1) []) 2 (0 : Int)) tP tQ tR) (Sx06.sqS (16384 : Int) (List.getD (List.getD c (Int.toNat x0.1) []) 3 (0 : Int)) (List.getD (List.getD c (Int.toNat x0.1) []) 4 (0 : Int)) tP tQ tR)) fun r0 =>
    if (!r0.2.2) = true then
    some (.inr ((.inl (8 : Int))))
    else
    if wrap .i64 (Int.tdiv (wrap .i64 (wrap .i64 (wrap .i64 (x0.2.2 * r0.2.1) + 1048576) - 1)) (1048576 : Int)) > 1073741824 then
     some (.inr ((.inl (8 : Int))))
    else
     some (.inl ((wrap .i64 (x0.1 + 1), wrap .i64 (Int.tdiv (wrap .i64 (x0.2.1 * r0.1)) (1048576 : Int)), wrap .i64 (Int.tdiv (wrap .i64 (wrap .i64 (wrap .i64 (x0.2.2 * r0.2.1) + 1048576) - 1)) (1048576 : Int)))))
   else none
  else none
  else none
 else
  some (.inr ((.inr (x0.2.1, x0.2.2))))
def ji2 (u0 : Int) : Option (Int × Int × Int) :=
 some (((0 : Int), 0, u0))
def ji3 (u1 : Int × Int) : Option (Int × Int × Int) :=
 some ((u1.1, u1.2, 0))
def y41 : (Int ⊕ (Int × Int)) → Option (Int × Int × Int) :=
 (Sum.elim (ji2) (ji3))
def y47 (c : List (List Int)) (tP : Int) (tQ : Int) (tR : Int) : Option (Int × Int × Int) :=
 if List.length c ≤ 1000000000 then
  if List.length [Sx06.chkE c, Sx06.turnE tP tQ tR] ≤ 1000000 then
  if (Option.getD (List.find? (fun x => x != 0) [Sx06.chkE c, Sx06.turnE tP tQ tR]) (0 : Int) != 0) = true then
   some (((0 : Int), 0, Option.getD (List.find? (fun x => x != 0) [Sx06.chkE c, Sx06.turnE tP tQ tR]) (0 : Int)))
  else
   Option.bind (jad (y40 c tP tQ tR) big (((0 : Int), 1048576, 1048576))) (y41)
  else none
 else none
def jeu : List A → Option (Prop × List RV)
 | [.r (.recs 5 c), .s [.i .i64 tP, .i .i64 tQ, .i .i64 tR]] => some (ok (y47 c tP tQ tR), [.s [.i .i64 ((val (y47 c tP tQ tR)).1), .i .i64 ((val (y47 c tP tQ tR)).2.1)], .d (.i .i64 ((val (y47 c tP tQ tR)).2.2))])
 | _ => none
abbrev sp_17 : jaa → jaa := ja3 17 true (jaG jgW jeu)
theorem jkz (c : List (List Int)) (tP : Int) (tQ : Int) (tR : Int) (r : Int × Int × Int) (h : Option.bind (y47 c tP tQ tR) some = some r) : jaI Tryz.f17 ((sp_24 (sp_40 (sp_29 (sp_41 (sp_42 sp0)))))) (fun gs id _ => match id with
 | 0 => some ⟨(Int × Int × Int) × Nat, fun z => ⟨[(3, .w (.c (.p 2 0 1 0))), (4, .w (.c (.p 3 0 1 0))), (7, .w (.c (.p 4 0 1 0))), (25, .w (.c (.o 0))), (26, .w (.c (.d (.i .i64 ((↑(List.length c) : Int)))))), (27, .w (.c (.d (.i .i64 (Prod.fst (Prod.fst z))))))], [(2, .box 53 [.d (.i .i64 tP), .d (.i .i64 tQ), .d (.i .i64 tR)]), (3, .box 49 [.d (.i .i64 0), .d (.i .i64 0)]), (4, .box 49 [.d (.i .i64 (Prod.fst (Prod.snd (Prod.fst z)))), .d (.i .i64 (Prod.snd (Prod.snd (Prod.fst z))))]), (0, .ext (.recs 5 c))], 5⟩, fun z => Option.bind (jad (y40 c tP tQ tR) (Prod.snd z) (Prod.fst z)) (fun y0 => Option.bind (y41 y0) some) = some r, fun z => Prod.snd z⟩
 | _ => none) [.r (.recs 5 c), .s [.i .i64 tP, .i .i64 tQ, .i .i64 tR]] [.s [.i .i64 r.1, .i .i64 r.2.1], .d (.i .i64 r.2.2)] := by
 refine Eq.mp (by kernel_rfl : (
 (Ob (List.length c ≤ 1000000000) ∧
 (Ob True ∧
 (Ob (List.length [Sx06.chkE c, Sx06.turnE tP tQ tR] ≤ 1000000) ∧
 Br (Option.getD (List.find? (fun x => x != 0) [Sx06.chkE c, Sx06.turnE tP tQ tR]) (0 : Int) != 0)
  ((Ob True ∧
 (Ob True ∧
 (Ob ((0 : Int) = r.1) ∧
 (Ob ((0 : Int) = r.2.1) ∧
 (Ob (Option.getD (List.find? (fun x => x != 0) [Sx06.chkE c, Sx06.turnE tP tQ tR]) (0 : Int) = r.2.2) ∧
 True))))))
  (((∃ (v0 : (Int × Int × Int) × Nat), (Ob ((Option.bind (jad (y40 c tP tQ tR) v0.2 v0.1) fun y0 => Option.bind (y41 y0) some) = some r) ∧
 (Ob (0 = 0) ∧
 (Ob (0 = 0) ∧
 (Ob (0 = 0) ∧
 (Ob ((↑(List.length c) : Int) = (↑(List.length c) : Int)) ∧
 (Ob ((0 : Int) = v0.1.1) ∧
 (Ob (tP = tP) ∧
 (Ob (tQ = tQ) ∧
 (Ob (tR = tR) ∧
 (Ob ((0 : Int) = (0 : Int)) ∧
 (Ob ((0 : Int) = (0 : Int)) ∧
 (Ob ((1048576 : Int) = v0.1.2.1) ∧
 (Ob ((1048576 : Int) = v0.1.2.2) ∧
 (Ob (c = c) ∧
 True))))))))))))))) ∧
  (∀ (v0 : (Int × Int × Int) × Nat), ((Option.bind (jad (y40 c tP tQ tR) v0.2 v0.1) fun y0 => Option.bind (y41 y0) some) = some r →
 Br (decide (v0.1.1 < (↑(List.length c) : Int)))
  ((Ob (0 ≤ v0.1.1 ∧ v0.1.1 < (↑(List.length c) : Int)) ∧
 (Ob (Int.toNat v0.1.1 < List.length c) ∧
 (Ob (Sx06.secB (List.getD (List.getD c (Int.toNat v0.1.1) []) 0 (0 : Int)) (List.getD (List.getD c (Int.toNat v0.1.1) []) 1 (0 : Int)) (List.getD (List.getD c (Int.toNat v0.1.1) []) 2 (0 : Int)) (List.getD (List.getD c (Int.toNat v0.1.1) []) 3 (0 : Int)) (List.getD (List.getD c (Int.toNat v0.1.1) []) 4 (0 : Int)) = true ∧ ((-100 : Int) ≤ tP ∧ tP ≤ 100) ∧ ((-100 : Int) ≤ tQ ∧ tQ ≤ 100) ∧ (-100 : Int) ≤ tR ∧ tR ≤ 100) ∧
 Br (Sx06.sqS (16384 : Int) (List.getD (List.getD c (Int.toNat v0.1.1) []) 3 (0 : Int)) (List.getD (List.getD c (Int.toNat v0.1.1) []) 4 (0 : Int)) tP tQ tR == 0)
  ((Ob True ∧
 (Ob True ∧
 (Ob ((0 : Int) = r.1) ∧
 (Ob ((0 : Int) = r.2.1) ∧
 (Ob ((11 : Int) = r.2.2) ∧
 True))))))
  ((Ob (ok (y37 (Sx06.sqS (List.getD (List.getD c (Int.toNat v0.1.1) []) 0 (0 : Int)) (List.getD (List.getD c (Int.toNat v0.1.1) []) 1 (0 : Int)) (List.getD (List.getD c (Int.toNat v0.1.1) []) 2 (0 : Int)) tP tQ tR) (Sx06.sqS (16384 : Int) (List.getD (List.getD c (Int.toNat v0.1.1) []) 3 (0 : Int)) (List.getD (List.getD c (Int.toNat v0.1.1) []) 4 (0 : Int)) tP tQ tR))) ∧
 Br (!(val (y37 (Sx06.sqS (List.getD (List.getD c (Int.toNat v0.1.1) []) 0 (0 : Int)) (List.getD (List.getD c (Int.toNat v0.1.1) []) 1 (0 : Int)) (List.getD (List.getD c (Int.toNat v0.1.1) []) 2 (0 : Int)) tP tQ tR) (Sx06.sqS (16384 : Int) (List.getD (List.getD c (Int.toNat v0.1.1) []) 3 (0 : Int)) (List.getD (List.getD c (Int.toNat v0.1.1) []) 4 (0 : Int)) tP tQ tR))).2.2)
  ((Ob True ∧
 (Ob True ∧
 (Ob ((0 : Int) = r.1) ∧
 (Ob ((0 : Int) = r.2.1) ∧
 (Ob ((8 : Int) = r.2.2) ∧
 True))))))
  ((Ob ((1048576 : Int) ≠ (0 : Int)) ∧
 (Ob ((1048576 : Int) ≠ (0 : Int)) ∧
 Br (decide (wrap .i64 (Int.tdiv (wrap .i64 (wrap .i64 (wrap .i64 (v0.1.2.2 * (val (y37 (Sx06.sqS (List.getD (List.getD c (Int.toNat v0.1.1) []) 0 (0 : Int)) (List.getD (List.getD c (Int.toNat v0.1.1) []) 1 (0 : Int)) (List.getD (List.getD c (Int.toNat v0.1.1) []) 2 (0 : Int)) tP tQ tR) (Sx06.sqS (16384 : Int) (List.getD (List.getD c (Int.toNat v0.1.1) []) 3 (0 : Int)) (List.getD (List.getD c (Int.toNat v0.1.1) []) 4 (0 : Int)) tP tQ tR))).2.1) + 1048576) - 1)) (1048576 : Int)) > 1073741824))
  ((Ob True ∧
 (Ob True ∧
 (Ob ((0 : Int) = r.1) ∧
 (Ob ((0 : Int) = r.2.1) ∧
 (Ob ((8 : Int) = r.2.2) ∧
 True))))))
  ((∃ (v1 : (Int × Int × Int) × Nat), (Ob ((Option.bind (jad (y40 c tP tQ tR) v1.2 v1.1) fun y0 => Option.bind (y41 y0) some) = some r) ∧
 (Ob (v1.2 < v0.2) ∧
 (Ob (0 = 0) ∧
 (Ob (0 = 0) ∧
 (Ob (0 = 0) ∧
 (Ob ((↑(List.length c) : Int) = (↑(List.length c) : Int)) ∧
 (Ob (wrap .i64 (v0.1.1 + 1) = v1.1.1) ∧
 (Ob (tP = tP) ∧
 (Ob (tQ = tQ) ∧
 (Ob (tR = tR) ∧
 (Ob ((0 : Int) = (0 : Int)) ∧
 (Ob ((0 : Int) = (0 : Int)) ∧
 (Ob (wrap .i64 (Int.tdiv (wrap .i64 (v0.1.2.1 * (val (y37 (Sx06.sqS (List.getD (List.getD c (Int.toNat v0.1.1) []) 0 (0 : Int)) (List.getD (List.getD c (Int.toNat v0.1.1) []) 1 (0 : Int)) (List.getD (List.getD c (Int.toNat v0.1.1) []) 2 (0 : Int)) tP tQ tR) (Sx06.sqS (16384 : Int) (List.getD (List.getD c (Int.toNat v0.1.1) []) 3 (0 : Int)) (List.getD (List.getD c (Int.toNat v0.1.1) []) 4 (0 : Int)) tP tQ tR))).1)) (1048576 : Int)) = v1.1.2.1) ∧
 (Ob (wrap .i64 (Int.tdiv (wrap .i64 (wrap .i64 (wrap .i64 (v0.1.2.2 * (val (y37 (Sx06.sqS (List.getD (List.getD c (Int.toNat v0.1.1) []) 0 (0 : Int)) (List.getD (List.getD c (Int.toNat v0.1.1) []) 1 (0 : Int)) (List.getD (List.getD c (Int.toNat v0.1.1) []) 2 (0 : Int)) tP tQ tR) (Sx06.sqS (16384 : Int) (List.getD (List.getD c (Int.toNat v0.1.1) []) 3 (0 : Int)) (List.getD (List.getD c (Int.toNat v0.1.1) []) 4 (0 : Int)) tP tQ tR))).2.1) + 1048576) - 1)) (1048576 : Int)) = v1.1.2.2) ∧
 (Ob (c = c) ∧
 True))))))))))))))))))))))))))
  ((Ob True ∧
 (Ob True ∧
 (Ob (v0.1.2.1 = r.1) ∧
 (Ob (v0.1.2.2 = r.2.1) ∧
 (Ob ((0 : Int) = r.2.2) ∧
 True)))))))))))))) = _) ?_
 refine jaj h fun h => ?_
 refine jae ?_
 refine jaj h fun h => ?_
 refine jbd h (fun h => ?_) (fun h => ?_)
 ·refine jae ?_
  refine jae ?_
  exact jal h (fun e => by subst e; exact (by repeat' (first | exact trivial | exact ⟨rfl⟩ | refine And.intro ?_ ?_)))
 ·refine ⟨⟨(((0 : Int), 1048576, 1048576), big), ⟨jba h⟩, (by repeat' (first | exact trivial | exact ⟨rfl⟩ | refine And.intro ?_ ?_))⟩, fun z1 hz1 => ?_⟩
  obtain ⟨k1, hm1, h⟩ := jaN hz1
  refine jaD h (fun h => ?_) (fun h => ?_)
  ·refine jaj h fun h => ?_
   refine jaj h fun h => ?_
   refine jaj h fun h => ?_
   refine jbd h (fun h => ?_) (fun h => ?_)
   ·have h := jaq h
    refine jae ?_
    refine jae ?_
    exact jal h (fun e => by subst e; exact (by repeat' (first | exact trivial | exact ⟨rfl⟩ | refine And.intro ?_ ?_)))
   ·refine jcp h fun h => ?_
    refine jbd h (fun h => ?_) (fun h => ?_)
    ·have h := jaq h
     refine jae ?_
     refine jae ?_
     exact jal h (fun e => by subst e; exact (by repeat' (first | exact trivial | exact ⟨rfl⟩ | refine And.intro ?_ ?_)))
    ·refine jbx (p := (1048576 : Int) ≠ (0 : Int)) (by decide) ?_
     refine jbx (p := (1048576 : Int) ≠ (0 : Int)) (by decide) ?_
     refine jaD h (fun h => ?_) (fun h => ?_)
     ·have h := jaq h
      refine jae ?_
      refine jae ?_
      exact jal h (fun e => by subst e; exact (by repeat' (first | exact trivial | exact ⟨rfl⟩ | refine And.intro ?_ ?_)))
     ·exact ⟨((wrap .i64 ((Prod.fst z1).1 + 1), wrap .i64 (Int.tdiv (wrap .i64 ((Prod.fst z1).2.1 * (val (y37 (Sx06.sqS (List.getD (List.getD c (Int.toNat (Prod.fst z1).1) []) (0 : Nat) (0 : Int)) (List.getD (List.getD c (Int.toNat (Prod.fst z1).1) []) (1 : Nat) (0 : Int)) (List.getD (List.getD c (Int.toNat (Prod.fst z1).1) []) (2 : Nat) (0 : Int)) tP tQ tR) (Sx06.sqS (16384 : Int) (List.getD (List.getD c (Int.toNat (Prod.fst z1).1) []) (3 : Nat) (0 : Int)) (List.getD (List.getD c (Int.toNat (Prod.fst z1).1) []) (4 : Nat) (0 : Int)) tP tQ tR))).1)) (1048576 : Int)), wrap .i64 (Int.tdiv (wrap .i64 (wrap .i64 (wrap .i64 ((Prod.fst z1).2.2 * (val (y37 (Sx06.sqS (List.getD (List.getD c (Int.toNat (Prod.fst z1).1) []) (0 : Nat) (0 : Int)) (List.getD (List.getD c (Int.toNat (Prod.fst z1).1) []) (1 : Nat) (0 : Int)) (List.getD (List.getD c (Int.toNat (Prod.fst z1).1) []) (2 : Nat) (0 : Int)) tP tQ tR) (Sx06.sqS (16384 : Int) (List.getD (List.getD c (Int.toNat (Prod.fst z1).1) []) (3 : Nat) (0 : Int)) (List.getD (List.getD c (Int.toNat (Prod.fst z1).1) []) (4 : Nat) (0 : Int)) tP tQ tR))).2.1) + 1048576) - 1)) (1048576 : Int))), k1), ⟨jaO h⟩, ⟨ja2 hm1.symm⟩, (by repeat' (first | exact trivial | exact ⟨rfl⟩ | refine And.intro ?_ ?_))⟩
  ·have h := jaq h
   refine jae ?_
   refine jae ?_
   exact jal h (fun e => by subst e; exact (by repeat' (first | exact trivial | exact ⟨rfl⟩ | refine And.intro ?_ ?_)))
theorem jkA : jah Tryz.prog 17 true (jaG jgW jeu) := by
 refine jaR (sp := (sp_24 (sp_40 (sp_29 (sp_41 (sp_42 sp0)))))) (fn := Tryz.f17) (body := jai Tryz.f17) mixed (sp_24_ok (sp_40_ok (sp_29_ok (sp_41_ok (sp_42_ok jam))))) Tryz.func17 (by kernel_rfl) (by kernel_rfl) fun as_ ob rs h ho => ?_
 unfold jeu at h
 split at h
 ·rename_i c tP tQ tR
  cases h
  exact ⟨Nat.le_of_ble_eq_true rfl, _, _, jkz c tP tQ tR _ (ja7 ho)⟩
 ·cases h
theorem sp_17_ok {sp : jaa} (h : jac Tryz.prog sp) : jac Tryz.prog (sp_17 sp) := jax jkA h
def jj3 : List (Option Cont) := []
def y39 : Option (Int × Int × Int × Int × Int) :=
 some (((8192 : Int), 0, 0, (-8192 : Int), 0))
def jgD : List A → Option (Prop × List RV)
 | [] => some (ok (y39), [.s [.i .i64 ((val (y39)).1), .i .i64 ((val (y39)).2.1), .i .i64 ((val (y39)).2.2.1), .i .i64 ((val (y39)).2.2.2.1), .i .i64 ((val (y39)).2.2.2.2)]])
 | _ => none
abbrev sp_14 : jaa → jaa := ja3 14 true (jaG jj3 jgD)
def joo : T (Int × Int × Int × Int × Int) :=
 .obT
 (.rc ((((8192 : Int), 0, 0, (-8192 : Int), 0))))
theorem jm1 (r : Int × Int × Int × Int × Int) (h : Option.bind (y39) some = some r) : jaI Tryz.f14 (sp0) (fun _ _ _ => none) [] [.s [.i .i64 r.1, .i .i64 r.2.1, .i .i64 r.2.2.1, .i .i64 r.2.2.2.1, .i .i64 r.2.2.2.2]] :=
 T.vc (t := joo) (by kernel_rfl) (by kernel_rfl) h
theorem jm2 : jah Tryz.prog 14 true (jaG jj3 jgD) := by
 refine jaR (sp := sp0) (fn := Tryz.f14) (body := jai Tryz.f14) mixed jam Tryz.func14 (by kernel_rfl) (by kernel_rfl) fun as_ ob rs h ho => ?_
 unfold jgD at h
 split at h
 ·cases h
  exact ⟨Nat.le_of_ble_eq_true rfl, _, _, jm1 _ (ja7 ho)⟩
 ·cases h
theorem sp_14_ok {sp : jaa} (h : jac Tryz.prog sp) : jac Tryz.prog (sp_14 sp) := jax jm2 h
def jk5 : List (Option Cont) := [some (.recs 5 [])]
def jeK (c : List (List Int)) : Option Bool :=
 some (decide ((↑(List.length c) : Int) ≤ 8))
def jhO : List A → Option (Prop × List RV)
 | [.r (.recs 5 c)] => some (ok (jeK c), [.d (.b ((val (jeK c))))])
 | _ => none
abbrev sp_5 : jaa → jaa := ja3 5 true (jaG jk5 jhO)
def jpp (c : List (List Int)) : T (Bool) :=
 .obT
 (.rc ((decide ((↑(List.length c) : Int) ≤ 8))))
theorem jop (c : List (List Int)) (r : Bool) (h : Option.bind (jeK c) some = some r) : jaI Tryz.f5 (sp0) (fun _ _ _ => none) [.r (.recs 5 c)] [.d (.b r)] :=
 T.vc (t := jpp c) (by kernel_rfl) (by kernel_rfl) h
theorem joq : jah Tryz.prog 5 true (jaG jk5 jhO) := by
 refine jaR (sp := sp0) (fn := Tryz.f5) (body := jai Tryz.f5) mixed jam Tryz.func5 (by kernel_rfl) (by kernel_rfl) fun as_ ob rs h ho => ?_
 unfold jhO at h
 split at h
 ·rename_i c
  cases h
  exact ⟨Nat.le_of_ble_eq_true rfl, _, _, jop c _ (ja7 ho)⟩
 ·cases h
theorem sp_5_ok {sp : jaa} (h : jac Tryz.prog sp) : jac Tryz.prog (sp_5 sp) := jax joq h
def jj4 : List (Option Cont) := [some (.recs 5 [])]
def jdi (c : List (List Int)) : Option (List (List Int)) :=
 if (0 + List.length c) * 40 ≤ 140737488355328 ∧ 0 + List.length c ≤ 9223372036854775807 then
  some ([] ++ c)
 else none
def jgE : List A → Option (Prop × List RV)
 | [.r (.recs 5 c)] => some (ok (jdi c), [.row 42 (.recs 5 ((val (jdi c))))])
 | _ => none
abbrev sp_7 : jaa → jaa := ja3 7 true (jaG jj4 jgE)
def jor (c : List (List Int)) : T (List (List Int)) :=
 .obP ((0 + List.length c) * 40 ≤ 140737488355328 ∧ 0 + List.length c ≤ 9223372036854775807)
 (.obT
 (.rc (([] ++ c))))
theorem jm3 (c : List (List Int)) (r : List (List Int)) (h : Option.bind (jdi c) some = some r) : jaI Tryz.f7 (sp0) (fun _ _ _ => none) [.r (.recs 5 c)] [.row 42 (.recs 5 r)] :=
 T.vc (t := jor c) (by kernel_rfl) (by kernel_rfl) h
theorem jm4 : jah Tryz.prog 7 true (jaG jj4 jgE) := by
 refine jaR (sp := sp0) (fn := Tryz.f7) (body := jai Tryz.f7) mixed jam Tryz.func7 (by kernel_rfl) (by kernel_rfl) fun as_ ob rs h ho => ?_
 unfold jgE at h
 split at h
 ·rename_i c
  cases h
  exact ⟨Nat.le_of_ble_eq_true rfl, _, _, jm3 c _ (ja7 ho)⟩
 ·cases h
theorem sp_7_ok {sp : jaa} (h : jac Tryz.prog sp) : jac Tryz.prog (sp_7 sp) := jax jm4 h
def jj5 : List (Option Cont) := [some (.recs 5 []), some (.recs 5 [])]
def y36 (a : List (List Int)) (b : List (List Int)) (x0 : Int) : Option (Int ⊕ (Unit ⊕ Unit)) :=
 if x0 < (↑(List.length a) : Int) then
  if 0 ≤ x0 ∧ x0 < (↑(List.length a) : Int) then
  if Int.toNat x0 < List.length a then
   if 0 ≤ x0 ∧ x0 < (↑(List.length b) : Int) then
   if Int.toNat x0 < List.length b then
    if (!(List.getD (List.getD a (Int.toNat x0) []) 0 (0 : Int) == List.getD (List.getD b (Int.toNat x0) []) 0 (0 : Int) && (List.getD (List.getD a (Int.toNat x0) []) 1 (0 : Int) == List.getD (List.getD b (Int.toNat x0) []) 1 (0 : Int) && List.getD (List.getD a (Int.toNat x0) []) 2 (0 : Int) == List.getD (List.getD b (Int.toNat x0) []) 2 (0 : Int)) && (List.getD (List.getD a (Int.toNat x0) []) 3 (0 : Int) == List.getD (List.getD b (Int.toNat x0) []) 3 (0 : Int) && List.getD (List.getD a (Int.toNat x0) []) 4 (0 : Int) == List.getD (List.getD b (Int.toNat x0) []) 4 (0 : Int)))) = true then
    some (.inr ((.inl ())))
    else
    some (.inl (wrap .i64 (x0 + 1)))
   else none
   else none
  else none
  else none
 else
  some (.inr ((.inr ())))
def jlm (u0 : Unit) : Option Bool :=
 some false
def jln (u1 : Unit) : Option Bool :=
 some true
def y56 : (Unit ⊕ Unit) → Option Bool :=
 (Sum.elim (jlm) (jln))
def y44 (a : List (List Int)) (b : List (List Int)) : Option Bool :=
 if ((↑(List.length a) : Int) != (↑(List.length b) : Int)) = true then
  some false
 else
  Option.bind (jad (y36 a b) big (0 : Int)) (y56)
def jgF : List A → Option (Prop × List RV)
 | [.r (.recs 5 a), .r (.recs 5 b)] => some (ok (y44 a b), [.d (.b ((val (y44 a b))))])
 | _ => none
abbrev sp_11 : jaa → jaa := ja3 11 true (jaG jj5 jgF)
theorem jm5 (a : List (List Int)) (b : List (List Int)) (r : Bool) (h : Option.bind (y44 a b) some = some r) : jaI Tryz.f11 (sp0) (fun gs id _ => match id with
 | 0 => some ⟨Int × Nat, fun z => ⟨[(0, .w (.c (.o 0))), (1, .w (.c (.o 1))), (5, .w (.c (.d (.i .i64 (Prod.fst z)))))], [(0, .ext (.recs 5 a)), (1, .ext (.recs 5 b))], 2⟩, fun z => Option.bind (jad (y36 a b) (Prod.snd z) (Prod.fst z)) (fun y0 => Option.bind (y56 y0) some) = some r, fun z => Prod.snd z⟩
 | _ => none) [.r (.recs 5 a), .r (.recs 5 b)] [.d (.b r)] := by
 refine Eq.mp (by kernel_rfl : (
 Br ((↑(List.length a) : Int) != (↑(List.length b) : Int))
  ((Ob True ∧
 (Ob (false = r) ∧
 True)))
  (((∃ (v0 : Int × Nat), (Ob ((Option.bind (jad (y36 a b) v0.2 v0.1) fun y0 => Option.bind (y56 y0) some) = some r) ∧
 (Ob ((0 : Int) = v0.1) ∧
 (Ob (a = a) ∧
 (Ob (b = b) ∧
 True))))) ∧
  (∀ (v0 : Int × Nat), ((Option.bind (jad (y36 a b) v0.2 v0.1) fun y0 => Option.bind (y56 y0) some) = some r →
 Br (decide (v0.1 < (↑(List.length a) : Int)))
  ((Ob (0 ≤ v0.1 ∧ v0.1 < (↑(List.length a) : Int)) ∧
 (Ob (Int.toNat v0.1 < List.length a) ∧
 (Ob (0 ≤ v0.1 ∧ v0.1 < (↑(List.length b) : Int)) ∧
 (Ob (Int.toNat v0.1 < List.length b) ∧
 Br (!(List.getD (List.getD a (Int.toNat v0.1) []) 0 (0 : Int) == List.getD (List.getD b (Int.toNat v0.1) []) 0 (0 : Int) && (List.getD (List.getD a (Int.toNat v0.1) []) 1 (0 : Int) == List.getD (List.getD b (Int.toNat v0.1) []) 1 (0 : Int) && List.getD (List.getD a (Int.toNat v0.1) []) 2 (0 : Int) == List.getD (List.getD b (Int.toNat v0.1) []) 2 (0 : Int)) && (List.getD (List.getD a (Int.toNat v0.1) []) 3 (0 : Int) == List.getD (List.getD b (Int.toNat v0.1) []) 3 (0 : Int) && List.getD (List.getD a (Int.toNat v0.1) []) 4 (0 : Int) == List.getD (List.getD b (Int.toNat v0.1) []) 4 (0 : Int))))
  ((Ob True ∧
 (Ob (false = r) ∧
 True)))
  ((∃ (v1 : Int × Nat), (Ob ((Option.bind (jad (y36 a b) v1.2 v1.1) fun y0 => Option.bind (y56 y0) some) = some r) ∧
 (Ob (v1.2 < v0.2) ∧
 (Ob (wrap .i64 (v0.1 + 1) = v1.1) ∧
 (Ob (a = a) ∧
 (Ob (b = b) ∧
 True))))))))))))
  ((Ob True ∧
 (Ob (true = r) ∧
 True)))))))) = _) ?_
 refine jbd h (fun h => ?_) (fun h => ?_)
 ·refine jae ?_
  exact jal h (fun e => by subst e; exact (by repeat' (first | exact trivial | exact ⟨rfl⟩ | refine And.intro ?_ ?_)))
 ·refine ⟨⟨((0 : Int), big), ⟨jba h⟩, (by repeat' (first | exact trivial | exact ⟨rfl⟩ | refine And.intro ?_ ?_))⟩, fun z0 hz0 => ?_⟩
  obtain ⟨k0, hm0, h⟩ := jaN hz0
  refine jaD h (fun h => ?_) (fun h => ?_)
  ·refine jaj h fun h => ?_
   refine jaj h fun h => ?_
   refine jaj h fun h => ?_
   refine jaj h fun h => ?_
   refine jbd h (fun h => ?_) (fun h => ?_)
   ·have h := jaq h
    refine jae ?_
    exact jal h (fun e => by subst e; exact (by repeat' (first | exact trivial | exact ⟨rfl⟩ | refine And.intro ?_ ?_)))
   ·exact ⟨(wrap .i64 (Prod.fst z0 + 1), k0), ⟨jaO h⟩, ⟨ja2 hm0.symm⟩, (by repeat' (first | exact trivial | exact ⟨rfl⟩ | refine And.intro ?_ ?_))⟩
  ·have h := jaq h
   refine jae ?_
   exact jal h (fun e => by subst e; exact (by repeat' (first | exact trivial | exact ⟨rfl⟩ | refine And.intro ?_ ?_)))
theorem jm6 : jah Tryz.prog 11 true (jaG jj5 jgF) := by
 refine jaR (sp := sp0) (fn := Tryz.f11) (body := jai Tryz.f11) mixed jam Tryz.func11 (by kernel_rfl) (by kernel_rfl) fun as_ ob rs h ho => ?_
 unfold jgF at h
 split at h
 ·rename_i a b
  cases h
  exact ⟨Nat.le_of_ble_eq_true rfl, _, _, jm5 a b _ (ja7 ho)⟩
 ·cases h
theorem sp_11_ok {sp : jaa} (h : jac Tryz.prog sp) : jac Tryz.prog (sp_11 sp) := jax jm6 h
def y61 : List (Option Cont) := [none]
def y19 (sB0 : Int) (sB1 : Int) (sB2 : Int) (sA0 : Int) (sA1 : Int) (x0 : Int) : Option (Int ⊕ (Unit ⊕ Unit)) :=
 if x0 < (↑(List.length [sB0, sB1, sB2, sA0, sA1]) : Int) then
  if 0 ≤ x0 ∧ x0 < (↑(List.length [sB0, sB1, sB2, sA0, sA1]) : Int) then
  if Int.toNat x0 < List.length [sB0, sB1, sB2, sA0, sA1] then
   if (!(decide ((-32768 : Int) ≤ List.getD [sB0, sB1, sB2, sA0, sA1] (Int.toNat x0) (0 : Int)) && decide (List.getD [sB0, sB1, sB2, sA0, sA1] (Int.toNat x0) (0 : Int) ≤ 32768))) = true then
   some (.inr ((.inl ())))
   else
   some (.inl (wrap .i64 (x0 + 1)))
  else none
  else none
 else
  some (.inr ((.inr ())))
def jfW (u0 : Unit) : Option Int :=
 some (2 : Int)
def jfX (u1 : Unit) : Option Int :=
 some (0 : Int)
def y30 : (Unit ⊕ Unit) → Option Int :=
 (Sum.elim (jfW) (jfX))
def y21 (sB0 : Int) (sB1 : Int) (sB2 : Int) (sA0 : Int) (sA1 : Int) : Option Int :=
 Option.bind (jad (y19 sB0 sB1 sB2 sA0 sA1) big (0 : Int)) (y30)
def y50 : List A → Option (Prop × List RV)
 | [.s [.i .i64 sB0, .i .i64 sB1, .i .i64 sB2, .i .i64 sA0, .i .i64 sA1]] => some (ok (y21 sB0 sB1 sB2 sA0 sA1), [.d (.i .i64 ((val (y21 sB0 sB1 sB2 sA0 sA1))))])
 | _ => none
abbrev sp_28 : jaa → jaa := ja3 28 true (jaG y61 y50)
theorem jgY (sB0 : Int) (sB1 : Int) (sB2 : Int) (sA0 : Int) (sA1 : Int) (r : Int) (h : Option.bind (y21 sB0 sB1 sB2 sA0 sA1) some = some r) : jaI Tryz.f28 ((sp_53 sp0)) (fun gs id _ => match id with
 | 0 => some ⟨Int × Nat, fun z => ⟨[(3, .w (.c (.o 1))), (4, .w (.c (.d (.i .i64 (Prod.fst z)))))], [(1, .row 3 (.ints .i64 ([sB0, sB1, sB2, sA0, sA1])))], 2⟩, fun z => Option.bind (jad (y19 sB0 sB1 sB2 sA0 sA1) (Prod.snd z) (Prod.fst z)) (fun y0 => Option.bind (y30 y0) some) = some r, fun z => Prod.snd z⟩
 | _ => none) [.s [.i .i64 sB0, .i .i64 sB1, .i .i64 sB2, .i .i64 sA0, .i .i64 sA1]] [.d (.i .i64 r)] := by
 refine Eq.mp (by kernel_rfl : (
 (Ob ((0 : Int) ≤ 0 ∧ 0 < (↑(3 : Nat) : Int)) ∧
 (Ob ((0 : Int) ≤ 1 ∧ 1 < (↑(3 : Nat) : Int)) ∧
 (Ob ((0 : Int) ≤ 2 ∧ 2 < (↑(3 : Nat) : Int)) ∧
 (Ob ((0 : Int) ≤ 0 ∧ 0 < (↑(2 : Nat) : Int)) ∧
 (Ob ((0 : Int) ≤ 1 ∧ 1 < (↑(2 : Nat) : Int)) ∧
  ((∃ (v0 : Int × Nat), (Ob ((Option.bind (jad (y19 sB0 sB1 sB2 sA0 sA1) v0.2 v0.1) fun y0 => Option.bind (y30 y0) some) = some r) ∧
 (Ob ((0 : Int) = v0.1) ∧
 (Ob ([sB0, sB1, sB2, sA0, sA1] = [sB0, sB1, sB2, sA0, sA1]) ∧
 True)))) ∧
  (∀ (v0 : Int × Nat), ((Option.bind (jad (y19 sB0 sB1 sB2 sA0 sA1) v0.2 v0.1) fun y0 => Option.bind (y30 y0) some) = some r →
 Br (decide (v0.1 < (↑(List.length [sB0, sB1, sB2, sA0, sA1]) : Int)))
  ((Ob (0 ≤ v0.1 ∧ v0.1 < (↑(List.length [sB0, sB1, sB2, sA0, sA1]) : Int)) ∧
 (Ob (Int.toNat v0.1 < List.length [sB0, sB1, sB2, sA0, sA1]) ∧
 (Ob True ∧
 Br (!(decide ((-32768 : Int) ≤ List.getD [sB0, sB1, sB2, sA0, sA1] (Int.toNat v0.1) (0 : Int)) && decide (List.getD [sB0, sB1, sB2, sA0, sA1] (Int.toNat v0.1) (0 : Int) ≤ 32768)))
  ((Ob True ∧
 (Ob ((2 : Int) = r) ∧
 True)))
  ((∃ (v1 : Int × Nat), (Ob ((Option.bind (jad (y19 sB0 sB1 sB2 sA0 sA1) v1.2 v1.1) fun y0 => Option.bind (y30 y0) some) = some r) ∧
 (Ob (v1.2 < v0.2) ∧
 (Ob (wrap .i64 (v0.1 + 1) = v1.1) ∧
 (Ob ([sB0, sB1, sB2, sA0, sA1] = [sB0, sB1, sB2, sA0, sA1]) ∧
 True))))))))))
  ((Ob True ∧
 (Ob ((0 : Int) = r) ∧
 True)))))))))))) = _) ?_
 refine jbx (p := (0 : Int) ≤ 0 ∧ 0 < (↑(3 : Nat) : Int)) (by decide) ?_
 refine jbx (p := (0 : Int) ≤ 1 ∧ 1 < (↑(3 : Nat) : Int)) (by decide) ?_
 refine jbx (p := (0 : Int) ≤ 2 ∧ 2 < (↑(3 : Nat) : Int)) (by decide) ?_
 refine jbx (p := (0 : Int) ≤ 0 ∧ 0 < (↑(2 : Nat) : Int)) (by decide) ?_
 refine jbx (p := (0 : Int) ≤ 1 ∧ 1 < (↑(2 : Nat) : Int)) (by decide) ?_
 refine ⟨⟨((0 : Int), big), ⟨jba h⟩, (by repeat' (first | exact trivial | exact ⟨rfl⟩ | refine And.intro ?_ ?_))⟩, fun z0 hz0 => ?_⟩
 obtain ⟨k0, hm0, h⟩ := jaN hz0
 refine jaD h (fun h => ?_) (fun h => ?_)
 ·refine jaj h fun h => ?_
  refine jaj h fun h => ?_
  refine jae ?_
  refine jbd h (fun h => ?_) (fun h => ?_)
  ·have h := jaq h
   refine jae ?_
   exact jal h (fun e => by subst e; exact (by repeat' (first | exact trivial | exact ⟨rfl⟩ | refine And.intro ?_ ?_)))
  ·exact ⟨(wrap .i64 (Prod.fst z0 + 1), k0), ⟨jaO h⟩, ⟨ja2 hm0.symm⟩, (by repeat' (first | exact trivial | exact ⟨rfl⟩ | refine And.intro ?_ ?_))⟩
 ·have h := jaq h
  refine jae ?_
  exact jal h (fun e => by subst e; exact (by repeat' (first | exact trivial | exact ⟨rfl⟩ | refine And.intro ?_ ?_)))
theorem jgZ : jah Tryz.prog 28 true (jaG y61 y50) := by
 refine jaR (sp := (sp_53 sp0)) (fn := Tryz.f28) (body := jai Tryz.f28) mixed (sp_53_ok jam) Tryz.func28 (by kernel_rfl) (by kernel_rfl) fun as_ ob rs h ho => ?_
 unfold y50 at h
 split at h
 ·rename_i sB0 sB1 sB2 sA0 sA1
  cases h
  exact ⟨Nat.le_of_ble_eq_true rfl, _, _, jgY sB0 sB1 sB2 sA0 sA1 _ (ja7 ho)⟩
 ·cases h
theorem sp_28_ok {sp : jaa} (h : jac Tryz.prog sp) : jac Tryz.prog (sp_28 sp) := jax jgZ h
def y62 : List (Option Cont) := [some (.recs 5 [])]
def y20 (c : List (List Int)) (x0 : Int) : Option (Int ⊕ ((Int × Int) ⊕ Unit)) :=
 if x0 < (↑(List.length c) : Int) then
  if 0 ≤ x0 ∧ x0 < (↑(List.length c) : Int) then
  if Int.toNat x0 < List.length c then
   Option.bind (y21 (List.getD (List.getD c (Int.toNat x0) []) 0 (0 : Int)) (List.getD (List.getD c (Int.toNat x0) []) 1 (0 : Int)) (List.getD (List.getD c (Int.toNat x0) []) 2 (0 : Int)) (List.getD (List.getD c (Int.toNat x0) []) 3 (0 : Int)) (List.getD (List.getD c (Int.toNat x0) []) 4 (0 : Int))) fun r0 =>
   if (r0 != 0) = true then
   some (.inr ((.inl (x0, r0))))
   else
   some (.inl (wrap .i64 (x0 + 1)))
  else none
  else none
 else
  some (.inr ((.inr ())))
def jfY (u0 : Int × Int) : Option (Int × Int) :=
 some (u0.1, u0.2)
def jfZ (u1 : Unit) : Option (Int × Int) :=
 some (((0 : Int), 0))
def y31 : ((Int × Int) ⊕ Unit) → Option (Int × Int) :=
 (Sum.elim (jfY) (jfZ))
def y17 (c : List (List Int)) : Option (Int × Int) :=
 if (↑(List.length c) : Int) > 6 then
  some (((0 : Int), 8))
 else
  Option.bind (jad (y20 c) big (0 : Int)) (y31)
def y51 : List A → Option (Prop × List RV)
 | [.r (.recs 5 c)] => some (ok (y17 c), [.d (.i .i64 ((val (y17 c)).1)), .d (.i .i64 ((val (y17 c)).2))])
 | _ => none
abbrev sp_12 : jaa → jaa := ja3 12 true (jaG y62 y51)
theorem jg0 (c : List (List Int)) (r : Int × Int) (h : Option.bind (y17 c) some = some r) : jaI Tryz.f12 ((sp_28 sp0)) (fun gs id _ => match id with
 | 0 => some ⟨Int × Nat, fun z => ⟨[(0, .w (.c (.o 0))), (4, .w (.c (.d (.i .i64 (Prod.fst z)))))], [(0, .ext (.recs 5 c))], 1⟩, fun z => Option.bind (jad (y20 c) (Prod.snd z) (Prod.fst z)) (fun y0 => Option.bind (y31 y0) some) = some r, fun z => Prod.snd z⟩
 | _ => none) [.r (.recs 5 c)] [.d (.i .i64 r.1), .d (.i .i64 r.2)] := by
 refine Eq.mp (by kernel_rfl : (
 Br (decide ((↑(List.length c) : Int) > 6))
  ((Ob True ∧
 (Ob True ∧
 (Ob ((0 : Int) = r.1) ∧
 (Ob ((8 : Int) = r.2) ∧
 True)))))
  (((∃ (v0 : Int × Nat), (Ob ((Option.bind (jad (y20 c) v0.2 v0.1) fun y0 => Option.bind (y31 y0) some) = some r) ∧
 (Ob ((0 : Int) = v0.1) ∧
 (Ob (c = c) ∧
 True)))) ∧
  (∀ (v0 : Int × Nat), ((Option.bind (jad (y20 c) v0.2 v0.1) fun y0 => Option.bind (y31 y0) some) = some r →
 Br (decide (v0.1 < (↑(List.length c) : Int)))
  ((Ob (0 ≤ v0.1 ∧ v0.1 < (↑(List.length c) : Int)) ∧
 (Ob (Int.toNat v0.1 < List.length c) ∧
 (Ob (ok (y21 (List.getD (List.getD c (Int.toNat v0.1) []) 0 (0 : Int)) (List.getD (List.getD c (Int.toNat v0.1) []) 1 (0 : Int)) (List.getD (List.getD c (Int.toNat v0.1) []) 2 (0 : Int)) (List.getD (List.getD c (Int.toNat v0.1) []) 3 (0 : Int)) (List.getD (List.getD c (Int.toNat v0.1) []) 4 (0 : Int)))) ∧
 Br (val (y21 (List.getD (List.getD c (Int.toNat v0.1) []) 0 (0 : Int)) (List.getD (List.getD c (Int.toNat v0.1) []) 1 (0 : Int)) (List.getD (List.getD c (Int.toNat v0.1) []) 2 (0 : Int)) (List.getD (List.getD c (Int.toNat v0.1) []) 3 (0 : Int)) (List.getD (List.getD c (Int.toNat v0.1) []) 4 (0 : Int))) != 0)
  ((Ob True ∧
 (Ob True ∧
 (Ob (v0.1 = r.1) ∧
 (Ob (val (y21 (List.getD (List.getD c (Int.toNat v0.1) []) 0 (0 : Int)) (List.getD (List.getD c (Int.toNat v0.1) []) 1 (0 : Int)) (List.getD (List.getD c (Int.toNat v0.1) []) 2 (0 : Int)) (List.getD (List.getD c (Int.toNat v0.1) []) 3 (0 : Int)) (List.getD (List.getD c (Int.toNat v0.1) []) 4 (0 : Int))) = r.2) ∧
 True)))))
  ((∃ (v1 : Int × Nat), (Ob ((Option.bind (jad (y20 c) v1.2 v1.1) fun y0 => Option.bind (y31 y0) some) = some r) ∧
 (Ob (v1.2 < v0.2) ∧
 (Ob (wrap .i64 (v0.1 + 1) = v1.1) ∧
 (Ob (c = c) ∧
 True))))))))))
  ((Ob True ∧
 (Ob True ∧
 (Ob ((0 : Int) = r.1) ∧
 (Ob ((0 : Int) = r.2) ∧
 True)))))))))) = _) ?_
 refine jaD h (fun h => ?_) (fun h => ?_)
 ·refine jae ?_
  refine jae ?_
  exact jal h (fun e => by subst e; exact (by repeat' (first | exact trivial | exact ⟨rfl⟩ | refine And.intro ?_ ?_)))
 ·refine ⟨⟨((0 : Int), big), ⟨jba h⟩, (by repeat' (first | exact trivial | exact ⟨rfl⟩ | refine And.intro ?_ ?_))⟩, fun z1 hz1 => ?_⟩
  obtain ⟨k1, hm1, h⟩ := jaN hz1
  refine jaD h (fun h => ?_) (fun h => ?_)
  ·refine jaj h fun h => ?_
   refine jaj h fun h => ?_
   refine jcp h fun h => ?_
   refine jbd h (fun h => ?_) (fun h => ?_)
   ·have h := jaq h
    refine jae ?_
    refine jae ?_
    exact jal h (fun e => by subst e; exact (by repeat' (first | exact trivial | exact ⟨rfl⟩ | refine And.intro ?_ ?_)))
   ·exact ⟨(wrap .i64 (Prod.fst z1 + 1), k1), ⟨jaO h⟩, ⟨ja2 hm1.symm⟩, (by repeat' (first | exact trivial | exact ⟨rfl⟩ | refine And.intro ?_ ?_))⟩
  ·have h := jaq h
   refine jae ?_
   refine jae ?_
   exact jal h (fun e => by subst e; exact (by repeat' (first | exact trivial | exact ⟨rfl⟩ | refine And.intro ?_ ?_)))
theorem jg1 : jah Tryz.prog 12 true (jaG y62 y51) := by
 refine jaR (sp := (sp_28 sp0)) (fn := Tryz.f12) (body := jai Tryz.f12) mixed (sp_28_ok jam) Tryz.func12 (by kernel_rfl) (by kernel_rfl) fun as_ ob rs h ho => ?_
 unfold y51 at h
 split at h
 ·rename_i c
  cases h
  exact ⟨Nat.le_of_ble_eq_true rfl, _, _, jg0 c _ (ja7 ho)⟩
 ·cases h
theorem sp_12_ok {sp : jaa} (h : jac Tryz.prog sp) : jac Tryz.prog (sp_12 sp) := jax jg1 h
def jnu : List (Option Cont) := [none, none]
def y45 (s : ByteArray) (at_ : Int) (x0 : (Int × Int × List ByteArray)) : Option ((Int × Int × List ByteArray) ⊕ (Int × List ByteArray)) :=
 if x0.2.1 < (↑(ByteArray.size s) : Int) then
  if 0 ≤ x0.2.1 ∧ x0.2.1 < (↑(ByteArray.size s) : Int) then
  if ((↑(UInt8.toNat (Array.getD (ByteArray.data s) (Int.toNat x0.2.1) (0 : UInt8))) : Int) == at_) = true then
   if 0 ≤ Option.getD (some x0.1) (0 : Int) ∧ Option.getD (some x0.1) 0 ≤ Option.getD (some x0.2.1) (↑(ByteArray.size s) : Int) ∧ Option.getD (some x0.2.1) (↑(ByteArray.size s) : Int) ≤ (↑(ByteArray.size s) : Int) then
   if (List.length x0.2.2 + List.length [ByteArray.extract s (Int.toNat (Option.getD (some x0.1) (0 : Int))) (Int.toNat (Option.getD (some x0.2.1) (↑(ByteArray.size s) : Int)))]) * 16 ≤ 140737488355328 ∧ List.length x0.2.2 + List.length [ByteArray.extract s (Int.toNat (Option.getD (some x0.1) (0 : Int))) (Int.toNat (Option.getD (some x0.2.1) (↑(ByteArray.size s) : Int)))] ≤ 9223372036854775807 then
    some (.inl ((wrap .i64 (x0.2.1 + 1), wrap .i64 (x0.2.1 + 1), x0.2.2 ++ [ByteArray.extract s (Int.toNat (Option.getD (some x0.1) (0 : Int))) (Int.toNat (Option.getD (some x0.2.1) (↑(ByteArray.size s) : Int)))])))
   else none
   else none
  else
   some (.inl ((x0.1, wrap .i64 (x0.2.1 + 1), x0.2.2)))
  else none
 else
  some (.inr (x0.1, x0.2.2))
def jdj (s : ByteArray) (u0 : Int × List ByteArray) : Option (List ByteArray) :=
 if 0 ≤ Option.getD (some u0.1) (0 : Int) ∧ Option.getD (some u0.1) 0 ≤ Option.getD none (↑(ByteArray.size s) : Int) ∧ Option.getD none (↑(ByteArray.size s) : Int) ≤ (↑(ByteArray.size s) : Int) then
  if (List.length u0.2 + List.length [ByteArray.extract s (Int.toNat (Option.getD (some u0.1) (0 : Int))) (Int.toNat (Option.getD none (↑(ByteArray.size s) : Int)))]) * 16 ≤ 140737488355328 ∧ List.length u0.2 + List.length [ByteArray.extract s (Int.toNat (Option.getD (some u0.1) (0 : Int))) (Int.toNat (Option.getD none (↑(ByteArray.size s) : Int)))] ≤ 9223372036854775807 then
  some (u0.2 ++ [ByteArray.extract s (Int.toNat (Option.getD (some u0.1) (0 : Int))) (Int.toNat (Option.getD none (↑(ByteArray.size s) : Int)))])
  else none
 else none
def jak (s : ByteArray) (at_ : Int) : Option (List ByteArray) :=
 Option.bind (jad (y45 s at_) big (((0 : Int), 0, []))) (jdj s)
def jkB : List A → Option (Prop × List RV)
 | [.d (.s s), .d (.i .u8 at_)] => some (ok (jak s at_), [.row 9 (.strs ((val (jak s at_))))])
 | _ => none
abbrev sp_25 : jaa → jaa := ja3 25 true (jaG jnu jkB)
theorem jqu (s : ByteArray) (at_ : Int) (r : List ByteArray) (h : Option.bind (jak s at_) some = some r) : jaI Tryz.f25 (sp0) (fun gs id _ => match id with
 | 0 => some ⟨(Int × Int × List ByteArray) × Nat, fun z => ⟨[(0, .w (.c (.d (.s s)))), (1, .w (.c (.d (.i .u8 at_)))), (5, .w (.c (.o 2))), (6, .w (.c (.d (.i .i64 (Prod.fst (Prod.fst z)))))), (7, .w (.c (.d (.i .i64 (Prod.fst (Prod.snd (Prod.fst z)))))))], [(2, .row 9 (.strs (Prod.snd (Prod.snd (Prod.fst z)))))], 3⟩, fun z => Option.bind (jad (y45 s at_) (Prod.snd z) (Prod.fst z)) (fun y0 => Option.bind (jdj s y0) some) = some r, fun z => Prod.snd z⟩
 | _ => none) [.d (.s s), .d (.i .u8 at_)] [.row 9 (.strs r)] := by
 refine Eq.mp (by kernel_rfl : (
 ((∃ (v0 : (Int × Int × List ByteArray) × Nat), (Ob ((Option.bind (jad (y45 s at_) v0.2 v0.1) fun y0 => Option.bind (jdj s y0) some) = some r) ∧
 (Ob (s = s) ∧
 (Ob (at_ = at_) ∧
 (Ob ((0 : Int) = v0.1.1) ∧
 (Ob ((0 : Int) = v0.1.2.1) ∧
 (Ob (List.length v0.1.2.2 = (0 : Nat)) ∧
 True))))))) ∧
  (∀ (v0 : (Int × Int × List ByteArray) × Nat), ((Option.bind (jad (y45 s at_) v0.2 v0.1) fun y0 => Option.bind (jdj s y0) some) = some r →
 Br (decide (v0.1.2.1 < (↑(ByteArray.size s) : Int)))
  ((Ob (0 ≤ v0.1.2.1 ∧ v0.1.2.1 < (↑(ByteArray.size s) : Int)) ∧
 Br ((↑(UInt8.toNat (Array.getD (ByteArray.data s) (Int.toNat v0.1.2.1) (0 : UInt8))) : Int) == at_)
  ((Ob (0 ≤ Option.getD (some v0.1.1) (0 : Int) ∧ Option.getD (some v0.1.1) 0 ≤ Option.getD (some v0.1.2.1) (↑(ByteArray.size s) : Int) ∧ Option.getD (some v0.1.2.1) (↑(ByteArray.size s) : Int) ≤ (↑(ByteArray.size s) : Int)) ∧
 (Ob ((List.length v0.1.2.2 + List.length [ByteArray.extract s (Int.toNat (Option.getD (some v0.1.1) (0 : Int))) (Int.toNat (Option.getD (some v0.1.2.1) (↑(ByteArray.size s) : Int)))]) * 16 ≤ 140737488355328 ∧ List.length v0.1.2.2 + List.length [ByteArray.extract s (Int.toNat (Option.getD (some v0.1.1) (0 : Int))) (Int.toNat (Option.getD (some v0.1.2.1) (↑(ByteArray.size s) : Int)))] ≤ 9223372036854775807) ∧
  (∃ (v1 : (Int × Int × List ByteArray) × Nat), (Ob ((Option.bind (jad (y45 s at_) v1.2 v1.1) fun y0 => Option.bind (jdj s y0) some) = some r) ∧
 (Ob (v1.2 < v0.2) ∧
 (Ob (s = s) ∧
 (Ob (at_ = at_) ∧
 (Ob (wrap .i64 (v0.1.2.1 + 1) = v1.1.1) ∧
 (Ob (wrap .i64 (v0.1.2.1 + 1) = v1.1.2.1) ∧
 (Ob (v0.1.2.2 ++ [ByteArray.extract s (Int.toNat (Option.getD (some v0.1.1) (0 : Int))) (Int.toNat (Option.getD (some v0.1.2.1) (↑(ByteArray.size s) : Int)))] = v1.1.2.2) ∧
 True)))))))))))
  ((∃ (v1 : (Int × Int × List ByteArray) × Nat), (Ob ((Option.bind (jad (y45 s at_) v1.2 v1.1) fun y0 => Option.bind (jdj s y0) some) = some r) ∧
 (Ob (v1.2 < v0.2) ∧
 (Ob (s = s) ∧
 (Ob (at_ = at_) ∧
 (Ob (v0.1.1 = v1.1.1) ∧
 (Ob (wrap .i64 (v0.1.2.1 + 1) = v1.1.2.1) ∧
 (Ob (v0.1.2.2 = v1.1.2.2) ∧
 True)))))))))))
  ((Ob (0 ≤ Option.getD (some v0.1.1) (0 : Int) ∧ Option.getD (some v0.1.1) 0 ≤ Option.getD none (↑(ByteArray.size s) : Int) ∧ Option.getD none (↑(ByteArray.size s) : Int) ≤ (↑(ByteArray.size s) : Int)) ∧
 (Ob ((List.length v0.1.2.2 + List.length [ByteArray.extract s (Int.toNat (Option.getD (some v0.1.1) (0 : Int))) (Int.toNat (Option.getD none (↑(ByteArray.size s) : Int)))]) * 16 ≤ 140737488355328 ∧ List.length v0.1.2.2 + List.length [ByteArray.extract s (Int.toNat (Option.getD (some v0.1.1) (0 : Int))) (Int.toNat (Option.getD none (↑(ByteArray.size s) : Int)))] ≤ 9223372036854775807) ∧
 (Ob True ∧
 (Ob (v0.1.2.2 ++ [ByteArray.extract s (Int.toNat (Option.getD (some v0.1.1) (0 : Int))) (Int.toNat (Option.getD none (↑(ByteArray.size s) : Int)))] = r) ∧
 True))))))))) = _) ?_
 refine ⟨⟨(((0 : Int), 0, []), big), ⟨jba h⟩, (by repeat' (first | exact trivial | exact ⟨rfl⟩ | refine And.intro ?_ ?_))⟩, fun z0 hz0 => ?_⟩
 obtain ⟨k0, hm0, h⟩ := jaN hz0
 refine jaD h (fun h => ?_) (fun h => ?_)
 ·refine jaj h fun h => ?_
  refine jbd h (fun h => ?_) (fun h => ?_)
  ·refine jaj h fun h => ?_
   refine jaj h fun h => ?_
   exact ⟨((wrap .i64 ((Prod.fst z0).2.1 + 1), wrap .i64 ((Prod.fst z0).2.1 + 1), (Prod.fst z0).2.2 ++ [ByteArray.extract s (Int.toNat (Option.getD (some (Prod.fst z0).1) (0 : Int))) (Int.toNat (Option.getD (some (Prod.fst z0).2.1) (↑(ByteArray.size s) : Int)))]), k0), ⟨jaO h⟩, ⟨ja2 hm0.symm⟩, (by repeat' (first | exact trivial | exact ⟨rfl⟩ | refine And.intro ?_ ?_))⟩
  ·exact ⟨(((Prod.fst z0).1, wrap .i64 ((Prod.fst z0).2.1 + 1), (Prod.fst z0).2.2), k0), ⟨jaO h⟩, ⟨ja2 hm0.symm⟩, (by repeat' (first | exact trivial | exact ⟨rfl⟩ | refine And.intro ?_ ?_))⟩
 ·have h := jaq h
  refine jaj h fun h => ?_
  refine jaj h fun h => ?_
  refine jae ?_
  exact jal h (fun e => by subst e; exact (by repeat' (first | exact trivial | exact ⟨rfl⟩ | refine And.intro ?_ ?_)))
theorem jqv : jah Tryz.prog 25 true (jaG jnu jkB) := by
 refine jaR (sp := sp0) (fn := Tryz.f25) (body := jai Tryz.f25) mixed jam Tryz.func25 (by kernel_rfl) (by kernel_rfl) fun as_ ob rs h ho => ?_
 unfold jkB at h
 split at h
 ·rename_i s at_
  cases h
  exact ⟨Nat.le_of_ble_eq_true rfl, _, _, jqu s at_ _ (ja7 ho)⟩
 ·cases h
theorem sp_25_ok {sp : jaa} (h : jac Tryz.prog sp) : jac Tryz.prog (sp_25 sp) := jax jqv h
def jj6 : List (Option Cont) := [none, none]
def y5 (s : ByteArray) (x0 : (Int × Int × Int)) : Option ((Int × Int × Int) ⊕ (Unit ⊕ (Int × Int))) :=
 if x0.2.2 < (↑(ByteArray.size s) : Int) then
  if 0 ≤ x0.2.2 ∧ x0.2.2 < (↑(ByteArray.size s) : Int) then
  if (↑(UInt8.toNat (Array.getD (ByteArray.data s) (Int.toNat x0.2.2) (0 : UInt8))) : Int) < 48 then
   some (.inr ((.inl ())))
  else
   if 0 ≤ x0.2.2 ∧ x0.2.2 < (↑(ByteArray.size s) : Int) then
   if (↑(UInt8.toNat (Array.getD (ByteArray.data s) (Int.toNat x0.2.2) (0 : UInt8))) : Int) > 57 then
    some (.inr ((.inl ())))
   else
    if 0 ≤ x0.2.2 ∧ x0.2.2 < (↑(ByteArray.size s) : Int) then
    some (.inl ((x0.1, wrap .i64 (wrap .i64 (10 * x0.2.1) + wrap .i64 (wrap .u8 ((↑(UInt8.toNat (Array.getD (ByteArray.data s) (Int.toNat x0.2.2) (0 : UInt8))) : Int) - 48))), wrap .i64 (x0.2.2 + 1))))
    else none
   else none
  else none
 else
  some (.inr ((.inr (x0.1, x0.2.1))))
def jlo (u0 : Unit) : Option (Int × Bool) :=
 some (((0 : Int), false))
def jev (u1 : Int × Int) : Option (Int × Bool) :=
 if (u1.1 == 1) = true then
  some ((wrap .i64 (0 - u1.2), true))
 else
  some (u1.2, true)
def y7 : (Unit ⊕ (Int × Int)) → Option (Int × Bool) :=
 (Sum.elim (jlo) (jev))
def y14 (s : ByteArray) (u4 : Int) : Option (Int × Bool) :=
 if (↑(ByteArray.size s) : Int) > 0 then
  if (0 : Int) ≤ 0 ∧ 0 < (↑(ByteArray.size s) : Int) then
  if ((↑(UInt8.toNat (Array.getD (ByteArray.data s) (0 : Nat) (0 : UInt8))) : Int) == 45) = true then
   if ((↑(ByteArray.size s) : Int) == 1) = true then
   some (((0 : Int), false))
   else
   if wrap .i64 ((↑(ByteArray.size s) : Int) - 1) > u4 then
    some (((0 : Int), false))
   else
    if (0 : Int) ≤ 1 ∧ 1 < (↑(ByteArray.size s) : Int) then
    if ((↑(UInt8.toNat (Array.getD (ByteArray.data s) (1 : Nat) (0 : UInt8))) : Int) == 48) = true then
     if (↑(ByteArray.size s) : Int) > 1 then
     some (((0 : Int), false))
     else
     Option.bind (jad (y5 s) big (((1 : Int), 0, 1))) (y7)
    else
     Option.bind (jad (y5 s) big (((1 : Int), 0, 1))) (y7)
    else none
  else
   if ((↑(ByteArray.size s) : Int) == 0) = true then
   some (((0 : Int), false))
   else
   if wrap .i64 ((↑(ByteArray.size s) : Int) - 0) > u4 then
    some (((0 : Int), false))
   else
    if (0 : Int) ≤ 0 ∧ 0 < (↑(ByteArray.size s) : Int) then
    if ((↑(UInt8.toNat (Array.getD (ByteArray.data s) (0 : Nat) (0 : UInt8))) : Int) == 48) = true then
     if (↑(ByteArray.size s) : Int) > 1 then
     some (((0 : Int), false))
     else
     Option.bind (jad (y5 s) big (((0 : Int), 0, 0))) (y7)
    else
     Option.bind (jad (y5 s) big (((0 : Int), 0, 0))) (y7)
    else none
  else none
 else
  if ((↑(ByteArray.size s) : Int) == 0) = true then
  some (((0 : Int), false))
  else
  if wrap .i64 ((↑(ByteArray.size s) : Int) - 0) > u4 then
   some (((0 : Int), false))
  else
   if (0 : Int) ≤ 0 ∧ 0 < (↑(ByteArray.size s) : Int) then
   if ((↑(UInt8.toNat (Array.getD (ByteArray.data s) (0 : Nat) (0 : UInt8))) : Int) == 48) = true then
    if (↑(ByteArray.size s) : Int) > 1 then
    some (((0 : Int), false))
    else
    Option.bind (jad (y5 s) big (((0 : Int), 0, 0))) (y7)
   else
    Option.bind (jad (y5 s) big (((0 : Int), 0, 0))) (y7)
   else none
def jgG : List A → Option (Prop × List RV)
 | [.d (.s s), .d (.i .i64 u4)] => some (ok (y14 s u4), [.d (.i .i64 ((val (y14 s u4)).1)), .d (.b ((val (y14 s u4)).2))])
 | _ => none
abbrev sp_26 : jaa → jaa := ja3 26 true (jaG jj6 jgG)
theorem jm7 (s : ByteArray) (u4 : Int) (r : Int × Bool) (h : Option.bind (y14 s u4) some = some r) : jaI Tryz.f26 (sp0) (fun gs id _ => match id with
 | 0 => some ⟨(Int × Int × Int) × Nat, fun z => ⟨[(0, .w (.c (.d (.s s)))), (6, .w (.c (.d (.i .i64 (Prod.fst (Prod.fst z)))))), (7, .w (.c (.d (.i .i64 (Prod.fst (Prod.snd (Prod.fst z))))))), (8, .w (.c (.d (.i .i64 (Prod.snd (Prod.snd (Prod.fst z)))))))], [], 2⟩, fun z => Option.bind (jad (y5 s) (Prod.snd z) (Prod.fst z)) (fun y0 => Option.bind (y7 y0) some) = some r, fun z => Prod.snd z⟩
 | _ => none) [.d (.s s), .d (.i .i64 u4)] [.d (.i .i64 r.1), .d (.b r.2)] := by
 refine Eq.mp (by kernel_rfl : (
 Br (decide ((↑(ByteArray.size s) : Int) > 0))
  ((Ob ((0 : Int) ≤ 0 ∧ 0 < (↑(ByteArray.size s) : Int)) ∧
 Br ((↑(UInt8.toNat (Array.getD (ByteArray.data s) (0 : Nat) (0 : UInt8))) : Int) == 45)
 (Br ((↑(ByteArray.size s) : Int) == 1)
  ((Ob True ∧
 (Ob True ∧
 (Ob ((0 : Int) = r.1) ∧
 (Ob (false = r.2) ∧
 True)))))
 (Br (decide (wrap .i64 ((↑(ByteArray.size s) : Int) - 1) > u4))
  ((Ob True ∧
 (Ob True ∧
 (Ob ((0 : Int) = r.1) ∧
 (Ob (false = r.2) ∧
 True)))))
  ((Ob ((0 : Int) ≤ 1 ∧ 1 < (↑(ByteArray.size s) : Int)) ∧
 Br ((↑(UInt8.toNat (Array.getD (ByteArray.data s) (1 : Nat) (0 : UInt8))) : Int) == 48)
 (Br (decide ((↑(ByteArray.size s) : Int) > 1))
  ((Ob True ∧
 (Ob True ∧
 (Ob ((0 : Int) = r.1) ∧
 (Ob (false = r.2) ∧
 True)))))
  (((∃ (v0 : (Int × Int × Int) × Nat), (Ob ((Option.bind (jad (y5 s) v0.2 v0.1) fun y0 => Option.bind (y7 y0) some) = some r) ∧
 (Ob (s = s) ∧
 (Ob ((1 : Int) = v0.1.1) ∧
 (Ob ((0 : Int) = v0.1.2.1) ∧
 (Ob ((1 : Int) = v0.1.2.2) ∧
 True)))))) ∧
  (∀ (v0 : (Int × Int × Int) × Nat), ((Option.bind (jad (y5 s) v0.2 v0.1) fun y0 => Option.bind (y7 y0) some) = some r →
 Br (decide (v0.1.2.2 < (↑(ByteArray.size s) : Int)))
  ((Ob (0 ≤ v0.1.2.2 ∧ v0.1.2.2 < (↑(ByteArray.size s) : Int)) ∧
 Br (decide ((↑(UInt8.toNat (Array.getD (ByteArray.data s) (Int.toNat v0.1.2.2) (0 : UInt8))) : Int) < 48))
  ((Ob True ∧
 (Ob True ∧
 (Ob ((0 : Int) = r.1) ∧
 (Ob (false = r.2) ∧
 True)))))
  ((Ob (0 ≤ v0.1.2.2 ∧ v0.1.2.2 < (↑(ByteArray.size s) : Int)) ∧
 Br (decide ((↑(UInt8.toNat (Array.getD (ByteArray.data s) (Int.toNat v0.1.2.2) (0 : UInt8))) : Int) > 57))
  ((Ob True ∧
 (Ob True ∧
 (Ob ((0 : Int) = r.1) ∧
 (Ob (false = r.2) ∧
 True)))))
  ((Ob (0 ≤ v0.1.2.2 ∧ v0.1.2.2 < (↑(ByteArray.size s) : Int)) ∧
 (Ob True ∧
  (∃ (v1 : (Int × Int × Int) × Nat), (Ob ((Option.bind (jad (y5 s) v1.2 v1.1) fun y0 => Option.bind (y7 y0) some) = some r) ∧
 (Ob (v1.2 < v0.2) ∧
 (Ob (s = s) ∧
 (Ob (v0.1.1 = v1.1.1) ∧
 (Ob (wrap .i64 (wrap .i64 (10 * v0.1.2.1) + wrap .i64 (wrap .u8 ((↑(UInt8.toNat (Array.getD (ByteArray.data s) (Int.toNat v0.1.2.2) (0 : UInt8))) : Int) - 48))) = v1.1.2.1) ∧
 (Ob (wrap .i64 (v0.1.2.2 + 1) = v1.1.2.2) ∧
 True))))))))))))))
 (Br (v0.1.1 == 1)
  ((Ob True ∧
 (Ob True ∧
 (Ob (wrap .i64 (0 - v0.1.2.1) = r.1) ∧
 (Ob (true = r.2) ∧
 True)))))
  ((Ob True ∧
 (Ob True ∧
 (Ob (v0.1.2.1 = r.1) ∧
 (Ob (true = r.2) ∧
 True)))))))))))
  (((∃ (v0 : (Int × Int × Int) × Nat), (Ob ((Option.bind (jad (y5 s) v0.2 v0.1) fun y0 => Option.bind (y7 y0) some) = some r) ∧
 (Ob (s = s) ∧
 (Ob ((1 : Int) = v0.1.1) ∧
 (Ob ((0 : Int) = v0.1.2.1) ∧
 (Ob ((1 : Int) = v0.1.2.2) ∧
 True)))))) ∧
  (∀ (v0 : (Int × Int × Int) × Nat), ((Option.bind (jad (y5 s) v0.2 v0.1) fun y0 => Option.bind (y7 y0) some) = some r →
 Br (decide (v0.1.2.2 < (↑(ByteArray.size s) : Int)))
  ((Ob (0 ≤ v0.1.2.2 ∧ v0.1.2.2 < (↑(ByteArray.size s) : Int)) ∧
 Br (decide ((↑(UInt8.toNat (Array.getD (ByteArray.data s) (Int.toNat v0.1.2.2) (0 : UInt8))) : Int) < 48))
  ((Ob True ∧
 (Ob True ∧
 (Ob ((0 : Int) = r.1) ∧
 (Ob (false = r.2) ∧
 True)))))
  ((Ob (0 ≤ v0.1.2.2 ∧ v0.1.2.2 < (↑(ByteArray.size s) : Int)) ∧
 Br (decide ((↑(UInt8.toNat (Array.getD (ByteArray.data s) (Int.toNat v0.1.2.2) (0 : UInt8))) : Int) > 57))
  ((Ob True ∧
 (Ob True ∧
 (Ob ((0 : Int) = r.1) ∧
 (Ob (false = r.2) ∧
 True)))))
  ((Ob (0 ≤ v0.1.2.2 ∧ v0.1.2.2 < (↑(ByteArray.size s) : Int)) ∧
 (Ob True ∧
  (∃ (v1 : (Int × Int × Int) × Nat), (Ob ((Option.bind (jad (y5 s) v1.2 v1.1) fun y0 => Option.bind (y7 y0) some) = some r) ∧
 (Ob (v1.2 < v0.2) ∧
 (Ob (s = s) ∧
 (Ob (v0.1.1 = v1.1.1) ∧
 (Ob (wrap .i64 (wrap .i64 (10 * v0.1.2.1) + wrap .i64 (wrap .u8 ((↑(UInt8.toNat (Array.getD (ByteArray.data s) (Int.toNat v0.1.2.2) (0 : UInt8))) : Int) - 48))) = v1.1.2.1) ∧
 (Ob (wrap .i64 (v0.1.2.2 + 1) = v1.1.2.2) ∧
 True))))))))))))))
 (Br (v0.1.1 == 1)
  ((Ob True ∧
 (Ob True ∧
 (Ob (wrap .i64 (0 - v0.1.2.1) = r.1) ∧
 (Ob (true = r.2) ∧
 True)))))
  ((Ob True ∧
 (Ob True ∧
 (Ob (v0.1.2.1 = r.1) ∧
 (Ob (true = r.2) ∧
 True))))))))))))))
 (Br ((↑(ByteArray.size s) : Int) == 0)
  ((Ob True ∧
 (Ob True ∧
 (Ob ((0 : Int) = r.1) ∧
 (Ob (false = r.2) ∧
 True)))))
 (Br (decide (wrap .i64 ((↑(ByteArray.size s) : Int) - 0) > u4))
  ((Ob True ∧
 (Ob True ∧
 (Ob ((0 : Int) = r.1) ∧
 (Ob (false = r.2) ∧
 True)))))
  ((Ob ((0 : Int) ≤ 0 ∧ 0 < (↑(ByteArray.size s) : Int)) ∧
 Br ((↑(UInt8.toNat (Array.getD (ByteArray.data s) (0 : Nat) (0 : UInt8))) : Int) == 48)
 (Br (decide ((↑(ByteArray.size s) : Int) > 1))
  ((Ob True ∧
 (Ob True ∧
 (Ob ((0 : Int) = r.1) ∧
 (Ob (false = r.2) ∧
 True)))))
  (((∃ (v0 : (Int × Int × Int) × Nat), (Ob ((Option.bind (jad (y5 s) v0.2 v0.1) fun y0 => Option.bind (y7 y0) some) = some r) ∧
 (Ob (s = s) ∧
 (Ob ((0 : Int) = v0.1.1) ∧
 (Ob ((0 : Int) = v0.1.2.1) ∧
 (Ob ((0 : Int) = v0.1.2.2) ∧
 True)))))) ∧
  (∀ (v0 : (Int × Int × Int) × Nat), ((Option.bind (jad (y5 s) v0.2 v0.1) fun y0 => Option.bind (y7 y0) some) = some r →
 Br (decide (v0.1.2.2 < (↑(ByteArray.size s) : Int)))
  ((Ob (0 ≤ v0.1.2.2 ∧ v0.1.2.2 < (↑(ByteArray.size s) : Int)) ∧
 Br (decide ((↑(UInt8.toNat (Array.getD (ByteArray.data s) (Int.toNat v0.1.2.2) (0 : UInt8))) : Int) < 48))
  ((Ob True ∧
 (Ob True ∧
 (Ob ((0 : Int) = r.1) ∧
 (Ob (false = r.2) ∧
 True)))))
  ((Ob (0 ≤ v0.1.2.2 ∧ v0.1.2.2 < (↑(ByteArray.size s) : Int)) ∧
 Br (decide ((↑(UInt8.toNat (Array.getD (ByteArray.data s) (Int.toNat v0.1.2.2) (0 : UInt8))) : Int) > 57))
  ((Ob True ∧
 (Ob True ∧
 (Ob ((0 : Int) = r.1) ∧
 (Ob (false = r.2) ∧
 True)))))
  ((Ob (0 ≤ v0.1.2.2 ∧ v0.1.2.2 < (↑(ByteArray.size s) : Int)) ∧
 (Ob True ∧
  (∃ (v1 : (Int × Int × Int) × Nat), (Ob ((Option.bind (jad (y5 s) v1.2 v1.1) fun y0 => Option.bind (y7 y0) some) = some r) ∧
 (Ob (v1.2 < v0.2) ∧
 (Ob (s = s) ∧
 (Ob (v0.1.1 = v1.1.1) ∧
 (Ob (wrap .i64 (wrap .i64 (10 * v0.1.2.1) + wrap .i64 (wrap .u8 ((↑(UInt8.toNat (Array.getD (ByteArray.data s) (Int.toNat v0.1.2.2) (0 : UInt8))) : Int) - 48))) = v1.1.2.1) ∧
 (Ob (wrap .i64 (v0.1.2.2 + 1) = v1.1.2.2) ∧
 True))))))))))))))
 (Br (v0.1.1 == 1)
  ((Ob True ∧
 (Ob True ∧
 (Ob (wrap .i64 (0 - v0.1.2.1) = r.1) ∧
 (Ob (true = r.2) ∧
 True)))))
  ((Ob True ∧
 (Ob True ∧
 (Ob (v0.1.2.1 = r.1) ∧
 (Ob (true = r.2) ∧
 True)))))))))))
  (((∃ (v0 : (Int × Int × Int) × Nat), (Ob ((Option.bind (jad (y5 s) v0.2 v0.1) fun y0 => Option.bind (y7 y0) some) = some r) ∧
 (Ob (s = s) ∧
 (Ob ((0 : Int) = v0.1.1) ∧
 (Ob ((0 : Int) = v0.1.2.1) ∧
 (Ob ((0 : Int) = v0.1.2.2) ∧
 True)))))) ∧
  (∀ (v0 : (Int × Int × Int) × Nat), ((Option.bind (jad (y5 s) v0.2 v0.1) fun y0 => Option.bind (y7 y0) some) = some r →
 Br (decide (v0.1.2.2 < (↑(ByteArray.size s) : Int)))
  ((Ob (0 ≤ v0.1.2.2 ∧ v0.1.2.2 < (↑(ByteArray.size s) : Int)) ∧
 Br (decide ((↑(UInt8.toNat (Array.getD (ByteArray.data s) (Int.toNat v0.1.2.2) (0 : UInt8))) : Int) < 48))
  ((Ob True ∧
 (Ob True ∧
 (Ob ((0 : Int) = r.1) ∧
 (Ob (false = r.2) ∧
 True)))))
  ((Ob (0 ≤ v0.1.2.2 ∧ v0.1.2.2 < (↑(ByteArray.size s) : Int)) ∧
 Br (decide ((↑(UInt8.toNat (Array.getD (ByteArray.data s) (Int.toNat v0.1.2.2) (0 : UInt8))) : Int) > 57))
  ((Ob True ∧
 (Ob True ∧
 (Ob ((0 : Int) = r.1) ∧
 (Ob (false = r.2) ∧
 True)))))
  ((Ob (0 ≤ v0.1.2.2 ∧ v0.1.2.2 < (↑(ByteArray.size s) : Int)) ∧
 (Ob True ∧
  (∃ (v1 : (Int × Int × Int) × Nat), (Ob ((Option.bind (jad (y5 s) v1.2 v1.1) fun y0 => Option.bind (y7 y0) some) = some r) ∧
 (Ob (v1.2 < v0.2) ∧
 (Ob (s = s) ∧
 (Ob (v0.1.1 = v1.1.1) ∧
 (Ob (wrap .i64 (wrap .i64 (10 * v0.1.2.1) + wrap .i64 (wrap .u8 ((↑(UInt8.toNat (Array.getD (ByteArray.data s) (Int.toNat v0.1.2.2) (0 : UInt8))) : Int) - 48))) = v1.1.2.1) ∧
 (Ob (wrap .i64 (v0.1.2.2 + 1) = v1.1.2.2) ∧
 True))))))))))))))
 (Br (v0.1.1 == 1)
  ((Ob True ∧
 (Ob True ∧
 (Ob (wrap .i64 (0 - v0.1.2.1) = r.1) ∧
 (Ob (true = r.2) ∧
 True)))))
  ((Ob True ∧
 (Ob True ∧
 (Ob (v0.1.2.1 = r.1) ∧
 (Ob (true = r.2) ∧
 True))))))))))))))))
 (Br ((↑(ByteArray.size s) : Int) == 0)
  ((Ob True ∧
 (Ob True ∧
 (Ob ((0 : Int) = r.1) ∧
 (Ob (false = r.2) ∧
 True)))))
 (Br (decide (wrap .i64 ((↑(ByteArray.size s) : Int) - 0) > u4))
  ((Ob True ∧
 (Ob True ∧
 (Ob ((0 : Int) = r.1) ∧
 (Ob (false = r.2) ∧
 True)))))
  ((Ob ((0 : Int) ≤ 0 ∧ 0 < (↑(ByteArray.size s) : Int)) ∧
 Br ((↑(UInt8.toNat (Array.getD (ByteArray.data s) (0 : Nat) (0 : UInt8))) : Int) == 48)
 (Br (decide ((↑(ByteArray.size s) : Int) > 1))
  ((Ob True ∧
 (Ob True ∧
 (Ob ((0 : Int) = r.1) ∧
 (Ob (false = r.2) ∧
 True)))))
  (((∃ (v0 : (Int × Int × Int) × Nat), (Ob ((Option.bind (jad (y5 s) v0.2 v0.1) fun y0 => Option.bind (y7 y0) some) = some r) ∧
 (Ob (s = s) ∧
 (Ob ((0 : Int) = v0.1.1) ∧
 (Ob ((0 : Int) = v0.1.2.1) ∧
 (Ob ((0 : Int) = v0.1.2.2) ∧
 True)))))) ∧
  (∀ (v0 : (Int × Int × Int) × Nat), ((Option.bind (jad (y5 s) v0.2 v0.1) fun y0 => Option.bind (y7 y0) some) = some r →
 Br (decide (v0.1.2.2 < (↑(ByteArray.size s) : Int)))
  ((Ob (0 ≤ v0.1.2.2 ∧ v0.1.2.2 < (↑(ByteArray.size s) : Int)) ∧
 Br (decide ((↑(UInt8.toNat (Array.getD (ByteArray.data s) (Int.toNat v0.1.2.2) (0 : UInt8))) : Int) < 48))
  ((Ob True ∧
 (Ob True ∧
 (Ob ((0 : Int) = r.1) ∧
 (Ob (false = r.2) ∧
 True)))))
  ((Ob (0 ≤ v0.1.2.2 ∧ v0.1.2.2 < (↑(ByteArray.size s) : Int)) ∧
 Br (decide ((↑(UInt8.toNat (Array.getD (ByteArray.data s) (Int.toNat v0.1.2.2) (0 : UInt8))) : Int) > 57))
  ((Ob True ∧
 (Ob True ∧
 (Ob ((0 : Int) = r.1) ∧
 (Ob (false = r.2) ∧
 True)))))
  ((Ob (0 ≤ v0.1.2.2 ∧ v0.1.2.2 < (↑(ByteArray.size s) : Int)) ∧
 (Ob True ∧
  (∃ (v1 : (Int × Int × Int) × Nat), (Ob ((Option.bind (jad (y5 s) v1.2 v1.1) fun y0 => Option.bind (y7 y0) some) = some r) ∧
 (Ob (v1.2 < v0.2) ∧
 (Ob (s = s) ∧
 (Ob (v0.1.1 = v1.1.1) ∧
 (Ob (wrap .i64 (wrap .i64 (10 * v0.1.2.1) + wrap .i64 (wrap .u8 ((↑(UInt8.toNat (Array.getD (ByteArray.data s) (Int.toNat v0.1.2.2) (0 : UInt8))) : Int) - 48))) = v1.1.2.1) ∧
 (Ob (wrap .i64 (v0.1.2.2 + 1) = v1.1.2.2) ∧
 True))))))))))))))
 (Br (v0.1.1 == 1)
  ((Ob True ∧
 (Ob True ∧
 (Ob (wrap .i64 (0 - v0.1.2.1) = r.1) ∧
 (Ob (true = r.2) ∧
 True)))))
  ((Ob True ∧
 (Ob True ∧
 (Ob (v0.1.2.1 = r.1) ∧
 (Ob (true = r.2) ∧
 True)))))))))))
  (((∃ (v0 : (Int × Int × Int) × Nat), (Ob ((Option.bind (jad (y5 s) v0.2 v0.1) fun y0 => Option.bind (y7 y0) some) = some r) ∧
 (Ob (s = s) ∧
 (Ob ((0 : Int) = v0.1.1) ∧
 (Ob ((0 : Int) = v0.1.2.1) ∧
 (Ob ((0 : Int) = v0.1.2.2) ∧
 True)))))) ∧
  (∀ (v0 : (Int × Int × Int) × Nat), ((Option.bind (jad (y5 s) v0.2 v0.1) fun y0 => Option.bind (y7 y0) some) = some r →
 Br (decide (v0.1.2.2 < (↑(ByteArray.size s) : Int)))
  ((Ob (0 ≤ v0.1.2.2 ∧ v0.1.2.2 < (↑(ByteArray.size s) : Int)) ∧
 Br (decide ((↑(UInt8.toNat (Array.getD (ByteArray.data s) (Int.toNat v0.1.2.2) (0 : UInt8))) : Int) < 48))
  ((Ob True ∧
 (Ob True ∧
 (Ob ((0 : Int) = r.1) ∧
 (Ob (false = r.2) ∧
 True)))))
  ((Ob (0 ≤ v0.1.2.2 ∧ v0.1.2.2 < (↑(ByteArray.size s) : Int)) ∧
 Br (decide ((↑(UInt8.toNat (Array.getD (ByteArray.data s) (Int.toNat v0.1.2.2) (0 : UInt8))) : Int) > 57))
  ((Ob True ∧
 (Ob True ∧
 (Ob ((0 : Int) = r.1) ∧
 (Ob (false = r.2) ∧
 True)))))
  ((Ob (0 ≤ v0.1.2.2 ∧ v0.1.2.2 < (↑(ByteArray.size s) : Int)) ∧
 (Ob True ∧
  (∃ (v1 : (Int × Int × Int) × Nat), (Ob ((Option.bind (jad (y5 s) v1.2 v1.1) fun y0 => Option.bind (y7 y0) some) = some r) ∧
 (Ob (v1.2 < v0.2) ∧
 (Ob (s = s) ∧
 (Ob (v0.1.1 = v1.1.1) ∧
 (Ob (wrap .i64 (wrap .i64 (10 * v0.1.2.1) + wrap .i64 (wrap .u8 ((↑(UInt8.toNat (Array.getD (ByteArray.data s) (Int.toNat v0.1.2.2) (0 : UInt8))) : Int) - 48))) = v1.1.2.1) ∧
 (Ob (wrap .i64 (v0.1.2.2 + 1) = v1.1.2.2) ∧
 True))))))))))))))
 (Br (v0.1.1 == 1)
  ((Ob True ∧
 (Ob True ∧
 (Ob (wrap .i64 (0 - v0.1.2.1) = r.1) ∧
 (Ob (true = r.2) ∧
 True)))))
  ((Ob True ∧
 (Ob True ∧
 (Ob (v0.1.2.1 = r.1) ∧
 (Ob (true = r.2) ∧
 True))))))))))))))) = _) ?_
 refine jaD h (fun h => ?_) (fun h => ?_)
 ·refine jaj h fun h => ?_
  refine jbd h (fun h => ?_) (fun h => ?_)
  ·refine jbd h (fun h => ?_) (fun h => ?_)
   ·refine jae ?_
    refine jae ?_
    exact jal h (fun e => by subst e; exact (by repeat' (first | exact trivial | exact ⟨rfl⟩ | refine And.intro ?_ ?_)))
   ·refine jaD h (fun h => ?_) (fun h => ?_)
    ·refine jae ?_
     refine jae ?_
     exact jal h (fun e => by subst e; exact (by repeat' (first | exact trivial | exact ⟨rfl⟩ | refine And.intro ?_ ?_)))
    ·refine jaj h fun h => ?_
     refine jbd h (fun h => ?_) (fun h => ?_)
     ·refine jaD h (fun h => ?_) (fun h => ?_)
      ·refine jae ?_
       refine jae ?_
       exact jal h (fun e => by subst e; exact (by repeat' (first | exact trivial | exact ⟨rfl⟩ | refine And.intro ?_ ?_)))
      ·refine ⟨⟨(((1 : Int), 0, 1), big), ⟨jba h⟩, (by repeat' (first | exact trivial | exact ⟨rfl⟩ | refine And.intro ?_ ?_))⟩, fun z0 hz0 => ?_⟩
       obtain ⟨k0, hm0, h⟩ := jaN hz0
       refine jaD h (fun h => ?_) (fun h => ?_)
       ·refine jaj h fun h => ?_
        refine jaD h (fun h => ?_) (fun h => ?_)
        ·have h := jaq h
         refine jae ?_
         refine jae ?_
         exact jal h (fun e => by subst e; exact (by repeat' (first | exact trivial | exact ⟨rfl⟩ | refine And.intro ?_ ?_)))
        ·refine jaj h fun h => ?_
         refine jaD h (fun h => ?_) (fun h => ?_)
         ·have h := jaq h
          refine jae ?_
          refine jae ?_
          exact jal h (fun e => by subst e; exact (by repeat' (first | exact trivial | exact ⟨rfl⟩ | refine And.intro ?_ ?_)))
         ·refine jaj h fun h => ?_
          refine jae ?_
          exact ⟨(((Prod.fst z0).1, wrap .i64 (wrap .i64 (10 * (Prod.fst z0).2.1) + wrap .i64 (wrap .u8 ((↑(UInt8.toNat (Array.getD (ByteArray.data s) (Int.toNat (Prod.fst z0).2.2) (0 : UInt8))) : Int) - 48))), wrap .i64 ((Prod.fst z0).2.2 + 1)), k0), ⟨jaO h⟩, ⟨ja2 hm0.symm⟩, (by repeat' (first | exact trivial | exact ⟨rfl⟩ | refine And.intro ?_ ?_))⟩
       ·have h := jaq h
        refine jbd h (fun h => ?_) (fun h => ?_)
        ·refine jae ?_
         refine jae ?_
         exact jal h (fun e => by subst e; exact (by repeat' (first | exact trivial | exact ⟨rfl⟩ | refine And.intro ?_ ?_)))
        ·refine jae ?_
         refine jae ?_
         exact jal h (fun e => by subst e; exact (by repeat' (first | exact trivial | exact ⟨rfl⟩ | refine And.intro ?_ ?_)))
     ·refine ⟨⟨(((1 : Int), 0, 1), big), ⟨jba h⟩, (by repeat' (first | exact trivial | exact ⟨rfl⟩ | refine And.intro ?_ ?_))⟩, fun z1 hz1 => ?_⟩
      obtain ⟨k1, hm1, h⟩ := jaN hz1
      refine jaD h (fun h => ?_) (fun h => ?_)
      ·refine jaj h fun h => ?_
       refine jaD h (fun h => ?_) (fun h => ?_)
       ·have h := jaq h
        refine jae ?_
        refine jae ?_
        exact jal h (fun e => by subst e; exact (by repeat' (first | exact trivial | exact ⟨rfl⟩ | refine And.intro ?_ ?_)))
       ·refine jaj h fun h => ?_
        refine jaD h (fun h => ?_) (fun h => ?_)
        ·have h := jaq h
         refine jae ?_
         refine jae ?_
         exact jal h (fun e => by subst e; exact (by repeat' (first | exact trivial | exact ⟨rfl⟩ | refine And.intro ?_ ?_)))
        ·refine jaj h fun h => ?_
         refine jae ?_
         exact ⟨(((Prod.fst z1).1, wrap .i64 (wrap .i64 (10 * (Prod.fst z1).2.1) + wrap .i64 (wrap .u8 ((↑(UInt8.toNat (Array.getD (ByteArray.data s) (Int.toNat (Prod.fst z1).2.2) (0 : UInt8))) : Int) - 48))), wrap .i64 ((Prod.fst z1).2.2 + 1)), k1), ⟨jaO h⟩, ⟨ja2 hm1.symm⟩, (by repeat' (first | exact trivial | exact ⟨rfl⟩ | refine And.intro ?_ ?_))⟩
      ·have h := jaq h
       refine jbd h (fun h => ?_) (fun h => ?_)
       ·refine jae ?_
        refine jae ?_
        exact jal h (fun e => by subst e; exact (by repeat' (first | exact trivial | exact ⟨rfl⟩ | refine And.intro ?_ ?_)))
       ·refine jae ?_
        refine jae ?_
        exact jal h (fun e => by subst e; exact (by repeat' (first | exact trivial | exact ⟨rfl⟩ | refine And.intro ?_ ?_)))
  ·refine jbd h (fun h => ?_) (fun h => ?_)
   ·refine jae ?_
    refine jae ?_
    exact jal h (fun e => by subst e; exact (by repeat' (first | exact trivial | exact ⟨rfl⟩ | refine And.intro ?_ ?_)))
   ·refine jaD h (fun h => ?_) (fun h => ?_)
    ·refine jae ?_
     refine jae ?_
     exact jal h (fun e => by subst e; exact (by repeat' (first | exact trivial | exact ⟨rfl⟩ | refine And.intro ?_ ?_)))
    ·refine jaj h fun h => ?_
     refine jbd h (fun h => ?_) (fun h => ?_)
     ·refine jaD h (fun h => ?_) (fun h => ?_)
      ·refine jae ?_
       refine jae ?_
       exact jal h (fun e => by subst e; exact (by repeat' (first | exact trivial | exact ⟨rfl⟩ | refine And.intro ?_ ?_)))
      ·refine ⟨⟨(((0 : Int), 0, 0), big), ⟨jba h⟩, (by repeat' (first | exact trivial | exact ⟨rfl⟩ | refine And.intro ?_ ?_))⟩, fun z2 hz2 => ?_⟩
       obtain ⟨k2, hm2, h⟩ := jaN hz2
       refine jaD h (fun h => ?_) (fun h => ?_)
       ·refine jaj h fun h => ?_
        refine jaD h (fun h => ?_) (fun h => ?_)
        ·have h := jaq h
         refine jae ?_
         refine jae ?_
         exact jal h (fun e => by subst e; exact (by repeat' (first | exact trivial | exact ⟨rfl⟩ | refine And.intro ?_ ?_)))
        ·refine jaj h fun h => ?_
         refine jaD h (fun h => ?_) (fun h => ?_)
         ·have h := jaq h
          refine jae ?_
          refine jae ?_
          exact jal h (fun e => by subst e; exact (by repeat' (first | exact trivial | exact ⟨rfl⟩ | refine And.intro ?_ ?_)))
         ·refine jaj h fun h => ?_
          refine jae ?_
          exact ⟨(((Prod.fst z2).1, wrap .i64 (wrap .i64 (10 * (Prod.fst z2).2.1) + wrap .i64 (wrap .u8 ((↑(UInt8.toNat (Array.getD (ByteArray.data s) (Int.toNat (Prod.fst z2).2.2) (0 : UInt8))) : Int) - 48))), wrap .i64 ((Prod.fst z2).2.2 + 1)), k2), ⟨jaO h⟩, ⟨ja2 hm2.symm⟩, (by repeat' (first | exact trivial | exact ⟨rfl⟩ | refine And.intro ?_ ?_))⟩
       ·have h := jaq h
        refine jbd h (fun h => ?_) (fun h => ?_)
        ·refine jae ?_
         refine jae ?_
         exact jal h (fun e => by subst e; exact (by repeat' (first | exact trivial | exact ⟨rfl⟩ | refine And.intro ?_ ?_)))
        ·refine jae ?_
         refine jae ?_
         exact jal h (fun e => by subst e; exact (by repeat' (first | exact trivial | exact ⟨rfl⟩ | refine And.intro ?_ ?_)))
     ·refine ⟨⟨(((0 : Int), 0, 0), big), ⟨jba h⟩, (by repeat' (first | exact trivial | exact ⟨rfl⟩ | refine And.intro ?_ ?_))⟩, fun z3 hz3 => ?_⟩
      obtain ⟨k3, hm3, h⟩ := jaN hz3
      refine jaD h (fun h => ?_) (fun h => ?_)
      ·refine jaj h fun h => ?_
       refine jaD h (fun h => ?_) (fun h => ?_)
       ·have h := jaq h
        refine jae ?_
        refine jae ?_
        exact jal h (fun e => by subst e; exact (by repeat' (first | exact trivial | exact ⟨rfl⟩ | refine And.intro ?_ ?_)))
       ·refine jaj h fun h => ?_
        refine jaD h (fun h => ?_) (fun h => ?_)
        ·have h := jaq h
         refine jae ?_
         refine jae ?_
         exact jal h (fun e => by subst e; exact (by repeat' (first | exact trivial | exact ⟨rfl⟩ | refine And.intro ?_ ?_)))
        ·refine jaj h fun h => ?_
         refine jae ?_
         exact ⟨(((Prod.fst z3).1, wrap .i64 (wrap .i64 (10 * (Prod.fst z3).2.1) + wrap .i64 (wrap .u8 ((↑(UInt8.toNat (Array.getD (ByteArray.data s) (Int.toNat (Prod.fst z3).2.2) (0 : UInt8))) : Int) - 48))), wrap .i64 ((Prod.fst z3).2.2 + 1)), k3), ⟨jaO h⟩, ⟨ja2 hm3.symm⟩, (by repeat' (first | exact trivial | exact ⟨rfl⟩ | refine And.intro ?_ ?_))⟩
      ·have h := jaq h
       refine jbd h (fun h => ?_) (fun h => ?_)
       ·refine jae ?_
        refine jae ?_
        exact jal h (fun e => by subst e; exact (by repeat' (first | exact trivial | exact ⟨rfl⟩ | refine And.intro ?_ ?_)))
       ·refine jae ?_
        refine jae ?_
        exact jal h (fun e => by subst e; exact (by repeat' (first | exact trivial | exact ⟨rfl⟩ | refine And.intro ?_ ?_)))
 ·refine jbd h (fun h => ?_) (fun h => ?_)
  ·refine jae ?_
   refine jae ?_
   exact jal h (fun e => by subst e; exact (by repeat' (first | exact trivial | exact ⟨rfl⟩ | refine And.intro ?_ ?_)))
  ·refine jaD h (fun h => ?_) (fun h => ?_)
   ·refine jae ?_
    refine jae ?_
    exact jal h (fun e => by subst e; exact (by repeat' (first | exact trivial | exact ⟨rfl⟩ | refine And.intro ?_ ?_)))
   ·refine jaj h fun h => ?_
    refine jbd h (fun h => ?_) (fun h => ?_)
    ·refine jaD h (fun h => ?_) (fun h => ?_)
     ·refine jae ?_
      refine jae ?_
      exact jal h (fun e => by subst e; exact (by repeat' (first | exact trivial | exact ⟨rfl⟩ | refine And.intro ?_ ?_)))
     ·refine ⟨⟨(((0 : Int), 0, 0), big), ⟨jba h⟩, (by repeat' (first | exact trivial | exact ⟨rfl⟩ | refine And.intro ?_ ?_))⟩, fun z4 hz4 => ?_⟩
      obtain ⟨k4, hm4, h⟩ := jaN hz4
      refine jaD h (fun h => ?_) (fun h => ?_)
      ·refine jaj h fun h => ?_
       refine jaD h (fun h => ?_) (fun h => ?_)
       ·have h := jaq h
        refine jae ?_
        refine jae ?_
        exact jal h (fun e => by subst e; exact (by repeat' (first | exact trivial | exact ⟨rfl⟩ | refine And.intro ?_ ?_)))
       ·refine jaj h fun h => ?_
        refine jaD h (fun h => ?_) (fun h => ?_)
        ·have h := jaq h
         refine jae ?_
         refine jae ?_
         exact jal h (fun e => by subst e; exact (by repeat' (first | exact trivial | exact ⟨rfl⟩ | refine And.intro ?_ ?_)))
        ·refine jaj h fun h => ?_
         refine jae ?_
         exact ⟨(((Prod.fst z4).1, wrap .i64 (wrap .i64 (10 * (Prod.fst z4).2.1) + wrap .i64 (wrap .u8 ((↑(UInt8.toNat (Array.getD (ByteArray.data s) (Int.toNat (Prod.fst z4).2.2) (0 : UInt8))) : Int) - 48))), wrap .i64 ((Prod.fst z4).2.2 + 1)), k4), ⟨jaO h⟩, ⟨ja2 hm4.symm⟩, (by repeat' (first | exact trivial | exact ⟨rfl⟩ | refine And.intro ?_ ?_))⟩
      ·have h := jaq h
       refine jbd h (fun h => ?_) (fun h => ?_)
       ·refine jae ?_
        refine jae ?_
        exact jal h (fun e => by subst e; exact (by repeat' (first | exact trivial | exact ⟨rfl⟩ | refine And.intro ?_ ?_)))
       ·refine jae ?_
        refine jae ?_
        exact jal h (fun e => by subst e; exact (by repeat' (first | exact trivial | exact ⟨rfl⟩ | refine And.intro ?_ ?_)))
    ·refine ⟨⟨(((0 : Int), 0, 0), big), ⟨jba h⟩, (by repeat' (first | exact trivial | exact ⟨rfl⟩ | refine And.intro ?_ ?_))⟩, fun z5 hz5 => ?_⟩
     obtain ⟨k5, hm5, h⟩ := jaN hz5
     refine jaD h (fun h => ?_) (fun h => ?_)
     ·refine jaj h fun h => ?_
      refine jaD h (fun h => ?_) (fun h => ?_)
      ·have h := jaq h
       refine jae ?_
       refine jae ?_
       exact jal h (fun e => by subst e; exact (by repeat' (first | exact trivial | exact ⟨rfl⟩ | refine And.intro ?_ ?_)))
      ·refine jaj h fun h => ?_
       refine jaD h (fun h => ?_) (fun h => ?_)
       ·have h := jaq h
        refine jae ?_
        refine jae ?_
        exact jal h (fun e => by subst e; exact (by repeat' (first | exact trivial | exact ⟨rfl⟩ | refine And.intro ?_ ?_)))
       ·refine jaj h fun h => ?_
        refine jae ?_
        exact ⟨(((Prod.fst z5).1, wrap .i64 (wrap .i64 (10 * (Prod.fst z5).2.1) + wrap .i64 (wrap .u8 ((↑(UInt8.toNat (Array.getD (ByteArray.data s) (Int.toNat (Prod.fst z5).2.2) (0 : UInt8))) : Int) - 48))), wrap .i64 ((Prod.fst z5).2.2 + 1)), k5), ⟨jaO h⟩, ⟨ja2 hm5.symm⟩, (by repeat' (first | exact trivial | exact ⟨rfl⟩ | refine And.intro ?_ ?_))⟩
     ·have h := jaq h
      refine jbd h (fun h => ?_) (fun h => ?_)
      ·refine jae ?_
       refine jae ?_
       exact jal h (fun e => by subst e; exact (by repeat' (first | exact trivial | exact ⟨rfl⟩ | refine And.intro ?_ ?_)))
      ·refine jae ?_
       refine jae ?_
       exact jal h (fun e => by subst e; exact (by repeat' (first | exact trivial | exact ⟨rfl⟩ | refine And.intro ?_ ?_)))
theorem jm8 : jah Tryz.prog 26 true (jaG jj6 jgG) := by
 refine jaR (sp := sp0) (fn := Tryz.f26) (body := jai Tryz.f26) mixed jam Tryz.func26 (by kernel_rfl) (by kernel_rfl) fun as_ ob rs h ho => ?_
 unfold jgG at h
 split at h
 ·rename_i s u4
  cases h
  exact ⟨Nat.le_of_ble_eq_true rfl, _, _, jm7 s u4 _ (ja7 ho)⟩
 ·cases h
theorem sp_26_ok {sp : jaa} (h : jac Tryz.prog sp) : jac Tryz.prog (sp_26 sp) := jax jm8 h
def jiG : List (Option Cont) := [none]
def y18 (x0 : (Int × ByteArray × ByteArray)) : Option ((Int × ByteArray × ByteArray) ⊕ (ByteArray × ByteArray)) :=
 if (x0.1 != 0) = true then
  if (-9223372036854775807 : Int) ≤ Int.tmod x0.1 (10 : Int) ∧ Int.tmod x0.1 (10 : Int) ≤ 9223372036854775807 then
  if (↑(ByteArray.size (jcG [wrap .u8 (wrap .i64 (48 + max (Int.tmod x0.1 (10 : Int)) (-Int.tmod x0.1 (10 : Int))))]) + ByteArray.size x0.2.1) : Int) ≤ 9223372036854775807 then
   some (.inl ((wrap .i64 (Int.tdiv x0.1 (10 : Int)), jcG [wrap .u8 (wrap .i64 (48 + max (Int.tmod x0.1 (10 : Int)) (-Int.tmod x0.1 (10 : Int))))] ++ x0.2.1, x0.2.2)))
  else none
  else none
 else
  some (.inr (x0.2.1, x0.2.2))
def y24 (u0 : ByteArray × ByteArray) : Option ByteArray :=
 if (↑(ByteArray.size u0.2 + ByteArray.size u0.1) : Int) ≤ 9223372036854775807 then
  some (u0.2 ++ u0.1)
 else none
def y15 (n : Int) : Option ByteArray :=
 if (n == 0) = true then
  some (ByteArray.mk #[(48 : UInt8)])
 else
  if n < 0 then
  Option.bind (jad (y18) big ((n, ByteArray.mk #[], ByteArray.mk #[(45 : UInt8)]))) (y24)
  else
  Option.bind (jad (y18) big (n, ByteArray.mk #[], ByteArray.mk #[])) (y24)
def jfF : List A → Option (Prop × List RV)
 | [.d (.i .i64 n)] => some (ok (y15 n), [.d (.s ((val (y15 n))))])
 | _ => none
abbrev sp_27 : jaa → jaa := ja3 27 true (jaG jiG jfF)
theorem jmr (n : Int) (r : ByteArray) (h : Option.bind (y15 n) some = some r) : jaI Tryz.f27 ((sp_52 sp0)) (fun gs id _ => match id with
 | 0 => some ⟨(Int × ByteArray × ByteArray) × Nat, fun z => ⟨[(0, .w (.c (.d (.i .i64 (Prod.fst (Prod.fst z)))))), (3, .w (.c (.d (.s (Prod.fst (Prod.snd (Prod.fst z))))))), (4, .w (.c (.d (.s (Prod.snd (Prod.snd (Prod.fst z)))))))], [], 1⟩, fun z => Option.bind (jad (y18) (Prod.snd z) (Prod.fst z)) (fun y0 => Option.bind (y24 y0) some) = some r, fun z => Prod.snd z⟩
 | _ => none) [.d (.i .i64 n)] [.d (.s r)] := by
 refine Eq.mp (by kernel_rfl : (
 Br (n == 0)
  ((Ob True ∧
 (Ob (ByteArray.mk #[(48 : UInt8)] = r) ∧
 True)))
 (Br (decide (n < 0))
  (((∃ (v0 : (Int × ByteArray × ByteArray) × Nat), (Ob ((Option.bind (jad y18 v0.2 v0.1) fun y0 => Option.bind (y24 y0) some) = some r) ∧
 (Ob (n = v0.1.1) ∧
 (Ob (ByteArray.mk #[] = v0.1.2.1) ∧
 (Ob (ByteArray.mk #[(45 : UInt8)] = v0.1.2.2) ∧
 True))))) ∧
  (∀ (v0 : (Int × ByteArray × ByteArray) × Nat), ((Option.bind (jad y18 v0.2 v0.1) fun y0 => Option.bind (y24 y0) some) = some r →
 Br (v0.1.1 != 0)
  ((Ob ((10 : Int) ≠ (0 : Int)) ∧
 (Ob ((-9223372036854775807 : Int) ≤ Int.tmod v0.1.1 (10 : Int) ∧ Int.tmod v0.1.1 (10 : Int) ≤ 9223372036854775807) ∧
 (Ob True ∧
 (Ob True ∧
 (Ob ((↑(ByteArray.size (jcG [wrap .u8 (wrap .i64 (48 + max (Int.tmod v0.1.1 (10 : Int)) (-Int.tmod v0.1.1 (10 : Int))))]) + ByteArray.size v0.1.2.1) : Int) ≤ 9223372036854775807) ∧
 (Ob ((10 : Int) ≠ (0 : Int)) ∧
  (∃ (v1 : (Int × ByteArray × ByteArray) × Nat), (Ob ((Option.bind (jad y18 v1.2 v1.1) fun y0 => Option.bind (y24 y0) some) = some r) ∧
 (Ob (v1.2 < v0.2) ∧
 (Ob (wrap .i64 (Int.tdiv v0.1.1 (10 : Int)) = v1.1.1) ∧
 (Ob (jcG [wrap .u8 (wrap .i64 (48 + max (Int.tmod v0.1.1 (10 : Int)) (-Int.tmod v0.1.1 (10 : Int))))] ++ v0.1.2.1 = v1.1.2.1) ∧
 (Ob (v0.1.2.2 = v1.1.2.2) ∧
 True)))))))))))))
  ((Ob ((↑(ByteArray.size v0.1.2.2 + ByteArray.size v0.1.2.1) : Int) ≤ 9223372036854775807) ∧
 (Ob True ∧
 (Ob (v0.1.2.2 ++ v0.1.2.1 = r) ∧
 True))))))))
  (((∃ (v0 : (Int × ByteArray × ByteArray) × Nat), (Ob ((Option.bind (jad y18 v0.2 v0.1) fun y0 => Option.bind (y24 y0) some) = some r) ∧
 (Ob (n = v0.1.1) ∧
 (Ob (ByteArray.mk #[] = v0.1.2.1) ∧
 (Ob (ByteArray.mk #[] = v0.1.2.2) ∧
 True))))) ∧
  (∀ (v0 : (Int × ByteArray × ByteArray) × Nat), ((Option.bind (jad y18 v0.2 v0.1) fun y0 => Option.bind (y24 y0) some) = some r →
 Br (v0.1.1 != 0)
  ((Ob ((10 : Int) ≠ (0 : Int)) ∧
 (Ob ((-9223372036854775807 : Int) ≤ Int.tmod v0.1.1 (10 : Int) ∧ Int.tmod v0.1.1 (10 : Int) ≤ 9223372036854775807) ∧
 (Ob True ∧
 (Ob True ∧
 (Ob ((↑(ByteArray.size (jcG [wrap .u8 (wrap .i64 (48 + max (Int.tmod v0.1.1 (10 : Int)) (-Int.tmod v0.1.1 (10 : Int))))]) + ByteArray.size v0.1.2.1) : Int) ≤ 9223372036854775807) ∧
 (Ob ((10 : Int) ≠ (0 : Int)) ∧
  (∃ (v1 : (Int × ByteArray × ByteArray) × Nat), (Ob ((Option.bind (jad y18 v1.2 v1.1) fun y0 => Option.bind (y24 y0) some) = some r) ∧
 (Ob (v1.2 < v0.2) ∧
 (Ob (wrap .i64 (Int.tdiv v0.1.1 (10 : Int)) = v1.1.1) ∧
 (Ob (jcG [wrap .u8 (wrap .i64 (48 + max (Int.tmod v0.1.1 (10 : Int)) (-Int.tmod v0.1.1 (10 : Int))))] ++ v0.1.2.1 = v1.1.2.1) ∧
 (Ob (v0.1.2.2 = v1.1.2.2) ∧
 True)))))))))))))
  ((Ob ((↑(ByteArray.size v0.1.2.2 + ByteArray.size v0.1.2.1) : Int) ≤ 9223372036854775807) ∧
 (Ob True ∧
 (Ob (v0.1.2.2 ++ v0.1.2.1 = r) ∧
 True)))))))))) = _) ?_
 refine jbd h (fun h => ?_) (fun h => ?_)
 ·refine jae ?_
  exact jal h (fun e => by subst e; exact (by repeat' (first | exact trivial | exact ⟨rfl⟩ | refine And.intro ?_ ?_)))
 ·refine jaD h (fun h => ?_) (fun h => ?_)
  ·refine ⟨⟨((n, ByteArray.mk #[], ByteArray.mk #[(45 : UInt8)]), big), ⟨jba h⟩, (by repeat' (first | exact trivial | exact ⟨rfl⟩ | refine And.intro ?_ ?_))⟩, fun z0 hz0 => ?_⟩
   obtain ⟨k0, hm0, h⟩ := jaN hz0
   refine jbd h (fun h => ?_) (fun h => ?_)
   ·refine jbx (p := (10 : Int) ≠ (0 : Int)) (by decide) ?_
    refine jaj h fun h => ?_
    refine jae ?_
    refine jae ?_
    refine jaj h fun h => ?_
    refine jbx (p := (10 : Int) ≠ (0 : Int)) (by decide) ?_
    exact ⟨((wrap .i64 (Int.tdiv (Prod.fst z0).1 (10 : Int)), jcG [wrap .u8 (wrap .i64 (48 + max (Int.tmod (Prod.fst z0).1 (10 : Int)) (-Int.tmod (Prod.fst z0).1 (10 : Int))))] ++ (Prod.fst z0).2.1, (Prod.fst z0).2.2), k0), ⟨jaO h⟩, ⟨ja2 hm0.symm⟩, (by repeat' (first | exact trivial | exact ⟨rfl⟩ | refine And.intro ?_ ?_))⟩
   ·have h := jaq h
    refine jaj h fun h => ?_
    refine jae ?_
    exact jal h (fun e => by subst e; exact (by repeat' (first | exact trivial | exact ⟨rfl⟩ | refine And.intro ?_ ?_)))
  ·refine ⟨⟨((n, ByteArray.mk #[], ByteArray.mk #[]), big), ⟨jba h⟩, (by repeat' (first | exact trivial | exact ⟨rfl⟩ | refine And.intro ?_ ?_))⟩, fun z1 hz1 => ?_⟩
   obtain ⟨k1, hm1, h⟩ := jaN hz1
   refine jbd h (fun h => ?_) (fun h => ?_)
   ·refine jbx (p := (10 : Int) ≠ (0 : Int)) (by decide) ?_
    refine jaj h fun h => ?_
    refine jae ?_
    refine jae ?_
    refine jaj h fun h => ?_
    refine jbx (p := (10 : Int) ≠ (0 : Int)) (by decide) ?_
    exact ⟨((wrap .i64 (Int.tdiv (Prod.fst z1).1 (10 : Int)), jcG [wrap .u8 (wrap .i64 (48 + max (Int.tmod (Prod.fst z1).1 (10 : Int)) (-Int.tmod (Prod.fst z1).1 (10 : Int))))] ++ (Prod.fst z1).2.1, (Prod.fst z1).2.2), k1), ⟨jaO h⟩, ⟨ja2 hm1.symm⟩, (by repeat' (first | exact trivial | exact ⟨rfl⟩ | refine And.intro ?_ ?_))⟩
   ·have h := jaq h
    refine jaj h fun h => ?_
    refine jae ?_
    exact jal h (fun e => by subst e; exact (by repeat' (first | exact trivial | exact ⟨rfl⟩ | refine And.intro ?_ ?_)))
theorem jms : jah Tryz.prog 27 true (jaG jiG jfF) := by
 refine jaR (sp := (sp_52 sp0)) (fn := Tryz.f27) (body := jai Tryz.f27) mixed (sp_52_ok jam) Tryz.func27 (by kernel_rfl) (by kernel_rfl) fun as_ ob rs h ho => ?_
 unfold jfF at h
 split at h
 ·rename_i n
  cases h
  exact ⟨Nat.le_of_ble_eq_true rfl, _, _, jmr n _ (ja7 ho)⟩
 ·cases h
theorem sp_27_ok {sp : jaa} (h : jac Tryz.prog sp) : jac Tryz.prog (sp_27 sp) := jax jms h
def y58 : List (Option Cont) := [some (.recs 5 [])]
def y8 (c : List (List Int)) (x0 : ByteArray × Int) (x1 : (ByteArray × Int)) : Option ((ByteArray × Int) ⊕ ByteArray) :=
 if x1.2 < (↑(List.length [List.getD (List.getD c (Int.toNat x0.2) []) 0 (0 : Int), List.getD (List.getD c (Int.toNat x0.2) []) 1 (0 : Int), List.getD (List.getD c (Int.toNat x0.2) []) 2 (0 : Int), List.getD (List.getD c (Int.toNat x0.2) []) 3 (0 : Int), List.getD (List.getD c (Int.toNat x0.2) []) 4 (0 : Int)]) : Int) then
  if x1.2 > 0 then
  if (↑(ByteArray.size x1.1 + ByteArray.size (ByteArray.mk #[(32 : UInt8)])) : Int) ≤ 9223372036854775807 then
   if 0 ≤ x1.2 ∧ x1.2 < (↑(List.length [List.getD (List.getD c (Int.toNat x0.2) []) 0 (0 : Int), List.getD (List.getD c (Int.toNat x0.2) []) 1 (0 : Int), List.getD (List.getD c (Int.toNat x0.2) []) 2 (0 : Int), List.getD (List.getD c (Int.toNat x0.2) []) 3 (0 : Int), List.getD (List.getD c (Int.toNat x0.2) []) 4 (0 : Int)]) : Int) then
   if Int.toNat x1.2 < List.length [List.getD (List.getD c (Int.toNat x0.2) []) 0 (0 : Int), List.getD (List.getD c (Int.toNat x0.2) []) 1 (0 : Int), List.getD (List.getD c (Int.toNat x0.2) []) 2 (0 : Int), List.getD (List.getD c (Int.toNat x0.2) []) 3 (0 : Int), List.getD (List.getD c (Int.toNat x0.2) []) 4 (0 : Int)] then
    Option.bind (y15 (List.getD [List.getD (List.getD c (Int.toNat x0.2) []) 0 (0 : Int), List.getD (List.getD c (Int.toNat x0.2) []) 1 (0 : Int), List.getD (List.getD c (Int.toNat x0.2) []) 2 (0 : Int), List.getD (List.getD c (Int.toNat x0.2) []) 3 (0 : Int), List.getD (List.getD c (Int.toNat x0.2) []) 4 (0 : Int)] (Int.toNat x1.2) (0 : Int))) fun r0 =>
    if (↑(ByteArray.size (x1.1 ++ ByteArray.mk #[(32 : UInt8)]) + ByteArray.size r0) : Int) ≤ 9223372036854775807 then
    some (.inl ((x1.1 ++ ByteArray.mk #[(32 : UInt8)] ++ r0, wrap .i64 (x1.2 + 1))))
    else none
   else none
   else none
  else none
  else
  if 0 ≤ x1.2 ∧ x1.2 < (↑(List.length [List.getD (List.getD c (Int.toNat x0.2) []) 0 (0 : Int), List.getD (List.getD c (Int.toNat x0.2) []) 1 (0 : Int), List.getD (List.getD c (Int.toNat x0.2) []) 2 (0 : Int), List.getD (List.getD c (Int.toNat x0.2) []) 3 (0 : Int), List.getD (List.getD c (Int.toNat x0.2) []) 4 (0 : Int)]) : Int) then
   if Int.toNat x1.2 < List.length [List.getD (List.getD c (Int.toNat x0.2) []) 0 (0 : Int), List.getD (List.getD c (Int.toNat x0.2) []) 1 (0 : Int), List.getD (List.getD c (Int.toNat x0.2) []) 2 (0 : Int), List.getD (List.getD c (Int.toNat x0.2) []) 3 (0 : Int), List.getD (List.getD c (Int.toNat x0.2) []) 4 (0 : Int)] then
   Option.bind (y15 (List.getD [List.getD (List.getD c (Int.toNat x0.2) []) 0 (0 : Int), List.getD (List.getD c (Int.toNat x0.2) []) 1 (0 : Int), List.getD (List.getD c (Int.toNat x0.2) []) 2 (0 : Int), List.getD (List.getD c (Int.toNat x0.2) []) 3 (0 : Int), List.getD (List.getD c (Int.toNat x0.2) []) 4 (0 : Int)] (Int.toNat x1.2) (0 : Int))) fun r0 =>
   if (↑(ByteArray.size x1.1 + ByteArray.size r0) : Int) ≤ 9223372036854775807 then
    some (.inl ((x1.1 ++ r0, wrap .i64 (x1.2 + 1))))
   else none
   else none
  else none
 else
  some (.inr x1.1)
def y9 (x0 : ByteArray × Int) (u3 : ByteArray) : Option ((ByteArray × Int) ⊕ ByteArray) :=
 some (.inl ((u3, wrap .i64 (x0.2 + 1))))
def y3 (c : List (List Int)) (x0 : (ByteArray × Int)) : Option ((ByteArray × Int) ⊕ ByteArray) :=
 if x0.2 < (↑(List.length c) : Int) then
  if x0.2 > 0 then
  if (↑(ByteArray.size x0.1 + ByteArray.size (ByteArray.mk #[(59 : UInt8)])) : Int) ≤ 9223372036854775807 then
   if 0 ≤ x0.2 ∧ x0.2 < (↑(List.length c) : Int) then
   if Int.toNat x0.2 < List.length c then
    if 0 ≤ x0.2 ∧ x0.2 < (↑(List.length c) : Int) then
    if Int.toNat x0.2 < List.length c then
     if 0 ≤ x0.2 ∧ x0.2 < (↑(List.length c) : Int) then
     if Int.toNat x0.2 < List.length c then
      if 0 ≤ x0.2 ∧ x0.2 < (↑(List.length c) : Int) then
      if Int.toNat x0.2 < List.length c then
       if 0 ≤ x0.2 ∧ x0.2 < (↑(List.length c) : Int) then
       if Int.toNat x0.2 < List.length c then
        Option.bind (jad (y8 c x0) big ((x0.1 ++ ByteArray.mk #[(59 : UInt8)], 0))) (y9 x0)
       else none
       else none
      else none
      else none
     else none
     else none
    else none
    else none
   else none
   else none
  else none
  else
  if 0 ≤ x0.2 ∧ x0.2 < (↑(List.length c) : Int) then
   if Int.toNat x0.2 < List.length c then
   if 0 ≤ x0.2 ∧ x0.2 < (↑(List.length c) : Int) then
    if Int.toNat x0.2 < List.length c then
    if 0 ≤ x0.2 ∧ x0.2 < (↑(List.length c) : Int) then
     if Int.toNat x0.2 < List.length c then
     if 0 ≤ x0.2 ∧ x0.2 < (↑(List.length c) : Int) then
      if Int.toNat x0.2 < List.length c then
      if 0 ≤ x0.2 ∧ x0.2 < (↑(List.length c) : Int) then
       if Int.toNat x0.2 < List.length c then
       Option.bind (jad (y8 c x0) big ((x0.1, 0))) (y9 x0)
       else none
      else none
      else none
     else none
     else none
    else none
    else none
   else none
   else none
  else none
 else
  some (.inr x0.1)
def y6 (u0 : ByteArray) : Option ByteArray :=
 some u0
def y26 (c : List (List Int)) : Option ByteArray :=
 Option.bind (jad (y3 c) big ((ByteArray.mk #[], 0))) (y6)
def y48 : List A → Option (Prop × List RV)
 | [.r (.recs 5 c)] => some (ok (y26 c), [.d (.s ((val (y26 c))))])
 | _ => none
abbrev sp_10 : jaa → jaa := ja3 10 true (jaG y58 y48)
theorem jgH (c : List (List Int)) (r : ByteArray) (h : Option.bind (y26 c) some = some r) : jaI Tryz.f10 ((sp_27 sp0)) (fun gs id _ => match id with
 | 0 => some ⟨(ByteArray × Int) × Nat, fun z => ⟨[(0, .w (.c (.o 0))), (3, .w (.c (.d (.s (Prod.fst (Prod.fst z)))))), (4, .w (.c (.d (.i .i64 (Prod.snd (Prod.fst z))))))], [(0, .ext (.recs 5 c))], 1⟩, fun z => Option.bind (jad (y3 c) (Prod.snd z) (Prod.fst z)) (fun y0 => Option.bind (y6 y0) some) = some r, fun z => Prod.snd z⟩
 | 2 => some ⟨(ByteArray × Int) × Nat × (ByteArray × Int) × Nat, fun z => ⟨[(0, .w (.c (.o 0))), (3, .w (.c (.d (.s (Prod.fst (Prod.fst (Prod.snd (Prod.snd z)))))))), (4, .w (.c (.d (.i .i64 ((Prod.fst z).2))))), (5, .w (.c (.o 1))), (6, .w (.c (.d (.i .i64 (Prod.snd (Prod.fst (Prod.snd (Prod.snd z))))))))], [(0, .ext (.recs 5 c)), (1, .row 3 (.ints .i64 ([List.getD (List.getD c (Int.toNat (Prod.fst z).2) []) (0 : Nat) (0 : Int), List.getD (List.getD c (Int.toNat (Prod.fst z).2) []) (1 : Nat) (0 : Int), List.getD (List.getD c (Int.toNat (Prod.fst z).2) []) (2 : Nat) (0 : Int), List.getD (List.getD c (Int.toNat (Prod.fst z).2) []) (3 : Nat) (0 : Int), List.getD (List.getD c (Int.toNat (Prod.fst z).2) []) (4 : Nat) (0 : Int)])))], 2⟩, fun z => Prod.fst (Prod.snd z) + 1 = gs.getD 0 0 ∧ Option.bind (jad (y8 c (Prod.fst z)) (Prod.snd (Prod.snd (Prod.snd z))) (Prod.fst (Prod.snd (Prod.snd z)))) (fun y0 => Option.bind (y9 (Prod.fst z) y0) (jck (y3 c) (Prod.fst (Prod.snd z)) (fun y1 => Option.bind (y6 y1) some))) = some r, fun z => Prod.snd (Prod.snd (Prod.snd z))⟩
 | _ => none) [.r (.recs 5 c)] [.d (.s r)] := by
 refine Eq.mp (by kernel_rfl : (
 ((∃ (v0 : (ByteArray × Int) × Nat), (Ob ((Option.bind (jad (y3 c) v0.2 v0.1) fun y0 => Option.bind (y6 y0) some) = some r) ∧
 (Ob (ByteArray.mk #[] = v0.1.1) ∧
 (Ob ((0 : Int) = v0.1.2) ∧
 (Ob (c = c) ∧
 True))))) ∧
  (∀ (v0 : (ByteArray × Int) × Nat), ((Option.bind (jad (y3 c) v0.2 v0.1) fun y0 => Option.bind (y6 y0) some) = some r →
 Br (decide (v0.1.2 < (↑(List.length c) : Int)))
 (Br (decide (v0.1.2 > 0))
  ((Ob ((↑(ByteArray.size v0.1.1 + ByteArray.size (ByteArray.mk #[(59 : UInt8)])) : Int) ≤ 9223372036854775807) ∧
 (Ob (0 ≤ v0.1.2 ∧ v0.1.2 < (↑(List.length c) : Int)) ∧
 (Ob ((0 : Int) ≤ 0 ∧ 0 < (↑(3 : Nat) : Int)) ∧
 (Ob (Int.toNat v0.1.2 < List.length c) ∧
 (Ob (0 ≤ v0.1.2 ∧ v0.1.2 < (↑(List.length c) : Int)) ∧
 (Ob ((0 : Int) ≤ 1 ∧ 1 < (↑(3 : Nat) : Int)) ∧
 (Ob (Int.toNat v0.1.2 < List.length c) ∧
 (Ob (0 ≤ v0.1.2 ∧ v0.1.2 < (↑(List.length c) : Int)) ∧
 (Ob ((0 : Int) ≤ 2 ∧ 2 < (↑(3 : Nat) : Int)) ∧
 (Ob (Int.toNat v0.1.2 < List.length c) ∧
 (Ob (0 ≤ v0.1.2 ∧ v0.1.2 < (↑(List.length c) : Int)) ∧
 (Ob ((0 : Int) ≤ 0 ∧ 0 < (↑(2 : Nat) : Int)) ∧
 (Ob (Int.toNat v0.1.2 < List.length c) ∧
 (Ob (0 ≤ v0.1.2 ∧ v0.1.2 < (↑(List.length c) : Int)) ∧
 (Ob ((0 : Int) ≤ 1 ∧ 1 < (↑(2 : Nat) : Int)) ∧
 (Ob (Int.toNat v0.1.2 < List.length c) ∧
  ((∃ (v1 : (ByteArray × Int) × Nat × (ByteArray × Int) × Nat), (Ob (v1.2.1 + 1 = v0.2 ∧ (Option.bind (jad (y8 c v1.1) v1.2.2.2 v1.2.2.1) fun y0 => Option.bind (y9 v1.1 y0) (jck (y3 c) v1.2.1 fun y1 => Option.bind (y6 y1) some)) = some r) ∧
 (Ob (v0.1.1 ++ ByteArray.mk #[(59 : UInt8)] = v1.2.2.1.1) ∧
 (Ob (v0.1.2 = v1.1.2) ∧
 (Ob ((0 : Int) = v1.2.2.1.2) ∧
 (Ob (c = c) ∧
 (Ob ([List.getD (List.getD c (Int.toNat v0.1.2) []) 0 (0 : Int), List.getD (List.getD c (Int.toNat v0.1.2) []) 1 (0 : Int), List.getD (List.getD c (Int.toNat v0.1.2) []) 2 (0 : Int), List.getD (List.getD c (Int.toNat v0.1.2) []) 3 (0 : Int), List.getD (List.getD c (Int.toNat v0.1.2) []) 4 (0 : Int)] = [List.getD (List.getD c (Int.toNat v1.1.2) []) 0 (0 : Int), List.getD (List.getD c (Int.toNat v1.1.2) []) 1 (0 : Int), List.getD (List.getD c (Int.toNat v1.1.2) []) 2 (0 : Int), List.getD (List.getD c (Int.toNat v1.1.2) []) 3 (0 : Int), List.getD (List.getD c (Int.toNat v1.1.2) []) 4 (0 : Int)]) ∧
 True))))))) ∧
  (∀ (v1 : (ByteArray × Int) × Nat × (ByteArray × Int) × Nat), (v1.2.1 + 1 = v0.2 ∧ (Option.bind (jad (y8 c v1.1) v1.2.2.2 v1.2.2.1) fun y0 => Option.bind (y9 v1.1 y0) (jck (y3 c) v1.2.1 fun y1 => Option.bind (y6 y1) some)) = some r →
 Br (decide (v1.2.2.1.2 < (↑(List.length [List.getD (List.getD c (Int.toNat v1.1.2) []) 0 (0 : Int), List.getD (List.getD c (Int.toNat v1.1.2) []) 1 (0 : Int), List.getD (List.getD c (Int.toNat v1.1.2) []) 2 (0 : Int), List.getD (List.getD c (Int.toNat v1.1.2) []) 3 (0 : Int), List.getD (List.getD c (Int.toNat v1.1.2) []) 4 (0 : Int)]) : Int)))
 (Br (decide (v1.2.2.1.2 > 0))
  ((Ob ((↑(ByteArray.size v1.2.2.1.1 + ByteArray.size (ByteArray.mk #[(32 : UInt8)])) : Int) ≤ 9223372036854775807) ∧
 (Ob (0 ≤ v1.2.2.1.2 ∧ v1.2.2.1.2 < (↑(List.length [List.getD (List.getD c (Int.toNat v1.1.2) []) 0 (0 : Int), List.getD (List.getD c (Int.toNat v1.1.2) []) 1 (0 : Int), List.getD (List.getD c (Int.toNat v1.1.2) []) 2 (0 : Int), List.getD (List.getD c (Int.toNat v1.1.2) []) 3 (0 : Int), List.getD (List.getD c (Int.toNat v1.1.2) []) 4 (0 : Int)]) : Int)) ∧
 (Ob (Int.toNat v1.2.2.1.2 < List.length [List.getD (List.getD c (Int.toNat v1.1.2) []) 0 (0 : Int), List.getD (List.getD c (Int.toNat v1.1.2) []) 1 (0 : Int), List.getD (List.getD c (Int.toNat v1.1.2) []) 2 (0 : Int), List.getD (List.getD c (Int.toNat v1.1.2) []) 3 (0 : Int), List.getD (List.getD c (Int.toNat v1.1.2) []) 4 (0 : Int)]) ∧
 (Ob (ok (y15 (List.getD [List.getD (List.getD c (Int.toNat v1.1.2) []) 0 (0 : Int), List.getD (List.getD c (Int.toNat v1.1.2) []) 1 (0 : Int), List.getD (List.getD c (Int.toNat v1.1.2) []) 2 (0 : Int), List.getD (List.getD c (Int.toNat v1.1.2) []) 3 (0 : Int), List.getD (List.getD c (Int.toNat v1.1.2) []) 4 (0 : Int)] (Int.toNat v1.2.2.1.2) (0 : Int)))) ∧
 (Ob ((↑(ByteArray.size (v1.2.2.1.1 ++ ByteArray.mk #[(32 : UInt8)]) + ByteArray.size (val (y15 (List.getD [List.getD (List.getD c (Int.toNat v1.1.2) []) 0 (0 : Int), List.getD (List.getD c (Int.toNat v1.1.2) []) 1 (0 : Int), List.getD (List.getD c (Int.toNat v1.1.2) []) 2 (0 : Int), List.getD (List.getD c (Int.toNat v1.1.2) []) 3 (0 : Int), List.getD (List.getD c (Int.toNat v1.1.2) []) 4 (0 : Int)] (Int.toNat v1.2.2.1.2) (0 : Int))))) : Int) ≤ 9223372036854775807) ∧
  (∃ (v2 : (ByteArray × Int) × Nat × (ByteArray × Int) × Nat), (Ob (v2.2.1 + 1 = v0.2 ∧ (Option.bind (jad (y8 c v2.1) v2.2.2.2 v2.2.2.1) fun y0 => Option.bind (y9 v2.1 y0) (jck (y3 c) v2.2.1 fun y1 => Option.bind (y6 y1) some)) = some r) ∧
 (Ob (v2.2.2.2 < v1.2.2.2) ∧
 (Ob (v1.2.2.1.1 ++ ByteArray.mk #[(32 : UInt8)] ++ val (y15 (List.getD [List.getD (List.getD c (Int.toNat v1.1.2) []) 0 (0 : Int), List.getD (List.getD c (Int.toNat v1.1.2) []) 1 (0 : Int), List.getD (List.getD c (Int.toNat v1.1.2) []) 2 (0 : Int), List.getD (List.getD c (Int.toNat v1.1.2) []) 3 (0 : Int), List.getD (List.getD c (Int.toNat v1.1.2) []) 4 (0 : Int)] (Int.toNat v1.2.2.1.2) (0 : Int))) = v2.2.2.1.1) ∧
 (Ob (v1.1.2 = v2.1.2) ∧
 (Ob (wrap .i64 (v1.2.2.1.2 + 1) = v2.2.2.1.2) ∧
 (Ob (c = c) ∧
 (Ob ([List.getD (List.getD c (Int.toNat v1.1.2) []) 0 (0 : Int), List.getD (List.getD c (Int.toNat v1.1.2) []) 1 (0 : Int), List.getD (List.getD c (Int.toNat v1.1.2) []) 2 (0 : Int), List.getD (List.getD c (Int.toNat v1.1.2) []) 3 (0 : Int), List.getD (List.getD c (Int.toNat v1.1.2) []) 4 (0 : Int)] = [List.getD (List.getD c (Int.toNat v2.1.2) []) 0 (0 : Int), List.getD (List.getD c (Int.toNat v2.1.2) []) 1 (0 : Int), List.getD (List.getD c (Int.toNat v2.1.2) []) 2 (0 : Int), List.getD (List.getD c (Int.toNat v2.1.2) []) 3 (0 : Int), List.getD (List.getD c (Int.toNat v2.1.2) []) 4 (0 : Int)]) ∧
 True))))))))))))))
  ((Ob (0 ≤ v1.2.2.1.2 ∧ v1.2.2.1.2 < (↑(List.length [List.getD (List.getD c (Int.toNat v1.1.2) []) 0 (0 : Int), List.getD (List.getD c (Int.toNat v1.1.2) []) 1 (0 : Int), List.getD (List.getD c (Int.toNat v1.1.2) []) 2 (0 : Int), List.getD (List.getD c (Int.toNat v1.1.2) []) 3 (0 : Int), List.getD (List.getD c (Int.toNat v1.1.2) []) 4 (0 : Int)]) : Int)) ∧
 (Ob (Int.toNat v1.2.2.1.2 < List.length [List.getD (List.getD c (Int.toNat v1.1.2) []) 0 (0 : Int), List.getD (List.getD c (Int.toNat v1.1.2) []) 1 (0 : Int), List.getD (List.getD c (Int.toNat v1.1.2) []) 2 (0 : Int), List.getD (List.getD c (Int.toNat v1.1.2) []) 3 (0 : Int), List.getD (List.getD c (Int.toNat v1.1.2) []) 4 (0 : Int)]) ∧
 (Ob (ok (y15 (List.getD [List.getD (List.getD c (Int.toNat v1.1.2) []) 0 (0 : Int), List.getD (List.getD c (Int.toNat v1.1.2) []) 1 (0 : Int), List.getD (List.getD c (Int.toNat v1.1.2) []) 2 (0 : Int), List.getD (List.getD c (Int.toNat v1.1.2) []) 3 (0 : Int), List.getD (List.getD c (Int.toNat v1.1.2) []) 4 (0 : Int)] (Int.toNat v1.2.2.1.2) (0 : Int)))) ∧
 (Ob ((↑(ByteArray.size v1.2.2.1.1 + ByteArray.size (val (y15 (List.getD [List.getD (List.getD c (Int.toNat v1.1.2) []) 0 (0 : Int), List.getD (List.getD c (Int.toNat v1.1.2) []) 1 (0 : Int), List.getD (List.getD c (Int.toNat v1.1.2) []) 2 (0 : Int), List.getD (List.getD c (Int.toNat v1.1.2) []) 3 (0 : Int), List.getD (List.getD c (Int.toNat v1.1.2) []) 4 (0 : Int)] (Int.toNat v1.2.2.1.2) (0 : Int))))) : Int) ≤ 9223372036854775807) ∧
  (∃ (v2 : (ByteArray × Int) × Nat × (ByteArray × Int) × Nat), (Ob (v2.2.1 + 1 = v0.2 ∧ (Option.bind (jad (y8 c v2.1) v2.2.2.2 v2.2.2.1) fun y0 => Option.bind (y9 v2.1 y0) (jck (y3 c) v2.2.1 fun y1 => Option.bind (y6 y1) some)) = some r) ∧
 (Ob (v2.2.2.2 < v1.2.2.2) ∧
 (Ob (v1.2.2.1.1 ++ val (y15 (List.getD [List.getD (List.getD c (Int.toNat v1.1.2) []) 0 (0 : Int), List.getD (List.getD c (Int.toNat v1.1.2) []) 1 (0 : Int), List.getD (List.getD c (Int.toNat v1.1.2) []) 2 (0 : Int), List.getD (List.getD c (Int.toNat v1.1.2) []) 3 (0 : Int), List.getD (List.getD c (Int.toNat v1.1.2) []) 4 (0 : Int)] (Int.toNat v1.2.2.1.2) (0 : Int))) = v2.2.2.1.1) ∧
 (Ob (v1.1.2 = v2.1.2) ∧
 (Ob (wrap .i64 (v1.2.2.1.2 + 1) = v2.2.2.1.2) ∧
 (Ob (c = c) ∧
 (Ob ([List.getD (List.getD c (Int.toNat v1.1.2) []) 0 (0 : Int), List.getD (List.getD c (Int.toNat v1.1.2) []) 1 (0 : Int), List.getD (List.getD c (Int.toNat v1.1.2) []) 2 (0 : Int), List.getD (List.getD c (Int.toNat v1.1.2) []) 3 (0 : Int), List.getD (List.getD c (Int.toNat v1.1.2) []) 4 (0 : Int)] = [List.getD (List.getD c (Int.toNat v2.1.2) []) 0 (0 : Int), List.getD (List.getD c (Int.toNat v2.1.2) []) 1 (0 : Int), List.getD (List.getD c (Int.toNat v2.1.2) []) 2 (0 : Int), List.getD (List.getD c (Int.toNat v2.1.2) []) 3 (0 : Int), List.getD (List.getD c (Int.toNat v2.1.2) []) 4 (0 : Int)]) ∧
 True))))))))))))))
  ((∃ (v2 : (ByteArray × Int) × Nat), (Ob ((Option.bind (jad (y3 c) v2.2 v2.1) fun y0 => Option.bind (y6 y0) some) = some r) ∧
 (Ob (v2.2 < v0.2) ∧
 (Ob (v1.2.2.1.1 = v2.1.1) ∧
 (Ob (wrap .i64 (v1.1.2 + 1) = v2.1.2) ∧
 (Ob (c = c) ∧
 True)))))))))))))))))))))))))))
  ((Ob (0 ≤ v0.1.2 ∧ v0.1.2 < (↑(List.length c) : Int)) ∧
 (Ob ((0 : Int) ≤ 0 ∧ 0 < (↑(3 : Nat) : Int)) ∧
 (Ob (Int.toNat v0.1.2 < List.length c) ∧
 (Ob (0 ≤ v0.1.2 ∧ v0.1.2 < (↑(List.length c) : Int)) ∧
 (Ob ((0 : Int) ≤ 1 ∧ 1 < (↑(3 : Nat) : Int)) ∧
 (Ob (Int.toNat v0.1.2 < List.length c) ∧
 (Ob (0 ≤ v0.1.2 ∧ v0.1.2 < (↑(List.length c) : Int)) ∧
 (Ob ((0 : Int) ≤ 2 ∧ 2 < (↑(3 : Nat) : Int)) ∧
 (Ob (Int.toNat v0.1.2 < List.length c) ∧
 (Ob (0 ≤ v0.1.2 ∧ v0.1.2 < (↑(List.length c) : Int)) ∧
 (Ob ((0 : Int) ≤ 0 ∧ 0 < (↑(2 : Nat) : Int)) ∧
 (Ob (Int.toNat v0.1.2 < List.length c) ∧
 (Ob (0 ≤ v0.1.2 ∧ v0.1.2 < (↑(List.length c) : Int)) ∧
 (Ob ((0 : Int) ≤ 1 ∧ 1 < (↑(2 : Nat) : Int)) ∧
 (Ob (Int.toNat v0.1.2 < List.length c) ∧
  ((∃ (v1 : (ByteArray × Int) × Nat × (ByteArray × Int) × Nat), (Ob (v1.2.1 + 1 = v0.2 ∧ (Option.bind (jad (y8 c v1.1) v1.2.2.2 v1.2.2.1) fun y0 => Option.bind (y9 v1.1 y0) (jck (y3 c) v1.2.1 fun y1 => Option.bind (y6 y1) some)) = some r) ∧
 (Ob (v0.1.1 = v1.2.2.1.1) ∧
 (Ob (v0.1.2 = v1.1.2) ∧
 (Ob ((0 : Int) = v1.2.2.1.2) ∧
 (Ob (c = c) ∧
 (Ob ([List.getD (List.getD c (Int.toNat v0.1.2) []) 0 (0 : Int), List.getD (List.getD c (Int.toNat v0.1.2) []) 1 (0 : Int), List.getD (List.getD c (Int.toNat v0.1.2) []) 2 (0 : Int), List.getD (List.getD c (Int.toNat v0.1.2) []) 3 (0 : Int), List.getD (List.getD c (Int.toNat v0.1.2) []) 4 (0 : Int)] = [List.getD (List.getD c (Int.toNat v1.1.2) []) 0 (0 : Int), List.getD (List.getD c (Int.toNat v1.1.2) []) 1 (0 : Int), List.getD (List.getD c (Int.toNat v1.1.2) []) 2 (0 : Int), List.getD (List.getD c (Int.toNat v1.1.2) []) 3 (0 : Int), List.getD (List.getD c (Int.toNat v1.1.2) []) 4 (0 : Int)]) ∧
 True))))))) ∧
  (∀ (v1 : (ByteArray × Int) × Nat × (ByteArray × Int) × Nat), (v1.2.1 + 1 = v0.2 ∧ (Option.bind (jad (y8 c v1.1) v1.2.2.2 v1.2.2.1) fun y0 => Option.bind (y9 v1.1 y0) (jck (y3 c) v1.2.1 fun y1 => Option.bind (y6 y1) some)) = some r →
 Br (decide (v1.2.2.1.2 < (↑(List.length [List.getD (List.getD c (Int.toNat v1.1.2) []) 0 (0 : Int), List.getD (List.getD c (Int.toNat v1.1.2) []) 1 (0 : Int), List.getD (List.getD c (Int.toNat v1.1.2) []) 2 (0 : Int), List.getD (List.getD c (Int.toNat v1.1.2) []) 3 (0 : Int), List.getD (List.getD c (Int.toNat v1.1.2) []) 4 (0 : Int)]) : Int)))
 (Br (decide (v1.2.2.1.2 > 0))
  ((Ob ((↑(ByteArray.size v1.2.2.1.1 + ByteArray.size (ByteArray.mk #[(32 : UInt8)])) : Int) ≤ 9223372036854775807) ∧
 (Ob (0 ≤ v1.2.2.1.2 ∧ v1.2.2.1.2 < (↑(List.length [List.getD (List.getD c (Int.toNat v1.1.2) []) 0 (0 : Int), List.getD (List.getD c (Int.toNat v1.1.2) []) 1 (0 : Int), List.getD (List.getD c (Int.toNat v1.1.2) []) 2 (0 : Int), List.getD (List.getD c (Int.toNat v1.1.2) []) 3 (0 : Int), List.getD (List.getD c (Int.toNat v1.1.2) []) 4 (0 : Int)]) : Int)) ∧
 (Ob (Int.toNat v1.2.2.1.2 < List.length [List.getD (List.getD c (Int.toNat v1.1.2) []) 0 (0 : Int), List.getD (List.getD c (Int.toNat v1.1.2) []) 1 (0 : Int), List.getD (List.getD c (Int.toNat v1.1.2) []) 2 (0 : Int), List.getD (List.getD c (Int.toNat v1.1.2) []) 3 (0 : Int), List.getD (List.getD c (Int.toNat v1.1.2) []) 4 (0 : Int)]) ∧
 (Ob (ok (y15 (List.getD [List.getD (List.getD c (Int.toNat v1.1.2) []) 0 (0 : Int), List.getD (List.getD c (Int.toNat v1.1.2) []) 1 (0 : Int), List.getD (List.getD c (Int.toNat v1.1.2) []) 2 (0 : Int), List.getD (List.getD c (Int.toNat v1.1.2) []) 3 (0 : Int), List.getD (List.getD c (Int.toNat v1.1.2) []) 4 (0 : Int)] (Int.toNat v1.2.2.1.2) (0 : Int)))) ∧
 (Ob ((↑(ByteArray.size (v1.2.2.1.1 ++ ByteArray.mk #[(32 : UInt8)]) + ByteArray.size (val (y15 (List.getD [List.getD (List.getD c (Int.toNat v1.1.2) []) 0 (0 : Int), List.getD (List.getD c (Int.toNat v1.1.2) []) 1 (0 : Int), List.getD (List.getD c (Int.toNat v1.1.2) []) 2 (0 : Int), List.getD (List.getD c (Int.toNat v1.1.2) []) 3 (0 : Int), List.getD (List.getD c (Int.toNat v1.1.2) []) 4 (0 : Int)] (Int.toNat v1.2.2.1.2) (0 : Int))))) : Int) ≤ 9223372036854775807) ∧
  (∃ (v2 : (ByteArray × Int) × Nat × (ByteArray × Int) × Nat), (Ob (v2.2.1 + 1 = v0.2 ∧ (Option.bind (jad (y8 c v2.1) v2.2.2.2 v2.2.2.1) fun y0 => Option.bind (y9 v2.1 y0) (jck (y3 c) v2.2.1 fun y1 => Option.bind (y6 y1) some)) = some r) ∧
 (Ob (v2.2.2.2 < v1.2.2.2) ∧
 (Ob (v1.2.2.1.1 ++ ByteArray.mk #[(32 : UInt8)] ++ val (y15 (List.getD [List.getD (List.getD c (Int.toNat v1.1.2) []) 0 (0 : Int), List.getD (List.getD c (Int.toNat v1.1.2) []) 1 (0 : Int), List.getD (List.getD c (Int.toNat v1.1.2) []) 2 (0 : Int), List.getD (List.getD c (Int.toNat v1.1.2) []) 3 (0 : Int), List.getD (List.getD c (Int.toNat v1.1.2) []) 4 (0 : Int)] (Int.toNat v1.2.2.1.2) (0 : Int))) = v2.2.2.1.1) ∧
 (Ob (v1.1.2 = v2.1.2) ∧
 (Ob (wrap .i64 (v1.2.2.1.2 + 1) = v2.2.2.1.2) ∧
 (Ob (c = c) ∧
 (Ob ([List.getD (List.getD c (Int.toNat v1.1.2) []) 0 (0 : Int), List.getD (List.getD c (Int.toNat v1.1.2) []) 1 (0 : Int), List.getD (List.getD c (Int.toNat v1.1.2) []) 2 (0 : Int), List.getD (List.getD c (Int.toNat v1.1.2) []) 3 (0 : Int), List.getD (List.getD c (Int.toNat v1.1.2) []) 4 (0 : Int)] = [List.getD (List.getD c (Int.toNat v2.1.2) []) 0 (0 : Int), List.getD (List.getD c (Int.toNat v2.1.2) []) 1 (0 : Int), List.getD (List.getD c (Int.toNat v2.1.2) []) 2 (0 : Int), List.getD (List.getD c (Int.toNat v2.1.2) []) 3 (0 : Int), List.getD (List.getD c (Int.toNat v2.1.2) []) 4 (0 : Int)]) ∧
 True))))))))))))))
  ((Ob (0 ≤ v1.2.2.1.2 ∧ v1.2.2.1.2 < (↑(List.length [List.getD (List.getD c (Int.toNat v1.1.2) []) 0 (0 : Int), List.getD (List.getD c (Int.toNat v1.1.2) []) 1 (0 : Int), List.getD (List.getD c (Int.toNat v1.1.2) []) 2 (0 : Int), List.getD (List.getD c (Int.toNat v1.1.2) []) 3 (0 : Int), List.getD (List.getD c (Int.toNat v1.1.2) []) 4 (0 : Int)]) : Int)) ∧
 (Ob (Int.toNat v1.2.2.1.2 < List.length [List.getD (List.getD c (Int.toNat v1.1.2) []) 0 (0 : Int), List.getD (List.getD c (Int.toNat v1.1.2) []) 1 (0 : Int), List.getD (List.getD c (Int.toNat v1.1.2) []) 2 (0 : Int), List.getD (List.getD c (Int.toNat v1.1.2) []) 3 (0 : Int), List.getD (List.getD c (Int.toNat v1.1.2) []) 4 (0 : Int)]) ∧
 (Ob (ok (y15 (List.getD [List.getD (List.getD c (Int.toNat v1.1.2) []) 0 (0 : Int), List.getD (List.getD c (Int.toNat v1.1.2) []) 1 (0 : Int), List.getD (List.getD c (Int.toNat v1.1.2) []) 2 (0 : Int), List.getD (List.getD c (Int.toNat v1.1.2) []) 3 (0 : Int), List.getD (List.getD c (Int.toNat v1.1.2) []) 4 (0 : Int)] (Int.toNat v1.2.2.1.2) (0 : Int)))) ∧
 (Ob ((↑(ByteArray.size v1.2.2.1.1 + ByteArray.size (val (y15 (List.getD [List.getD (List.getD c (Int.toNat v1.1.2) []) 0 (0 : Int), List.getD (List.getD c (Int.toNat v1.1.2) []) 1 (0 : Int), List.getD (List.getD c (Int.toNat v1.1.2) []) 2 (0 : Int), List.getD (List.getD c (Int.toNat v1.1.2) []) 3 (0 : Int), List.getD (List.getD c (Int.toNat v1.1.2) []) 4 (0 : Int)] (Int.toNat v1.2.2.1.2) (0 : Int))))) : Int) ≤ 9223372036854775807) ∧
  (∃ (v2 : (ByteArray × Int) × Nat × (ByteArray × Int) × Nat), (Ob (v2.2.1 + 1 = v0.2 ∧ (Option.bind (jad (y8 c v2.1) v2.2.2.2 v2.2.2.1) fun y0 => Option.bind (y9 v2.1 y0) (jck (y3 c) v2.2.1 fun y1 => Option.bind (y6 y1) some)) = some r) ∧
 (Ob (v2.2.2.2 < v1.2.2.2) ∧
 (Ob (v1.2.2.1.1 ++ val (y15 (List.getD [List.getD (List.getD c (Int.toNat v1.1.2) []) 0 (0 : Int), List.getD (List.getD c (Int.toNat v1.1.2) []) 1 (0 : Int), List.getD (List.getD c (Int.toNat v1.1.2) []) 2 (0 : Int), List.getD (List.getD c (Int.toNat v1.1.2) []) 3 (0 : Int), List.getD (List.getD c (Int.toNat v1.1.2) []) 4 (0 : Int)] (Int.toNat v1.2.2.1.2) (0 : Int))) = v2.2.2.1.1) ∧
 (Ob (v1.1.2 = v2.1.2) ∧
 (Ob (wrap .i64 (v1.2.2.1.2 + 1) = v2.2.2.1.2) ∧
 (Ob (c = c) ∧
 (Ob ([List.getD (List.getD c (Int.toNat v1.1.2) []) 0 (0 : Int), List.getD (List.getD c (Int.toNat v1.1.2) []) 1 (0 : Int), List.getD (List.getD c (Int.toNat v1.1.2) []) 2 (0 : Int), List.getD (List.getD c (Int.toNat v1.1.2) []) 3 (0 : Int), List.getD (List.getD c (Int.toNat v1.1.2) []) 4 (0 : Int)] = [List.getD (List.getD c (Int.toNat v2.1.2) []) 0 (0 : Int), List.getD (List.getD c (Int.toNat v2.1.2) []) 1 (0 : Int), List.getD (List.getD c (Int.toNat v2.1.2) []) 2 (0 : Int), List.getD (List.getD c (Int.toNat v2.1.2) []) 3 (0 : Int), List.getD (List.getD c (Int.toNat v2.1.2) []) 4 (0 : Int)]) ∧
 True))))))))))))))
  ((∃ (v2 : (ByteArray × Int) × Nat), (Ob ((Option.bind (jad (y3 c) v2.2 v2.1) fun y0 => Option.bind (y6 y0) some) = some r) ∧
 (Ob (v2.2 < v0.2) ∧
 (Ob (v1.2.2.1.1 = v2.1.1) ∧
 (Ob (wrap .i64 (v1.1.2 + 1) = v2.1.2) ∧
 (Ob (c = c) ∧
 True)))))))))))))))))))))))))))
  ((Ob True ∧
 (Ob (v0.1.1 = r) ∧
 True))))))) = _) ?_
 refine ⟨⟨((ByteArray.mk #[], 0), big), ⟨jba h⟩, (by repeat' (first | exact trivial | exact ⟨rfl⟩ | refine And.intro ?_ ?_))⟩, fun z1 hz1 => ?_⟩
 obtain ⟨k1, hm1, h⟩ := jaN hz1
 refine jaD h (fun h => ?_) (fun h => ?_)
 ·refine jaD h (fun h => ?_) (fun h => ?_)
  ·refine jaj h fun h => ?_
   refine jaj h fun h => ?_
   refine jbx (p := (0 : Int) ≤ 0 ∧ 0 < (↑(3 : Nat) : Int)) (by decide) ?_
   refine jaj h fun h => ?_
   refine jaj h fun h => ?_
   refine jbx (p := (0 : Int) ≤ 1 ∧ 1 < (↑(3 : Nat) : Int)) (by decide) ?_
   refine jaj h fun h => ?_
   refine jaj h fun h => ?_
   refine jbx (p := (0 : Int) ≤ 2 ∧ 2 < (↑(3 : Nat) : Int)) (by decide) ?_
   refine jaj h fun h => ?_
   refine jaj h fun h => ?_
   refine jbx (p := (0 : Int) ≤ 0 ∧ 0 < (↑(2 : Nat) : Int)) (by decide) ?_
   refine jaj h fun h => ?_
   refine jaj h fun h => ?_
   refine jbx (p := (0 : Int) ≤ 1 ∧ 1 < (↑(2 : Nat) : Int)) (by decide) ?_
   refine jaj h fun h => ?_
   refine ⟨⟨(Prod.fst z1, k1, ((Prod.fst z1).1 ++ ByteArray.mk #[(59 : UInt8)], 0), big), ⟨⟨hm1.symm, jba h⟩⟩, (by repeat' (first | exact trivial | exact ⟨rfl⟩ | refine And.intro ?_ ?_))⟩, fun z2 hz2 => ?_⟩
   obtain ⟨k2, hm2, h⟩ := jaN hz2.2
   refine jaD h (fun h => ?_) (fun h => ?_)
   ·refine jaD h (fun h => ?_) (fun h => ?_)
    ·refine jaj h fun h => ?_
     refine jaj h fun h => ?_
     refine jaj h fun h => ?_
     refine jcp h fun h => ?_
     refine jaj h fun h => ?_
     exact ⟨(Prod.fst z2, Prod.fst (Prod.snd z2), ((Prod.fst (Prod.snd (Prod.snd z2))).1 ++ ByteArray.mk #[(32 : UInt8)] ++ val (y15 (List.getD [List.getD (List.getD c (Int.toNat (Prod.fst z2).2) []) (0 : Nat) (0 : Int), List.getD (List.getD c (Int.toNat (Prod.fst z2).2) []) (1 : Nat) (0 : Int), List.getD (List.getD c (Int.toNat (Prod.fst z2).2) []) (2 : Nat) (0 : Int), List.getD (List.getD c (Int.toNat (Prod.fst z2).2) []) (3 : Nat) (0 : Int), List.getD (List.getD c (Int.toNat (Prod.fst z2).2) []) (4 : Nat) (0 : Int)] (Int.toNat (Prod.fst (Prod.snd (Prod.snd z2))).2) (0 : Int))), wrap .i64 ((Prod.fst (Prod.snd (Prod.snd z2))).2 + 1)), k2), ⟨⟨hz2.1, jaO h⟩⟩, ⟨ja2 hm2.symm⟩, (by repeat' (first | exact trivial | exact ⟨rfl⟩ | refine And.intro ?_ ?_))⟩
    ·refine jaj h fun h => ?_
     refine jaj h fun h => ?_
     refine jcp h fun h => ?_
     refine jaj h fun h => ?_
     exact ⟨(Prod.fst z2, Prod.fst (Prod.snd z2), ((Prod.fst (Prod.snd (Prod.snd z2))).1 ++ val (y15 (List.getD [List.getD (List.getD c (Int.toNat (Prod.fst z2).2) []) (0 : Nat) (0 : Int), List.getD (List.getD c (Int.toNat (Prod.fst z2).2) []) (1 : Nat) (0 : Int), List.getD (List.getD c (Int.toNat (Prod.fst z2).2) []) (2 : Nat) (0 : Int), List.getD (List.getD c (Int.toNat (Prod.fst z2).2) []) (3 : Nat) (0 : Int), List.getD (List.getD c (Int.toNat (Prod.fst z2).2) []) (4 : Nat) (0 : Int)] (Int.toNat (Prod.fst (Prod.snd (Prod.snd z2))).2) (0 : Int))), wrap .i64 ((Prod.fst (Prod.snd (Prod.snd z2))).2 + 1)), k2), ⟨⟨hz2.1, jaO h⟩⟩, ⟨ja2 hm2.symm⟩, (by repeat' (first | exact trivial | exact ⟨rfl⟩ | refine And.intro ?_ ?_))⟩
   ·have h := jaq h
    exact ⟨(((Prod.fst (Prod.snd (Prod.snd z2))).1, wrap .i64 ((Prod.fst z2).2 + 1)), Prod.fst (Prod.snd z2)), ⟨jaO h⟩, ⟨ja2 hz2.1⟩, (by repeat' (first | exact trivial | exact ⟨rfl⟩ | refine And.intro ?_ ?_))⟩
  ·refine jaj h fun h => ?_
   refine jbx (p := (0 : Int) ≤ 0 ∧ 0 < (↑(3 : Nat) : Int)) (by decide) ?_
   refine jaj h fun h => ?_
   refine jaj h fun h => ?_
   refine jbx (p := (0 : Int) ≤ 1 ∧ 1 < (↑(3 : Nat) : Int)) (by decide) ?_
   refine jaj h fun h => ?_
   refine jaj h fun h => ?_
   refine jbx (p := (0 : Int) ≤ 2 ∧ 2 < (↑(3 : Nat) : Int)) (by decide) ?_
   refine jaj h fun h => ?_
   refine jaj h fun h => ?_
   refine jbx (p := (0 : Int) ≤ 0 ∧ 0 < (↑(2 : Nat) : Int)) (by decide) ?_
   refine jaj h fun h => ?_
   refine jaj h fun h => ?_
   refine jbx (p := (0 : Int) ≤ 1 ∧ 1 < (↑(2 : Nat) : Int)) (by decide) ?_
   refine jaj h fun h => ?_
   refine ⟨⟨(Prod.fst z1, k1, ((Prod.fst z1).1, 0), big), ⟨⟨hm1.symm, jba h⟩⟩, (by repeat' (first | exact trivial | exact ⟨rfl⟩ | refine And.intro ?_ ?_))⟩, fun z3 hz3 => ?_⟩
   obtain ⟨k3, hm3, h⟩ := jaN hz3.2
   refine jaD h (fun h => ?_) (fun h => ?_)
   ·refine jaD h (fun h => ?_) (fun h => ?_)
    ·refine jaj h fun h => ?_
     refine jaj h fun h => ?_
     refine jaj h fun h => ?_
     refine jcp h fun h => ?_
     refine jaj h fun h => ?_
     exact ⟨(Prod.fst z3, Prod.fst (Prod.snd z3), ((Prod.fst (Prod.snd (Prod.snd z3))).1 ++ ByteArray.mk #[(32 : UInt8)] ++ val (y15 (List.getD [List.getD (List.getD c (Int.toNat (Prod.fst z3).2) []) (0 : Nat) (0 : Int), List.getD (List.getD c (Int.toNat (Prod.fst z3).2) []) (1 : Nat) (0 : Int), List.getD (List.getD c (Int.toNat (Prod.fst z3).2) []) (2 : Nat) (0 : Int), List.getD (List.getD c (Int.toNat (Prod.fst z3).2) []) (3 : Nat) (0 : Int), List.getD (List.getD c (Int.toNat (Prod.fst z3).2) []) (4 : Nat) (0 : Int)] (Int.toNat (Prod.fst (Prod.snd (Prod.snd z3))).2) (0 : Int))), wrap .i64 ((Prod.fst (Prod.snd (Prod.snd z3))).2 + 1)), k3), ⟨⟨hz3.1, jaO h⟩⟩, ⟨ja2 hm3.symm⟩, (by repeat' (first | exact trivial | exact ⟨rfl⟩ | refine And.intro ?_ ?_))⟩
    ·refine jaj h fun h => ?_
     refine jaj h fun h => ?_
     refine jcp h fun h => ?_
     refine jaj h fun h => ?_
     exact ⟨(Prod.fst z3, Prod.fst (Prod.snd z3), ((Prod.fst (Prod.snd (Prod.snd z3))).1 ++ val (y15 (List.getD [List.getD (List.getD c (Int.toNat (Prod.fst z3).2) []) (0 : Nat) (0 : Int), List.getD (List.getD c (Int.toNat (Prod.fst z3).2) []) (1 : Nat) (0 : Int), List.getD (List.getD c (Int.toNat (Prod.fst z3).2) []) (2 : Nat) (0 : Int), List.getD (List.getD c (Int.toNat (Prod.fst z3).2) []) (3 : Nat) (0 : Int), List.getD (List.getD c (Int.toNat (Prod.fst z3).2) []) (4 : Nat) (0 : Int)] (Int.toNat (Prod.fst (Prod.snd (Prod.snd z3))).2) (0 : Int))), wrap .i64 ((Prod.fst (Prod.snd (Prod.snd z3))).2 + 1)), k3), ⟨⟨hz3.1, jaO h⟩⟩, ⟨ja2 hm3.symm⟩, (by repeat' (first | exact trivial | exact ⟨rfl⟩ | refine And.intro ?_ ?_))⟩
   ·have h := jaq h
    exact ⟨(((Prod.fst (Prod.snd (Prod.snd z3))).1, wrap .i64 ((Prod.fst z3).2 + 1)), Prod.fst (Prod.snd z3)), ⟨jaO h⟩, ⟨ja2 hz3.1⟩, (by repeat' (first | exact trivial | exact ⟨rfl⟩ | refine And.intro ?_ ?_))⟩
 ·have h := jaq h
  refine jae ?_
  exact jal h (fun e => by subst e; exact (by repeat' (first | exact trivial | exact ⟨rfl⟩ | refine And.intro ?_ ?_)))
theorem jgI : jah Tryz.prog 10 true (jaG y58 y48) := by
 refine jaR (sp := (sp_27 sp0)) (fn := Tryz.f10) (body := jai Tryz.f10) mixed (sp_27_ok jam) Tryz.func10 (by kernel_rfl) (by kernel_rfl) fun as_ ob rs h ho => ?_
 unfold y48 at h
 split at h
 ·rename_i c
  cases h
  exact ⟨Nat.le_of_ble_eq_true rfl, _, _, jgH c _ (ja7 ho)⟩
 ·cases h
theorem sp_10_ok {sp : jaa} (h : jac Tryz.prog sp) : jac Tryz.prog (sp_10 sp) := jax jgI h
def y63 : List (Option Cont) := [none]
def y12 (r1 : List ByteArray) (x1 : (Int × Int × Int × Int × Int × Int)) : Option ((Int × Int × Int × Int × Int × Int) ⊕ (Unit ⊕ (Int × Int × Int × Int × Int))) :=
 if x1.1 < 5 then
  if 0 ≤ x1.1 ∧ x1.1 < (↑(List.length r1) : Int) then
  if Int.toNat x1.1 < List.length r1 then
   Option.bind (y14 (List.getD r1 (Int.toNat x1.1) ByteArray.empty) (6 : Int)) fun r2 =>
   if (!r2.2) = true then
   some (.inr ((.inl ())))
   else
   if 0 ≤ x1.1 ∧ x1.1 < (↑(5 : Nat) : Int) then
    if List.getD [true, true, true, true, true] (0 + Int.toNat x1.1 * 1) false = true then
    some (.inl ((wrap .i64 (x1.1 + 1), bif Nat.beq (0 + Int.toNat x1.1 * 1) 0 then r2.1 else x1.2.1, bif Nat.beq (0 + Int.toNat x1.1 * 1) 1 then r2.1 else x1.2.2.1, bif Nat.beq (0 + Int.toNat x1.1 * 1) 2 then r2.1 else x1.2.2.2.1, bif Nat.beq (0 + Int.toNat x1.1 * 1) 3 then r2.1 else x1.2.2.2.2.1, bif Nat.beq (0 + Int.toNat x1.1 * 1) 4 then r2.1 else x1.2.2.2.2.2)))
    else none
   else none
  else none
  else none
 else
  some (.inr ((.inr (x1.2.1, x1.2.2.1, x1.2.2.2.1, x1.2.2.2.2.1, x1.2.2.2.2.2))))
def jf0 (x0 : Int × List (List Int)) (u3 : Unit) : Option ((Int × List (List Int)) ⊕ (Unit ⊕ (List (List Int)))) :=
 some (.inr ((.inl ())))
def y42 (x0 : Int × List (List Int)) (u5 : Int × Int × Int × Int × Int) : Option ((Int × List (List Int)) ⊕ (Unit ⊕ (List (List Int)))) :=
 if (List.length x0.2 + List.length [[u5.1, u5.2.1, u5.2.2.1, u5.2.2.2.1, u5.2.2.2.2]]) * 40 ≤ 140737488355328 ∧ List.length x0.2 + List.length [[u5.1, u5.2.1, u5.2.2.1, u5.2.2.2.1, u5.2.2.2.2]] ≤ 9223372036854775807 then
  some (.inl ((wrap .i64 (x0.1 + 1), x0.2 ++ [[u5.1, u5.2.1, u5.2.2.1, u5.2.2.2.1, u5.2.2.2.2]])))
 else none
def y32 (x0 : Int × List (List Int)) : (Unit ⊕ (Int × Int × Int × Int × Int)) → Option ((Int × List (List Int)) ⊕ (Unit ⊕ (List (List Int)))) :=
 (Sum.elim (jf0 x0) (y42 x0))
def y13 (r0 : List ByteArray) (x0 : (Int × List (List Int))) : Option ((Int × List (List Int)) ⊕ (Unit ⊕ (List (List Int)))) :=
 if x0.1 < (↑(List.length r0) : Int) then
  if 0 ≤ x0.1 ∧ x0.1 < (↑(List.length r0) : Int) then
  if Int.toNat x0.1 < List.length r0 then
   Option.bind (jak (List.getD r0 (Int.toNat x0.1) ByteArray.empty) (32 : Int)) fun r1 =>
   if ((↑(List.length r1) : Int) != 5) = true then
   some (.inr ((.inl ())))
   else
   Option.bind (jad (y12 r1) big (((0 : Int), 0, 0, 0, 0, 0))) (y32 x0)
  else none
  else none
 else
  some (.inr (.inr x0.2))
def jf1 (u0 : Unit) : Option (List (List Int) × Int) :=
 some (([], 7))
def y43 (u1 : List (List Int)) : Option (List (List Int) × Int) :=
 Option.bind (y17 u1) fun r3 =>
 if (r3.2 != 0) = true then
  some ([], r3.2)
 else
  some ((u1, 0))
def y16 : (Unit ⊕ (List (List Int))) → Option (List (List Int) × Int) :=
 (Sum.elim (jf1) (y43))
def y25 (s : ByteArray) : Option (List (List Int) × Int) :=
 if (s == ByteArray.mk #[]) = true then
  some (([], 0))
 else
  Option.bind (jak s (59 : Int)) fun r0 =>
  Option.bind (jad (y13 r0) big (((0 : Int), []))) (y16)
def y52 : List A → Option (Prop × List RV)
 | [.d (.s s)] => some (ok (y25 s), [.row 42 (.recs 5 ((val (y25 s)).1)), .d (.i .i64 ((val (y25 s)).2))])
 | _ => none
abbrev sp_9 : jaa → jaa := ja3 9 true (jaG y63 y52)
theorem jg2 (s : ByteArray) (r : List (List Int) × Int) (h : Option.bind (y25 s) some = some r) : jaI Tryz.f9 ((sp_25 (sp_26 (sp_12 sp0)))) (fun gs id _ => match id with
 | 0 => some ⟨(Int × List (List Int)) × Nat, fun z => ⟨[(4, .w (.c (.o 1))), (5, .w (.c (.o 2))), (6, .w (.c (.d (.i .i64 (Prod.fst (Prod.fst z))))))], [(1, .row 42 (.recs 5 (Prod.snd (Prod.fst z)))), (2, .row 9 (.strs (val (jak s (59 : Int)))))], 3⟩, fun z => Option.bind (jad (y13 (val (jak s (59 : Int)))) (Prod.snd z) (Prod.fst z)) (fun y0 => Option.bind (y16 y0) some) = some r, fun z => Prod.snd z⟩
 | 2 => some ⟨(Int × List (List Int)) × Nat × (Int × Int × Int × Int × Int × Int) × Nat, fun z => ⟨[(4, .w (.c (.o 1))), (5, .w (.c (.o 2))), (6, .w (.c (.d (.i .i64 ((Prod.fst z).1))))), (7, .w (.c (.o 3))), (8, .w (.c (.p 4 0 1 0))), (9, .w (.c (.d (.i .i64 (Prod.fst (Prod.fst (Prod.snd (Prod.snd z))))))))], [(1, .row 42 (.recs 5 ((Prod.fst z).2))), (2, .row 9 (.strs (val (jak s (59 : Int))))), (3, .row 9 (.strs (val (jak (List.getD (val (jak s (59 : Int))) (Int.toNat (Prod.fst z).1) ByteArray.empty) (32 : Int))))), (4, .box 65 [.d (.i .i64 (Prod.fst (Prod.snd (Prod.fst (Prod.snd (Prod.snd z)))))), .d (.i .i64 (Prod.fst (Prod.snd (Prod.snd (Prod.fst (Prod.snd (Prod.snd z))))))), .d (.i .i64 (Prod.fst (Prod.snd (Prod.snd (Prod.snd (Prod.fst (Prod.snd (Prod.snd z)))))))), .d (.i .i64 (Prod.fst (Prod.snd (Prod.snd (Prod.snd (Prod.snd (Prod.fst (Prod.snd (Prod.snd z))))))))), .d (.i .i64 (Prod.snd (Prod.snd (Prod.snd (Prod.snd (Prod.snd (Prod.fst (Prod.snd (Prod.snd z)))))))))])], 5⟩, fun z => Prod.fst (Prod.snd z) + 1 = gs.getD 0 0 ∧ Option.bind (jad (y12 (val (jak (List.getD (val (jak s (59 : Int))) (Int.toNat (Prod.fst z).1) ByteArray.empty) (32 : Int)))) (Prod.snd (Prod.snd (Prod.snd z))) (Prod.fst (Prod.snd (Prod.snd z)))) (fun y0 => Option.bind (y32 (Prod.fst z) y0) (jck (y13 (val (jak s (59 : Int)))) (Prod.fst (Prod.snd z)) (fun y1 => Option.bind (y16 y1) some))) = some r, fun z => Prod.snd (Prod.snd (Prod.snd z))⟩
 | _ => none) [.d (.s s)] [.row 42 (.recs 5 r.1), .d (.i .i64 r.2)] := by
 refine Eq.mp (by kernel_rfl : (
 Br (s == ByteArray.mk #[])
  ((Ob True ∧
 (Ob True ∧
 (Ob (List.length r.1 = (0 : Nat)) ∧
 (Ob ((0 : Int) = r.2) ∧
 True)))))
  ((Ob (ok (jak s (59 : Int))) ∧
  ((∃ (v0 : (Int × List (List Int)) × Nat), (Ob ((Option.bind (jad (y13 (val (jak s (59 : Int)))) v0.2 v0.1) fun y0 => Option.bind (y16 y0) some) = some r) ∧
 (Ob ((0 : Int) = v0.1.1) ∧
 (Ob (List.length v0.1.2 = (0 : Nat)) ∧
 (Ob (val (jak s (59 : Int)) = val (jak s (59 : Int))) ∧
 True))))) ∧
  (∀ (v0 : (Int × List (List Int)) × Nat), ((Option.bind (jad (y13 (val (jak s (59 : Int)))) v0.2 v0.1) fun y0 => Option.bind (y16 y0) some) = some r →
 Br (decide (v0.1.1 < (↑(List.length (val (jak s (59 : Int)))) : Int)))
  ((Ob (0 ≤ v0.1.1 ∧ v0.1.1 < (↑(List.length (val (jak s (59 : Int)))) : Int)) ∧
 (Ob (Int.toNat v0.1.1 < List.length (val (jak s (59 : Int)))) ∧
 (Ob (ok (jak (List.getD (val (jak s (59 : Int))) (Int.toNat v0.1.1) ByteArray.empty) (32 : Int))) ∧
 Br ((↑(List.length (val (jak (List.getD (val (jak s (59 : Int))) (Int.toNat v0.1.1) ByteArray.empty) (32 : Int)))) : Int) != 5)
  ((Ob True ∧
 (Ob True ∧
 (Ob (List.length r.1 = (0 : Nat)) ∧
 (Ob ((7 : Int) = r.2) ∧
 True)))))
  (((∃ (v1 : (Int × List (List Int)) × Nat × (Int × Int × Int × Int × Int × Int) × Nat), (Ob (v1.2.1 + 1 = v0.2 ∧ (Option.bind (jad (y12 (val (jak (List.getD (val (jak s (59 : Int))) (Int.toNat v1.1.1) ByteArray.empty) (32 : Int)))) v1.2.2.2 v1.2.2.1) fun y0 => Option.bind (y32 v1.1 y0) (jck (y13 (val (jak s (59 : Int)))) v1.2.1 fun y1 => Option.bind (y16 y1) some)) = some r) ∧
 (Ob (v0.1.1 = v1.1.1) ∧
 (Ob (0 = 0) ∧
 (Ob ((0 : Int) = v1.2.2.1.1) ∧
 (Ob (v0.1.2 = v1.1.2) ∧
 (Ob (val (jak s (59 : Int)) = val (jak s (59 : Int))) ∧
 (Ob (val (jak (List.getD (val (jak s (59 : Int))) (Int.toNat v0.1.1) ByteArray.empty) (32 : Int)) = val (jak (List.getD (val (jak s (59 : Int))) (Int.toNat v1.1.1) ByteArray.empty) (32 : Int))) ∧
 (Ob ((0 : Int) = v1.2.2.1.2.1) ∧
 (Ob ((0 : Int) = v1.2.2.1.2.2.1) ∧
 (Ob ((0 : Int) = v1.2.2.1.2.2.2.1) ∧
 (Ob ((0 : Int) = v1.2.2.1.2.2.2.2.1) ∧
 (Ob ((0 : Int) = v1.2.2.1.2.2.2.2.2) ∧
 True))))))))))))) ∧
  (∀ (v1 : (Int × List (List Int)) × Nat × (Int × Int × Int × Int × Int × Int) × Nat), (v1.2.1 + 1 = v0.2 ∧ (Option.bind (jad (y12 (val (jak (List.getD (val (jak s (59 : Int))) (Int.toNat v1.1.1) ByteArray.empty) (32 : Int)))) v1.2.2.2 v1.2.2.1) fun y0 => Option.bind (y32 v1.1 y0) (jck (y13 (val (jak s (59 : Int)))) v1.2.1 fun y1 => Option.bind (y16 y1) some)) = some r →
 Br (decide (v1.2.2.1.1 < 5))
  ((Ob (0 ≤ v1.2.2.1.1 ∧ v1.2.2.1.1 < (↑(List.length (val (jak (List.getD (val (jak s (59 : Int))) (Int.toNat v1.1.1) ByteArray.empty) (32 : Int)))) : Int)) ∧
 (Ob (Int.toNat v1.2.2.1.1 < List.length (val (jak (List.getD (val (jak s (59 : Int))) (Int.toNat v1.1.1) ByteArray.empty) (32 : Int)))) ∧
 (Ob (ok (y14 (List.getD (val (jak (List.getD (val (jak s (59 : Int))) (Int.toNat v1.1.1) ByteArray.empty) (32 : Int))) (Int.toNat v1.2.2.1.1) ByteArray.empty) (6 : Int))) ∧
 Br (!(val (y14 (List.getD (val (jak (List.getD (val (jak s (59 : Int))) (Int.toNat v1.1.1) ByteArray.empty) (32 : Int))) (Int.toNat v1.2.2.1.1) ByteArray.empty) (6 : Int))).2)
  ((Ob True ∧
 (Ob True ∧
 (Ob (List.length r.1 = (0 : Nat)) ∧
 (Ob ((7 : Int) = r.2) ∧
 True)))))
  ((Ob (0 ≤ v1.2.2.1.1 ∧ v1.2.2.1.1 < (↑(5 : Nat) : Int)) ∧
 (Ob (List.getD [true, true, true, true, true] (0 + Int.toNat v1.2.2.1.1 * 1) false = true) ∧
  (∃ (v2 : (Int × List (List Int)) × Nat × (Int × Int × Int × Int × Int × Int) × Nat), (Ob (v2.2.1 + 1 = v0.2 ∧ (Option.bind (jad (y12 (val (jak (List.getD (val (jak s (59 : Int))) (Int.toNat v2.1.1) ByteArray.empty) (32 : Int)))) v2.2.2.2 v2.2.2.1) fun y0 => Option.bind (y32 v2.1 y0) (jck (y13 (val (jak s (59 : Int)))) v2.2.1 fun y1 => Option.bind (y16 y1) some)) = some r) ∧
 (Ob (v2.2.2.2 < v1.2.2.2) ∧
 (Ob (v1.1.1 = v2.1.1) ∧
 (Ob (0 = 0) ∧
 (Ob (wrap .i64 (v1.2.2.1.1 + 1) = v2.2.2.1.1) ∧
 (Ob (v1.1.2 = v2.1.2) ∧
 (Ob (val (jak s (59 : Int)) = val (jak s (59 : Int))) ∧
 (Ob (val (jak (List.getD (val (jak s (59 : Int))) (Int.toNat v1.1.1) ByteArray.empty) (32 : Int)) = val (jak (List.getD (val (jak s (59 : Int))) (Int.toNat v2.1.1) ByteArray.empty) (32 : Int))) ∧
 (Ob ((bif Nat.beq (0 + Int.toNat v1.2.2.1.1 * 1) 0 then (val (y14 (List.getD (val (jak (List.getD (val (jak s (59 : Int))) (Int.toNat v1.1.1) ByteArray.empty) (32 : Int))) (Int.toNat v1.2.2.1.1) ByteArray.empty) (6 : Int))).1 else v1.2.2.1.2.1) = v2.2.2.1.2.1) ∧
 (Ob ((bif Nat.beq (0 + Int.toNat v1.2.2.1.1 * 1) 1 then (val (y14 (List.getD (val (jak (List.getD (val (jak s (59 : Int))) (Int.toNat v1.1.1) ByteArray.empty) (32 : Int))) (Int.toNat v1.2.2.1.1) ByteArray.empty) (6 : Int))).1 else v1.2.2.1.2.2.1) = v2.2.2.1.2.2.1) ∧
 (Ob ((bif Nat.beq (0 + Int.toNat v1.2.2.1.1 * 1) 2 then (val (y14 (List.getD (val (jak (List.getD (val (jak s (59 : Int))) (Int.toNat v1.1.1) ByteArray.empty) (32 : Int))) (Int.toNat v1.2.2.1.1) ByteArray.empty) (6 : Int))).1 else v1.2.2.1.2.2.2.1) = v2.2.2.1.2.2.2.1) ∧
 (Ob ((bif Nat.beq (0 + Int.toNat v1.2.2.1.1 * 1) 3 then (val (y14 (List.getD (val (jak (List.getD (val (jak s (59 : Int))) (Int.toNat v1.1.1) ByteArray.empty) (32 : Int))) (Int.toNat v1.2.2.1.1) ByteArray.empty) (6 : Int))).1 else v1.2.2.1.2.2.2.2.1) = v2.2.2.1.2.2.2.2.1) ∧
 (Ob ((bif Nat.beq (0 + Int.toNat v1.2.2.1.1 * 1) 4 then (val (y14 (List.getD (val (jak (List.getD (val (jak s (59 : Int))) (Int.toNat v1.1.1) ByteArray.empty) (32 : Int))) (Int.toNat v1.2.2.1.1) ByteArray.empty) (6 : Int))).1 else v1.2.2.1.2.2.2.2.2) = v2.2.2.1.2.2.2.2.2) ∧
 True)))))))))))))))))))))
  ((Ob ((0 : Int) ≤ 0 ∧ 0 < (↑(5 : Nat) : Int)) ∧
 (Ob ((0 : Int) ≤ 1 ∧ 1 < (↑(5 : Nat) : Int)) ∧
 (Ob ((0 : Int) ≤ 2 ∧ 2 < (↑(5 : Nat) : Int)) ∧
 (Ob ((0 : Int) ≤ 3 ∧ 3 < (↑(5 : Nat) : Int)) ∧
 (Ob ((0 : Int) ≤ 4 ∧ 4 < (↑(5 : Nat) : Int)) ∧
 (Ob ((List.length v1.1.2 + List.length [[v1.2.2.1.2.1, v1.2.2.1.2.2.1, v1.2.2.1.2.2.2.1, v1.2.2.1.2.2.2.2.1, v1.2.2.1.2.2.2.2.2]]) * 40 ≤ 140737488355328 ∧ List.length v1.1.2 + List.length [[v1.2.2.1.2.1, v1.2.2.1.2.2.1, v1.2.2.1.2.2.2.1, v1.2.2.1.2.2.2.2.1, v1.2.2.1.2.2.2.2.2]] ≤ 9223372036854775807) ∧
  (∃ (v2 : (Int × List (List Int)) × Nat), (Ob ((Option.bind (jad (y13 (val (jak s (59 : Int)))) v2.2 v2.1) fun y0 => Option.bind (y16 y0) some) = some r) ∧
 (Ob (v2.2 < v0.2) ∧
 (Ob (wrap .i64 (v1.1.1 + 1) = v2.1.1) ∧
 (Ob (v1.1.2 ++ [[v1.2.2.1.2.1, v1.2.2.1.2.2.1, v1.2.2.1.2.2.2.1, v1.2.2.1.2.2.2.2.1, v1.2.2.1.2.2.2.2.2]] = v2.1.2) ∧
 (Ob (val (jak s (59 : Int)) = val (jak s (59 : Int))) ∧
 True)))))))))))))))))))))
  ((Ob (ok (y17 v0.1.2)) ∧
 Br ((val (y17 v0.1.2)).2 != 0)
  ((Ob True ∧
 (Ob True ∧
 (Ob (List.length r.1 = (0 : Nat)) ∧
 (Ob ((val (y17 v0.1.2)).2 = r.2) ∧
 True)))))
  ((Ob True ∧
 (Ob True ∧
 (Ob (v0.1.2 = r.1) ∧
 (Ob ((0 : Int) = r.2) ∧
 True))))))))))))) = _) ?_
 refine jbd h (fun h => ?_) (fun h => ?_)
 ·refine jae ?_
  refine jae ?_
  exact jal h (fun e => by subst e; exact (by repeat' (first | exact trivial | exact ⟨rfl⟩ | refine And.intro ?_ ?_)))
 ·refine jcp h fun h => ?_
  refine ⟨⟨(((0 : Int), []), big), ⟨jba h⟩, (by repeat' (first | exact trivial | exact ⟨rfl⟩ | refine And.intro ?_ ?_))⟩, fun z4 hz4 => ?_⟩
  obtain ⟨k4, hm4, h⟩ := jaN hz4
  refine jaD h (fun h => ?_) (fun h => ?_)
  ·refine jaj h fun h => ?_
   refine jaj h fun h => ?_
   refine jcp h fun h => ?_
   refine jbd h (fun h => ?_) (fun h => ?_)
   ·have h := jaq h
    refine jae ?_
    refine jae ?_
    exact jal h (fun e => by subst e; exact (by repeat' (first | exact trivial | exact ⟨rfl⟩ | refine And.intro ?_ ?_)))
   ·refine ⟨⟨(Prod.fst z4, k4, ((0 : Int), 0, 0, 0, 0, 0), big), ⟨⟨hm4.symm, jba h⟩⟩, (by repeat' (first | exact trivial | exact ⟨rfl⟩ | refine And.intro ?_ ?_))⟩, fun z5 hz5 => ?_⟩
    obtain ⟨k5, hm5, h⟩ := jaN hz5.2
    refine jaD h (fun h => ?_) (fun h => ?_)
    ·refine jaj h fun h => ?_
     refine jaj h fun h => ?_
     refine jcp h fun h => ?_
     refine jbd h (fun h => ?_) (fun h => ?_)
     ·have h := jaq h
      have h := jaq h
      refine jae ?_
      refine jae ?_
      exact jal h (fun e => by subst e; exact (by repeat' (first | exact trivial | exact ⟨rfl⟩ | refine And.intro ?_ ?_)))
     ·refine jaj h fun h => ?_
      refine jaj h fun h => ?_
      exact ⟨(Prod.fst z5, Prod.fst (Prod.snd z5), (wrap .i64 ((Prod.fst (Prod.snd (Prod.snd z5))).1 + 1), bif Nat.beq (0 + Int.toNat (Prod.fst (Prod.snd (Prod.snd z5))).1 * 1) (0 : Nat) then (val (y14 (List.getD (val (jak (List.getD (val (jak s (59 : Int))) (Int.toNat (Prod.fst z5).1) ByteArray.empty) (32 : Int))) (Int.toNat (Prod.fst (Prod.snd (Prod.snd z5))).1) ByteArray.empty) (6 : Int))).1 else (Prod.fst (Prod.snd (Prod.snd z5))).2.1, bif Nat.beq (0 + Int.toNat (Prod.fst (Prod.snd (Prod.snd z5))).1 * 1) (1 : Nat) then (val (y14 (List.getD (val (jak (List.getD (val (jak s (59 : Int))) (Int.toNat (Prod.fst z5).1) ByteArray.empty) (32 : Int))) (Int.toNat (Prod.fst (Prod.snd (Prod.snd z5))).1) ByteArray.empty) (6 : Int))).1 else (Prod.fst (Prod.snd (Prod.snd z5))).2.2.1, bif Nat.beq (0 + Int.toNat (Prod.fst (Prod.snd (Prod.snd z5))).1 * 1) (2 : Nat) then (val (y14 (List.getD (val (jak (List.getD (val (jak s (59 : Int))) (Int.toNat (Prod.fst z5).1) ByteArray.empty) (32 : Int))) (Int.toNat (Prod.fst (Prod.snd (Prod.snd z5))).1) ByteArray.empty) (6 : Int))).1 else (Prod.fst (Prod.snd (Prod.snd z5))).2.2.2.1, bif Nat.beq (0 + Int.toNat (Prod.fst (Prod.snd (Prod.snd z5))).1 * 1) (3 : Nat) then (val (y14 (List.getD (val (jak (List.getD (val (jak s (59 : Int))) (Int.toNat (Prod.fst z5).1) ByteArray.empty) (32 : Int))) (Int.toNat (Prod.fst (Prod.snd (Prod.snd z5))).1) ByteArray.empty) (6 : Int))).1 else (Prod.fst (Prod.snd (Prod.snd z5))).2.2.2.2.1, bif Nat.beq (0 + Int.toNat (Prod.fst (Prod.snd (Prod.snd z5))).1 * 1) (4 : Nat) then (val (y14 (List.getD (val (jak (List.getD (val (jak s (59 : Int))) (Int.toNat (Prod.fst z5).1) ByteArray.empty) (32 : Int))) (Int.toNat (Prod.fst (Prod.snd (Prod.snd z5))).1) ByteArray.empty) (6 : Int))).1 else (Prod.fst (Prod.snd (Prod.snd z5))).2.2.2.2.2), k5), ⟨⟨hz5.1, jaO h⟩⟩, ⟨ja2 hm5.symm⟩, (by repeat' (first | exact trivial | exact ⟨rfl⟩ | refine And.intro ?_ ?_))⟩
    ·have h := jaq h
     refine jbx (p := (0 : Int) ≤ 0 ∧ 0 < (↑(5 : Nat) : Int)) (by decide) ?_
     refine jbx (p := (0 : Int) ≤ 1 ∧ 1 < (↑(5 : Nat) : Int)) (by decide) ?_
     refine jbx (p := (0 : Int) ≤ 2 ∧ 2 < (↑(5 : Nat) : Int)) (by decide) ?_
     refine jbx (p := (0 : Int) ≤ 3 ∧ 3 < (↑(5 : Nat) : Int)) (by decide) ?_
     refine jbx (p := (0 : Int) ≤ 4 ∧ 4 < (↑(5 : Nat) : Int)) (by decide) ?_
     refine jaj h fun h => ?_
     exact ⟨((wrap .i64 ((Prod.fst z5).1 + 1), (Prod.fst z5).2 ++ [[((Prod.fst (Prod.snd (Prod.snd z5))).2.1, (Prod.fst (Prod.snd (Prod.snd z5))).2.2.1, (Prod.fst (Prod.snd (Prod.snd z5))).2.2.2.1, (Prod.fst (Prod.snd (Prod.snd z5))).2.2.2.2.1, (Prod.fst (Prod.snd (Prod.snd z5))).2.2.2.2.2).1, ((Prod.fst (Prod.snd (Prod.snd z5))).2.1, (Prod.fst (Prod.snd (Prod.snd z5))).2.2.1, (Prod.fst (Prod.snd (Prod.snd z5))).2.2.2.1, (Prod.fst (Prod.snd (Prod.snd z5))).2.2.2.2.1, (Prod.fst (Prod.snd (Prod.snd z5))).2.2.2.2.2).2.1, ((Prod.fst (Prod.snd (Prod.snd z5))).2.1, (Prod.fst (Prod.snd (Prod.snd z5))).2.2.1, (Prod.fst (Prod.snd (Prod.snd z5))).2.2.2.1, (Prod.fst (Prod.snd (Prod.snd z5))).2.2.2.2.1, (Prod.fst (Prod.snd (Prod.snd z5))).2.2.2.2.2).2.2.1, ((Prod.fst (Prod.snd (Prod.snd z5))).2.1, (Prod.fst (Prod.snd (Prod.snd z5))).2.2.1, (Prod.fst (Prod.snd (Prod.snd z5))).2.2.2.1, (Prod.fst (Prod.snd (Prod.snd z5))).2.2.2.2.1, (Prod.fst (Prod.snd (Prod.snd z5))).2.2.2.2.2).2.2.2.1, ((Prod.fst (Prod.snd (Prod.snd z5))).2.1, (Prod.fst (Prod.snd (Prod.snd z5))).2.2.1, (Prod.fst (Prod.snd (Prod.snd z5))).2.2.2.1, (Prod.fst (Prod.snd (Prod.snd z5))).2.2.2.2.1, (Prod.fst (Prod.snd (Prod.snd z5))).2.2.2.2.2).2.2.2.2]]), Prod.fst (Prod.snd z5)), ⟨jaO h⟩, ⟨ja2 hz5.1⟩, (by repeat' (first | exact trivial | exact ⟨rfl⟩ | refine And.intro ?_ ?_))⟩
  ·have h := jaq h
   refine jcp h fun h => ?_
   refine jbd h (fun h => ?_) (fun h => ?_)
   ·refine jae ?_
    refine jae ?_
    exact jal h (fun e => by subst e; exact (by repeat' (first | exact trivial | exact ⟨rfl⟩ | refine And.intro ?_ ?_)))
   ·refine jae ?_
    refine jae ?_
    exact jal h (fun e => by subst e; exact (by repeat' (first | exact trivial | exact ⟨rfl⟩ | refine And.intro ?_ ?_)))
theorem jg3 : jah Tryz.prog 9 true (jaG y63 y52) := by
 refine jaR (sp := (sp_25 (sp_26 (sp_12 sp0)))) (fn := Tryz.f9) (body := jai Tryz.f9) mixed (sp_25_ok (sp_26_ok (sp_12_ok jam))) Tryz.func9 (by kernel_rfl) (by kernel_rfl) fun as_ ob rs h ho => ?_
 unfold y52 at h
 split at h
 ·rename_i s
  cases h
  exact ⟨Nat.le_of_ble_eq_true rfl, _, _, jg2 s _ (ja7 ho)⟩
 ·cases h
theorem sp_9_ok {sp : jaa} (h : jac Tryz.prog sp) : jac Tryz.prog (sp_9 sp) := jax jg3 h
end Go.Sh
end

section
open Go.RowKit
namespace Go.Sx
def jfn (o : Oper) : Bool := match o.op with
 | .defer _ => false
 | _ => true
theorem jos {o : Oper} (h : jfn o = true) : ∀ c, o.op ≠ .defer c := fun c e => by
 unfold jfn at h
 rw [e] at h
 cases h
section
variable {P : Program} {l n : Nat} {a : Act} {w : World} {Q : Exit → Act → World → Prop}
theorem Oper.wpIn_of_wp {o : Oper} {K K' : Act → World → Prop} (hd : jfn o = true) (hK : ∀ a w, K a w → K' a w) (h : o.wp P a w K Q) : o.wpIn (Fence.wide.inRound l) n P a w K' Q := by
 refine ⟨fun _ _ => trivial, ?_⟩
 have hs : o.semAt (some l) a.eval = execOp a.eval o := Oper.semAt_some l a.eval o (jos hd)
 show o.uponIn (Fence.wide.inRound l) n P a K' Q ((o.semAt (some l) a.eval).run P w)
 rw [hs]
 unfold Oper.wp at h
 generalize (execOp a.eval o).run P w = r at *
 cases r with
 | ok x w' =>
  cases x with
  | value v => exact hK _ _ h
  | skip => exact hK _ _ h
  | defer d => exact hK _ _ h
  | enter f args =>
   refine ⟨fun h => (by cases h), CallsIn.inRound l (callsIn_wide.2 (Calls.mono (show Calls P f args w' _ from h) ?_))⟩
   intro e w'' he
   cases e with
   | returned v => exact hK _ _ he
   | panicked ch => exact he
   | outgrown => exact he
  | row r args =>
   refine ⟨fun h => (by cases h), ?_⟩
   intro c cs _
   obtain ⟨v, w'', hr, hst⟩ := h c cs
   exact ⟨v, w'', hK _ _ hr, (stepsIn_wide (P := P)).2 hst⟩
  | _ => exact h.elim
 | halt x w' =>
  cases x with
  | panic v => exact h
  | _ => exact h.elim
theorem jfG {ops : Array Oper} (hlo : ¬ LetsOut Q) : ∀ (os : List Oper) (a : Act) (w : World), os.all jfn = true → wpList P ops Q os a w → wpListIn (Fence.wide.inRound l) n P ops Q os a w
 | [], _, _, _, h => h
 | o :: r, a, w, hd, h => by
  simp only [List.all_cons, Bool.and_eq_true] at hd
  unfold wpList at h
  unfold wpListIn
  split at h
  ·rename_i hw
   rw [if_pos hw]
   rcases h with h | h
   ·exact Oper.wpIn_of_wp hd.1 (fun a w => jfG hlo r a w hd.2) h
   ·exact absurd h.2 hlo
  ·rename_i hw
   rw [if_neg hw]
   exact ⟨fun _ _ => trivial, jfG hlo r _ _ hd.2 h⟩
theorem jeG {ops : Array Oper} (hlo : ¬ LetsOut Q) (hd : ops.toList.all jfn = true) : ∀ (f : Nat) (b : Array Bool) (a : Act) (w : World), wpAny P .any ops Q f b a w → wpAnyIn (Fence.wide.inRound l) n P .any ops Q f b a w
 | 0, _, _, _, h => h
 | f + 1, b, a, w, h => by
  refine ⟨h.1, fun i hi => ?_⟩
  have h2 := h.2 i hi
  unfold wpOp at h2
  unfold wpOpIn
  cases ho : ops[i]? with
  | none =>
   rw [ho] at h2
   exact jeG hlo hd f _ a w h2
  | some o =>
   rw [ho] at h2
   dsimp only at h2 ⊢
   have hod : jfn o = true := List.all_eq_true.1 hd o (by
    have := List.mem_of_getElem? (l := ops.toList) (i := i) (a := o) (by simpa using ho)
    exact this)
   split at h2
   ·rename_i hw
    rw [if_pos hw]
    rcases h2 with h2 | h2
    ·exact Oper.wpIn_of_wp hod (fun a w => jeG hlo hd f _ a w) h2
    ·exact absurd h2.2 hlo
   ·rename_i hw
    rw [if_neg hw]
    exact ⟨fun _ _ => trivial, jeG hlo hd f _ _ _ h2⟩
end
def jcV : Code → Bool
 | .skip => true
 | .label _ => true
 | .region _ ops _ => ops.toList.all jfn
 | .seq x y => jcV x && jcV y
 | .cond _ x y => jcV x && jcV y
 | .block _ c => jcV c
 | .exit _ => true
 | .ret => true
 | _ => false
section
variable [Globs] {P : Program} {sp : jaa} {B : Bd} {N n0 : Nat} {ρ0 : Env} {w0 : World} {ds : List Deferred}
theorem jnv {k : Ex → St → Prop} : ¬ LetsOut (Qx ds ρ0 B N n0 w0 k) := by
 rintro ⟨a, w, x, ρ', st', he, _⟩
 cases x <;> cases he
theorem jcD {l n fuel : Nat} {loops : jfc} (hm : P.follows .mixedOrders = true) (hsp : jac P sp) :
  ∀ (c : Code) (cur : Nat) (gs : List Nat) (st : St) (k : Ex → St → Prop) (ρ : Env) (a : Act) (w : World), jcV c = true → sx P sp N n0 fuel loops (jcx P sp N) c cur gs st k → RelD ds ρ B N n0 st a w → jaf n0 ρ0 ρ → Bel B w0 w →
   c.wpIn (Fence.wide.inRound l) n P (Qx ds ρ0 B N n0 w0 k) a w
 | .skip, _, _, st, k, ρ, a, w, _, h, hr, hag, hbl => wpIn_skip ⟨.normal, ρ, st, rfl, h, hr, hag, hbl⟩
 | .label _, _, _, st, k, ρ, a, w, _, h, hr, hag, hbl => wpIn_label ⟨.normal, ρ, st, rfl, h, hr, hag, hbl⟩
 | .region id ops draw, _, _, st, k, ρ, a, w, hst, h, hr, hag, hbl => by
  unfold sx at h
  have hd : ops.toList.all jfn = true := hst
  cases draw with
  | false =>
   refine wpIn_region_list (jfG jnv ops.toList a w hd ?_)
   have := jgh (P := P) (Q := Qx ds ρ0 B N n0 w0 k) (k := fun st' => k .normal st') (all := ops.toList) hsp (fun ρ' st' a' w' h1 h2 h3 h4 => ⟨.normal, ρ', st', rfl, h4, h1, h2, h3⟩) ops.toList ρ st a w hr hag hbl h
   simpa using this
  | true => exact wpIn_region_any hm (jeG jnv hd _ _ _ _ (jjH (Q := Qx ds ρ0 B N n0 w0 k) hm hsp (fun c a w ⟨x, _, _, he, _⟩ => by cases x <;> cases he) h hr hag hbl (fun ρ' st' a' w' h1 h2 h3 h4 => ⟨.normal, ρ', st', rfl, h4, h1, h2, h3⟩)))
 | .seq x y, cur, gs, st, k, ρ, a, w, hst, h, hr, hag, hbl => by
  unfold sx at h
  simp only [jcV, Bool.and_eq_true] at hst
  refine wpIn_seq (wpIn_mono (jcD hm hsp x cur gs st _ ρ a w hst.1 h hr hag hbl) ?_)
  rintro e a' w' ⟨ex, ρ', st', rfl, hk, hr', hag', hbl'⟩
  cases ex with
  | normal => exact jcD hm hsp y cur gs st' k ρ' a' w' hst.2 hk hr' hag' hbl'
  | exit j => exact ⟨.exit j, ρ', st', rfl, hk, hr', hag', hbl'⟩
  | ret => exact ⟨.ret, ρ', st', rfl, hk, hr', hag', hbl'⟩
 | .cond c x y, cur, gs, st, k, ρ, a, w, hst, h, hr, hag, hbl => by
  unfold sx at h
  simp only [jcV, Bool.and_eq_true] at hst
  split at h
  ·rename_i b hb
   have he := jkK hr hb
   cases b with
   | true => exact wpIn_cond_true he (jcD hm hsp x cur gs st k ρ a w hst.1 h hr hag hbl)
   | false => exact wpIn_cond_false he (jcD hm hsp y cur gs st k ρ a w hst.2 h hr hag hbl)
  ·exact h.elim
 | .block id c, _, gs, st, k, ρ, a, w, hst, h, hr, hag, hbl => by
  unfold sx at h
  refine wpIn_block (wpIn_mono (jcD hm hsp c id gs st _ ρ a w hst h hr hag hbl) ?_)
  rintro e a' w' ⟨ex, ρ', st', rfl, hk, hr', hag', hbl'⟩
  cases ex with
  | normal => exact ⟨.normal, ρ', st', rfl, hk, hr', hag', hbl'⟩
  | exit j =>
   simp only [Ex.toExit, Exit.inBlock]
   dsimp only at hk
   split
   ·rename_i e
    rw [if_pos e] at hk
    exact ⟨.normal, ρ', st', rfl, hk, hr', hag', hbl'⟩
   ·rename_i e
    rw [if_neg e] at hk
    exact ⟨.exit j, ρ', st', rfl, hk, hr', hag', hbl'⟩
  | ret => exact ⟨.ret, ρ', st', rfl, hk, hr', hag', hbl'⟩
 | .exit j, _, _, st, k, ρ, a, w, _, h, hr, hag, hbl => wpIn_exit ⟨.exit j, ρ, st, rfl, h, hr, hag, hbl⟩
 | .ret, _, _, st, k, ρ, a, w, _, h, hr, hag, hbl => wpIn_ret ⟨.ret, ρ, st, rfl, h, hr, hag, hbl⟩
 | .loop _, _, _, _, _, _, _, _, hst, _, _, _, _ => by cases hst
 | .goto _, _, _, _, _, _, _, _, hst, _, _, _, _ => by cases hst
 | .rangeFunc _ _ _ _, _, _, _, _, _, _, _, hst, _, _, _, _ => by cases hst
end
def jhP : Nat → Code → Code
 | 0, _ => .skip
 | n + 1, .seq x y => .seq x (jhP n y)
 | _ + 1, c => c
def jj7 : Nat → Code → Code
 | 0, c => c
 | n + 1, .seq _ y => jj7 n y
 | _ + 1, _ => .skip
def jpq : Nat → Code → Bool
 | 0, _ => true
 | n + 1, .seq _ y => jpq n y
 | _ + 1, _ => false
section
variable [Globs] {P : Program} {sp : jaa} {B : Bd} {N n0 : Nat} {ρ0 : Env} {w0 : World} {ds : List Deferred}
theorem jkC {fuel : Nat} {loops : jfc} {drawn : Array Oper → St → (St → Prop) → Prop} (hsp : jac P sp) (hdr : jh7 P B N n0 ρ0 w0 drawn) {Q : Exit → Act → World → Prop} {k : Ex → St → Prop} :
  ∀ (m : Nat) (c : Code) (cur : Nat) (gs : List Nat) (st : St) (ρ : Env) (a : Act) (w : World), jpq m c = true → sx P sp N n0 fuel loops drawn (jhP m c) cur gs st k → RelD ds ρ B N n0 st a w → jaf n0 ρ0 ρ → Bel B w0 w →
   (∀ ρ' st' a' w', k .normal st' → RelD ds ρ' B N n0 st' a' w' → jaf n0 ρ0 ρ' → Bel B w0 w' → (jj7 m c).wp P Q a' w') →
   (∀ ex ρ' st' a' w', ex ≠ .normal → k ex st' → RelD ds ρ' B N n0 st' a' w' → jaf n0 ρ0 ρ' → Bel B w0 w' → Q ex.toExit a' w') → c.wp P Q a w
 | 0, c, _, _, st, ρ, a, w, _, h, hr, hag, hbl, hn, _ => hn ρ st a w h hr hag hbl
 | m + 1, .seq x y, cur, gs, st, ρ, a, w, hs, h, hr, hag, hbl, hn, he => by
  simp only [jhP] at h
  unfold sx at h
  refine wp_seq (wp_mono (jbB hsp hdr x cur gs st _ ρ a w h hr hag hbl) ?_)
  rintro e a' w' ⟨ex, ρ', st', rfl, hk, hr', hag', hbl'⟩
  cases ex with
  | normal => exact jkC hsp hdr m y cur gs st' ρ' a' w' hs hk hr' hag' hbl' hn he
  | exit j => exact he (.exit j) ρ' st' a' w' (by simp) hk hr' hag' hbl'
  | ret => exact he .ret ρ' st' a' w' (by simp) hk hr' hag' hbl'
end
section
variable [Globs] {ρ : Env} {B B2 : Bd} {hp : Hp} {nx : Nat} {w w' : World}
theorem O.ok_moreB {h : Nat} (hs : ∀ k, B k → B2 k) : ∀ {o : O}, o.ok ρ B w h → (∀ k, o.blk (ρ h) = some k → ¬ B2 k) → o.ok ρ B2 w h
 | .box _ _, ⟨k, h1, h2, h3⟩, hn => ⟨k, h1, hn k (by simp [O.blk, h1, base]), h3⟩
 | .row _ _, ⟨hr, _⟩, hn => ⟨hr, fun k hk => hn k hk⟩
 | .ext _, ⟨h1, h2⟩, _ => ⟨h1, fun a n cap e hn => hs _ (h2 a n cap e hn)⟩
 | .view _ _ _, h, _ => h
 | .dead, _, _ => trivial
 | .nan _, h, _ => h
 | .err, h, _ => h
 | .atom, h, _ => h
 | .ebox _, ⟨k, o, h1, h2, h3⟩, _ => ⟨k, o, h1, hs _ h2, h3⟩
 | .arr _ _ _ _, ⟨k, h1, h2, h3⟩, hn => ⟨k, h1, hn k (by simp [O.blk, h1, base]), h3⟩
 | .xext _, h, _ => jlS hs h
 | .map _, ⟨b, e, c, h1, h2, h3⟩, hn => ⟨b, e, c, h1, hn b (by simp [O.blk, h1, jeh]), h3⟩
 | .rrow _, ⟨h1, h2⟩, hn => ⟨h1, fun k hk => ⟨hn k hk, (h2 k hk).2⟩⟩
theorem HRel.moreB (hh : HRel ρ B hp nx w) (hs : ∀ k, B k → B2 k) (hn : ∀ h o k, find hp h = some o → o.blk (ρ h) = some k → ¬ B2 k) : HRel ρ B2 hp nx w :=
 ⟨fun h o hf => ⟨(hh.ok h o hf).1, (hh.ok h o hf).2.1, O.ok_moreB hs (hh.ok h o hf).2.2 (fun k hk => hn h o k hf hk)⟩, hh.apart, hh.glob.sub hs⟩
def extB : O → Bool
 | .ext _ => true
 | .ebox _ => true
 | .xext _ => true
 | _ => false
theorem O.ok_lessB {h : Nat} (hs : ∀ k, B k → B2 k) : ∀ {o : O}, o.ok ρ B2 w h → extB o = false → o.ok ρ B w h
 | .box _ _, ⟨k, h1, h2, h3⟩, _ => ⟨k, h1, fun hb => h2 (hs _ hb), h3⟩
 | .row _ _, ⟨hr, hk⟩, _ => ⟨hr, fun k hk' hb => hk k hk' (hs _ hb)⟩
 | .ext _, _, h => by cases h
 | .view _ _ _, h, _ => h
 | .dead, _, _ => trivial
 | .nan _, h, _ => h
 | .err, h, _ => h
 | .atom, h, _ => h
 | .ebox _, _, h => by cases h
 | .arr _ _ _ _, ⟨k, h1, h2, h3⟩, _ => ⟨k, h1, fun hb => h2 (hs _ hb), h3⟩
 | .xext _, _, h => by cases h
 | .map _, ⟨b, e, c, h1, h2, h3⟩, _ => ⟨b, e, c, h1, fun hb => h2 (hs _ hb), h3⟩
 | .rrow _, ⟨h1, h2⟩, _ => ⟨h1, fun k hk => ⟨fun hb => (h2 k hk).1 (hs _ hb), (h2 k hk).2⟩⟩
theorem HRel.lessB (hh : HRel ρ B2 hp nx w) (hs : ∀ k, B k → B2 k) (hg : jbC B w) (hE : ∀ h o, find hp h = some o → extB o = true → o.ok ρ B w h) : HRel ρ B hp nx w :=
 ⟨fun h o hf => ⟨(hh.ok h o hf).1, (hh.ok h o hf).2.1, by
  cases he : extB o with
  | true => exact hE h o hf he
  | false => exact O.ok_lessB hs (hh.ok h o hf).2.2 he⟩, hh.apart, hg⟩
def rngO : O → Bool
 | .view _ _ _ => false
 | .map _ => false
 | .rrow _ => false
 | _ => true
theorem jhQ {h k : Nat} : ∀ {o : O}, o.ok ρ B w h → rngO o = true → o.blk (ρ h) = some k → ∃ c t f, w.heap[k]? = some (.cells c t f)
 | .box _ _, ⟨g, h1, _, h3⟩, _, hb => by
  simp only [O.blk, h1, base, Option.some.injEq] at hb
  subst hb
  exact ⟨_, _, _, h3⟩
 | .arr _ _ _ _, ⟨g, h1, _, h3⟩, _, hb => by
  simp only [O.blk, h1, base, Option.some.injEq] at hb
  subst hb
  exact ⟨_, _, _, h3⟩
 | .row _ _, ⟨⟨_, hr⟩, _⟩, _, hb => by
  rcases hr with ⟨h1, _⟩ | ⟨g, cap, cur, h1, _, h3, _⟩
  ·simp [O.blk, h1, Value.ownBlock] at hb
  ·simp only [O.blk, h1, Value.ownBlock, Option.some.injEq] at hb
   subst hb
   exact ⟨_, _, _, h3⟩
theorem HRel.grown {row : Option Nat} (hh : HRel ρ B hp nx w) (hg : w.grownBy w' row) (hB : Old B w) (hr : ∀ r, row = some r → ¬ B r ∧ ∃ o : Obj, w.heap[r]? = some o ∧ o.isCells = false) (hn : ∀ h o, find hp h = some o → rngO o = true) : HRel ρ B hp nx w' := by
 obtain ⟨g, hgB, hgw, hgc⟩ : ∃ g, ¬ B g ∧ (∀ k, k < w.heap.size → k ≠ g → w'.heap[k]? = w.heap[k]?) ∧ ∀ c t f, w.heap[g]? ≠ some (.cells c t f) := by
  cases row with
  | none => exact ⟨w.heap.size, fun h => absurd (hB _ h) (Nat.lt_irrefl _), fun k hk _ => hg.block k hk (by simp), fun c t f h => absurd (Array.getElem?_eq_some_iff.1 h).1 (Nat.lt_irrefl _)⟩
  | some r =>
   obtain ⟨h1, o, h2, h3⟩ := hr r rfl
   refine ⟨r, h1, fun k hk hne => hg.block k hk (fun e => hne (Option.some.inj e)), fun c t f h => ?_⟩
   rw [h2] at h
   cases h
   cases h3
 refine ⟨fun h o hf => ⟨(hh.ok h o hf).1, (hh.ok h o hf).2.1, ?_⟩, hh.apart, jgR hgw hgB hh.glob⟩
 refine O.ok_except hgw hgB (hh.ok h o hf).2.2 (fun he => ?_) (fun r c fl e => ?_)
 ·obtain ⟨c, t, f, hc⟩ := jhQ (hh.ok h o hf).2.2 (hn h o hf) he
  exact hgc c t f hc
 ·subst e
  cases hn h _ hf
end
end Go.Sx
end

section
open Go.RowKit
namespace Go.Sx
variable [Globs] {P : Program} {sp : jaa}
theorem jeo {f : Nat} {fn : Func} {body : Code} {shs : List SV} {g : List Lf → Option GT} (hf : P.funcs[f]? = some fn) (hb : fn.body = some body) (hn : (fn.name == "runtime.NumGoroutine") = false)
  (h : ∀ ls t, g ls = some t → t.sel.1 → ∀ b : Bv, jia shs 0 ls = some b → ∀ (ρ0 : Env) (w : World), (∀ x ∈ b.vs, V.lt b.n x) → HRel ρ0 (fun k => k < w.heap.size) b.hp b.n w →
   Calls P f (b.vs.map (V.val ρ0)).toArray w fun e w' => ∃ ρ' v hp' nx', e = .returned (V.val ρ' v) ∧ v.lt nx' ∧ jaf b.n ρ0 ρ' ∧ HRel ρ' (fun k => k < w.heap.size) hp' nx' w' ∧ Bel (fun k => k < w.heap.size) w w' ∧ fitV b.n t.sel.2 v hp') :
  jah P f true (jc6 shs g) := by
 refine .inl ⟨jcA hf hb hn, fun ρ B w args hp nx t hS hob hlt hh hB => ?_⟩
 unfold jc6 at hS
 split at hS
 ·rename_i ls am hto
  split at hS
  ·rename_i t' hg
   cases hS
   rw [jiZ] at hob ⊢
   have hob : t'.sel.1 := hob
   obtain ⟨b, ρ0, hbl, q⟩ := jkY hh hB shs args ls am hto hlt 0 (fun _ => undef) []
   rw [List.append_nil] at hbl
   have hbn : b.n = am.length := by have := q.nn; omega
   have hh0 : HRel ρ0 (fun k => k < w.heap.size) b.hp b.n w := by
    refine ⟨fun x o hf => ?_, fun x o x' o' k hf hf' _ hb => ?_, jeZ hh.glob hB⟩
    ·obtain ⟨_, a2, a3, a4, _⟩ := q.heap x o hf
     exact ⟨a2, a3, a4⟩
    ·obtain ⟨_, _, _, _, a5⟩ := q.heap x o hf
     rw [a5] at hb
     cases hb
   have hcalls := h ls t' hg hob b hbl ρ0 w q.lt hh0
   rw [q.val] at hcalls
   refine hcalls.mono ?_
   rintro e w' ⟨ρ', v, hp', nx', rfl, hvlt, hag, hh', hbel, hfit⟩
   have hbw : Below w.heap.size w w' := hbel.below
   have hh1 := hh.below hbw hB
   obtain ⟨ws, hws, hfw⟩ : ∃ ws, (jbT ws).val ρ' = v.val ρ' ∧ jjO b.n hp' t'.sel.2 ws [] := by
    match v, hfit with
    | .w u, hfit => exact ⟨[u], rfl, hfit⟩
    | .t [], hfit => exact ⟨[], rfl, hfit⟩
    | .t (x :: y :: l), hfit => exact ⟨x :: y :: l, rfl, hfit⟩
   have hin : CIn ρ ρ' B hp hp' nx w.heap.size b.n am w' [] := by
    refine ⟨hh1, fun k o b hk hbk => .inl (O.blk_lt (hh.ok k o hk).2.2 hbk).1, fun i hi => ?_⟩
    have hi2 : i < am.length := by omega
    have h1 := q.own i hi2
    rw [Nat.zero_add] at h1
    refine ⟨?_, by rw [hag i hi]; exact h1.symm⟩
    have : am.getD i (.d (.v undef)) = am[i] := by simp [List.getD, hi2]
    rw [this]
    exact q.xlt _ (List.getElem_mem hi2)
   obtain ⟨us2, ρ2, k⟩ := jjP (m := w.heap.size) (fun k hk => hB k hk) hh' t'.sel.2 ws [] hfw nx hp ρ hin
   refine ⟨ρ2, ?_, k.agree, jeJ k.lt, k.le, k.heap, jbK hbw hB, fun _ => hbw, fun _ h o b hle hf hbk => ?_⟩
   ·show Ending.returned _ = Ending.returned ((jbT (jcS am t'.sel.2 nx).ws).val ρ2)
    rw [← hws, jcw, jcw]
    simp only [k.val]
   ·have hf : find ((jcS am t'.sel.2 nx).hp ++ hp) h = some o := hf
    rw [jau] at hf
    cases hg2 : find (jcS am t'.sel.2 nx).hp h with
    | some o2 => rw [hg2] at hf; cases hf; exact k.fresh h o b hg2 hbk
    | none =>
     rw [hg2] at hf
     have := (hh.ok h o hf).1
     omega
  ·cases hS
 ·cases hS
end Go.Sx
namespace Go.Sh
open Go Go.Proofs Go.RowKit Go.Sx
end Go.Sh
end
