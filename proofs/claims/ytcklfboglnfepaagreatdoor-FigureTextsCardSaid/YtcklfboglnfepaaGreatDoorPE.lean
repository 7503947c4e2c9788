/- Part 5 of the proof of FigureTextsCard: the executor, the mirrors of the functions, the plain facts. -/
import Derived.Test.YtcklfboglnfepaaGreatDoorPD
import Derived.Carry
import Derived.ChangeArms
import Derived.OpenShut
import Derived.ChangeShapes
import Derived.ChangeSame
import Derived.SizedLaws
import Derived.WideShapes
import Derived.LaidLaws
import Derived.LaidHandle
import Derived.LaidMore
import Derived.MakeChecks
import Derived.Handed
import Derived.HandedShaped
import Derived.Shelf.Vars
import Derived.Test.YtcklfboglnfepaaGreatDoorRows
set_option maxRecDepth 100000
set_option linter.unusedSectionVars false
set_option linter.unusedSimpArgs false
set_option linter.unusedVariables false
section
namespace Go.Sh
open Go Go.Proofs Go.RowKit Go.Sx
open Go.IntKind (wrap)
def jeN : List (Option Cont) := [none]
def y72 (x_ : Int) : Option Int :=
 if x_ ≥ 4294967296 then
  if Int.fdiv x_ ((2 : Int) ^ min (32 : Nat) (IntKind.bits .u64)) ≥ 65536 then
  if Int.fdiv (Int.fdiv x_ ((2 : Int) ^ min (32 : Nat) (IntKind.bits .u64))) ((2 : Int) ^ min (16 : Nat) (IntKind.bits .u64)) ≥ 256 then
   if 0 ≤ wrap .u8 (Int.fdiv (Int.fdiv (Int.fdiv x_ ((2 : Int) ^ min (32 : Nat) (IntKind.bits .u64))) ((2 : Int) ^ min (16 : Nat) (IntKind.bits .u64))) ((2 : Int) ^ min (8 : Nat) (IntKind.bits .u64))) ∧ wrap .u8 (Int.fdiv (Int.fdiv (Int.fdiv x_ ((2 : Int) ^ min (32 : Nat) (IntKind.bits .u64))) ((2 : Int) ^ min (16 : Nat) (IntKind.bits .u64))) ((2 : Int) ^ min (8 : Nat) (IntKind.bits .u64))) < (↑(ByteArray.size jbm) : Int) then
   some (wrap .i64 (wrap .i64 (wrap .i64 ((32 : Int) + 16) + 8) + wrap .i64 (↑(UInt8.toNat (Array.getD (ByteArray.data jbm) (Int.toNat (wrap .u8 (Int.fdiv (Int.fdiv (Int.fdiv x_ ((2 : Int) ^ min (32 : Nat) (IntKind.bits .u64))) ((2 : Int) ^ min (16 : Nat) (IntKind.bits .u64))) ((2 : Int) ^ min (8 : Nat) (IntKind.bits .u64))))) (0 : UInt8))) : Int)))
   else none
  else
   if 0 ≤ wrap .u8 (Int.fdiv (Int.fdiv x_ ((2 : Int) ^ min (32 : Nat) (IntKind.bits .u64))) ((2 : Int) ^ min (16 : Nat) (IntKind.bits .u64))) ∧ wrap .u8 (Int.fdiv (Int.fdiv x_ ((2 : Int) ^ min (32 : Nat) (IntKind.bits .u64))) ((2 : Int) ^ min (16 : Nat) (IntKind.bits .u64))) < (↑(ByteArray.size jbm) : Int) then
   some (wrap .i64 (wrap .i64 ((32 : Int) + 16) + wrap .i64 (↑(UInt8.toNat (Array.getD (ByteArray.data jbm) (Int.toNat (wrap .u8 (Int.fdiv (Int.fdiv x_ ((2 : Int) ^ min (32 : Nat) (IntKind.bits .u64))) ((2 : Int) ^ min (16 : Nat) (IntKind.bits .u64))))) (0 : UInt8))) : Int)))
   else none
  else
  if Int.fdiv x_ ((2 : Int) ^ min (32 : Nat) (IntKind.bits .u64)) ≥ 256 then
   if 0 ≤ wrap .u8 (Int.fdiv (Int.fdiv x_ ((2 : Int) ^ min (32 : Nat) (IntKind.bits .u64))) ((2 : Int) ^ min (8 : Nat) (IntKind.bits .u64))) ∧ wrap .u8 (Int.fdiv (Int.fdiv x_ ((2 : Int) ^ min (32 : Nat) (IntKind.bits .u64))) ((2 : Int) ^ min (8 : Nat) (IntKind.bits .u64))) < (↑(ByteArray.size jbm) : Int) then
   some (wrap .i64 (wrap .i64 ((32 : Int) + 8) + wrap .i64 (↑(UInt8.toNat (Array.getD (ByteArray.data jbm) (Int.toNat (wrap .u8 (Int.fdiv (Int.fdiv x_ ((2 : Int) ^ min (32 : Nat) (IntKind.bits .u64))) ((2 : Int) ^ min (8 : Nat) (IntKind.bits .u64))))) (0 : UInt8))) : Int)))
   else none
  else
   if 0 ≤ wrap .u8 (Int.fdiv x_ ((2 : Int) ^ min (32 : Nat) (IntKind.bits .u64))) ∧ wrap .u8 (Int.fdiv x_ ((2 : Int) ^ min (32 : Nat) (IntKind.bits .u64))) < (↑(ByteArray.size jbm) : Int) then
   some (wrap .i64 (32 + wrap .i64 (↑(UInt8.toNat (Array.getD (ByteArray.data jbm) (Int.toNat (wrap .u8 (Int.fdiv x_ ((2 : Int) ^ min (32 : Nat) (IntKind.bits .u64))))) (0 : UInt8))) : Int)))
   else none
 else
  if x_ ≥ 65536 then
  if Int.fdiv x_ ((2 : Int) ^ min (16 : Nat) (IntKind.bits .u64)) ≥ 256 then
   if 0 ≤ wrap .u8 (Int.fdiv (Int.fdiv x_ ((2 : Int) ^ min (16 : Nat) (IntKind.bits .u64))) ((2 : Int) ^ min (8 : Nat) (IntKind.bits .u64))) ∧ wrap .u8 (Int.fdiv (Int.fdiv x_ ((2 : Int) ^ min (16 : Nat) (IntKind.bits .u64))) ((2 : Int) ^ min (8 : Nat) (IntKind.bits .u64))) < (↑(ByteArray.size jbm) : Int) then
   some (wrap .i64 (wrap .i64 (wrap .i64 ((0 : Int) + 16) + 8) + wrap .i64 (↑(UInt8.toNat (Array.getD (ByteArray.data jbm) (Int.toNat (wrap .u8 (Int.fdiv (Int.fdiv x_ ((2 : Int) ^ min (16 : Nat) (IntKind.bits .u64))) ((2 : Int) ^ min (8 : Nat) (IntKind.bits .u64))))) (0 : UInt8))) : Int)))
   else none
  else
   if 0 ≤ wrap .u8 (Int.fdiv x_ ((2 : Int) ^ min (16 : Nat) (IntKind.bits .u64))) ∧ wrap .u8 (Int.fdiv x_ ((2 : Int) ^ min (16 : Nat) (IntKind.bits .u64))) < (↑(ByteArray.size jbm) : Int) then
   some (wrap .i64 (wrap .i64 ((0 : Int) + 16) + wrap .i64 (↑(UInt8.toNat (Array.getD (ByteArray.data jbm) (Int.toNat (wrap .u8 (Int.fdiv x_ ((2 : Int) ^ min (16 : Nat) (IntKind.bits .u64))))) (0 : UInt8))) : Int)))
   else none
  else
  if x_ ≥ 256 then
   if 0 ≤ wrap .u8 (Int.fdiv x_ ((2 : Int) ^ min (8 : Nat) (IntKind.bits .u64))) ∧ wrap .u8 (Int.fdiv x_ ((2 : Int) ^ min (8 : Nat) (IntKind.bits .u64))) < (↑(ByteArray.size jbm) : Int) then
   some (wrap .i64 (wrap .i64 ((0 : Int) + 8) + wrap .i64 (↑(UInt8.toNat (Array.getD (ByteArray.data jbm) (Int.toNat (wrap .u8 (Int.fdiv x_ ((2 : Int) ^ min (8 : Nat) (IntKind.bits .u64))))) (0 : UInt8))) : Int)))
   else none
  else
   if 0 ≤ wrap .u8 x_ ∧ wrap .u8 x_ < (↑(ByteArray.size jbm) : Int) then
   some (wrap .i64 (0 + wrap .i64 (↑(UInt8.toNat (Array.getD (ByteArray.data jbm) (Int.toNat (wrap .u8 x_)) (0 : UInt8))) : Int)))
   else none
def y125 : List A → Option (Prop × List RV)
 | [.d (.i .u64 x_)] => some (ok (y72 x_), [.d (.i .i64 ((val (y72 x_))))])
 | _ => none
abbrev sp_166 : jaa → jaa := jav 166 true (jaq jeN y125)
abbrev jcZ (x_ : Int) := (Int.fdiv x_ ((2 : Int) ^ min (32 : Nat) (IntKind.bits .u64)))
abbrev jcE  := ((2 : Int) ^ min (16 : Nat) (IntKind.bits .u64))
abbrev jda  := ((2 : Int) ^ min (8 : Nat) (IntKind.bits .u64))
theorem jiE (x_ : Int) (r : Int) (h : Option.bind (y72 x_) some = some r) : ja8 Tryz.f166 (sp0) (fun _ _ _ => none) [.d (.i .u64 x_)] [.d (.i .i64 r)] := by
 refine Eq.mp (by kernel_rfl : (
 Br (decide (x_ ≥ 4294967296))
  ((Ob ((0 : Int) ≤ 32) ∧
 Br (decide (Int.fdiv x_ ((2 : Int) ^ min (32 : Nat) (IntKind.bits .u64)) ≥ 65536))
  ((Ob ((0 : Int) ≤ 16) ∧
 Br (decide (Int.fdiv (jcZ x_) (jcE) ≥ 256))
  ((Ob ((0 : Int) ≤ 8) ∧
 (Ob True ∧
 (Ob (0 ≤ wrap .u8 (Int.fdiv (Int.fdiv (jcZ x_) (jcE)) (jda)) ∧ wrap .u8 (Int.fdiv (Int.fdiv (jcZ x_) (jcE)) (jda)) < (↑(ByteArray.size jbm) : Int)) ∧
 (Ob True ∧
 (Ob True ∧
 (Ob (wrap .i64 (wrap .i64 (wrap .i64 ((32 : Int) + 16) + 8) + wrap .i64 (↑(UInt8.toNat (Array.getD (ByteArray.data jbm) (Int.toNat (wrap .u8 (Int.fdiv (Int.fdiv (jcZ x_) (jcE)) (jda)))) (0 : UInt8))) : Int)) = r) ∧
 True)))))))
  ((Ob True ∧
 (Ob (0 ≤ wrap .u8 (Int.fdiv (jcZ x_) (jcE)) ∧ wrap .u8 (Int.fdiv (jcZ x_) (jcE)) < (↑(ByteArray.size jbm) : Int)) ∧
 (Ob True ∧
 (Ob True ∧
 (Ob (wrap .i64 (wrap .i64 ((32 : Int) + 16) + wrap .i64 (↑(UInt8.toNat (Array.getD (ByteArray.data jbm) (Int.toNat (wrap .u8 (Int.fdiv (jcZ x_) (jcE)))) (0 : UInt8))) : Int)) = r) ∧
 True))))))))
 (Br (decide (Int.fdiv x_ ((2 : Int) ^ min (32 : Nat) (IntKind.bits .u64)) ≥ 256))
  ((Ob ((0 : Int) ≤ 8) ∧
 (Ob True ∧
 (Ob (0 ≤ wrap .u8 (Int.fdiv (jcZ x_) (jda)) ∧ wrap .u8 (Int.fdiv (jcZ x_) (jda)) < (↑(ByteArray.size jbm) : Int)) ∧
 (Ob True ∧
 (Ob True ∧
 (Ob (wrap .i64 (wrap .i64 ((32 : Int) + 8) + wrap .i64 (↑(UInt8.toNat (Array.getD (ByteArray.data jbm) (Int.toNat (wrap .u8 (Int.fdiv (jcZ x_) (jda)))) (0 : UInt8))) : Int)) = r) ∧
 True)))))))
  ((Ob True ∧
 (Ob (0 ≤ wrap .u8 (jcZ x_) ∧ wrap .u8 (jcZ x_) < (↑(ByteArray.size jbm) : Int)) ∧
 (Ob True ∧
 (Ob True ∧
 (Ob (wrap .i64 (32 + wrap .i64 (↑(UInt8.toNat (Array.getD (ByteArray.data jbm) (Int.toNat (wrap .u8 (jcZ x_))) (0 : UInt8))) : Int)) = r) ∧
 True)))))))))
 (Br (decide (x_ ≥ 65536))
  ((Ob ((0 : Int) ≤ 16) ∧
 Br (decide (Int.fdiv x_ (jcE) ≥ 256))
  ((Ob ((0 : Int) ≤ 8) ∧
 (Ob True ∧
 (Ob (0 ≤ wrap .u8 (Int.fdiv (Int.fdiv x_ (jcE)) (jda)) ∧ wrap .u8 (Int.fdiv (Int.fdiv x_ (jcE)) (jda)) < (↑(ByteArray.size jbm) : Int)) ∧
 (Ob True ∧
 (Ob True ∧
 (Ob (wrap .i64 (wrap .i64 (wrap .i64 ((0 : Int) + 16) + 8) + wrap .i64 (↑(UInt8.toNat (Array.getD (ByteArray.data jbm) (Int.toNat (wrap .u8 (Int.fdiv (Int.fdiv x_ (jcE)) (jda)))) (0 : UInt8))) : Int)) = r) ∧
 True)))))))
  ((Ob True ∧
 (Ob (0 ≤ wrap .u8 (Int.fdiv x_ (jcE)) ∧ wrap .u8 (Int.fdiv x_ (jcE)) < (↑(ByteArray.size jbm) : Int)) ∧
 (Ob True ∧
 (Ob True ∧
 (Ob (wrap .i64 (wrap .i64 ((0 : Int) + 16) + wrap .i64 (↑(UInt8.toNat (Array.getD (ByteArray.data jbm) (Int.toNat (wrap .u8 (Int.fdiv x_ (jcE)))) (0 : UInt8))) : Int)) = r) ∧
 True))))))))
 (Br (decide (x_ ≥ 256))
  ((Ob ((0 : Int) ≤ 8) ∧
 (Ob True ∧
 (Ob (0 ≤ wrap .u8 (Int.fdiv x_ (jda)) ∧ wrap .u8 (Int.fdiv x_ (jda)) < (↑(ByteArray.size jbm) : Int)) ∧
 (Ob True ∧
 (Ob True ∧
 (Ob (wrap .i64 (wrap .i64 ((0 : Int) + 8) + wrap .i64 (↑(UInt8.toNat (Array.getD (ByteArray.data jbm) (Int.toNat (wrap .u8 (Int.fdiv x_ (jda)))) (0 : UInt8))) : Int)) = r) ∧
 True)))))))
  ((Ob True ∧
 (Ob (0 ≤ wrap .u8 x_ ∧ wrap .u8 x_ < (↑(ByteArray.size jbm) : Int)) ∧
 (Ob True ∧
 (Ob True ∧
 (Ob (wrap .i64 (0 + wrap .i64 (↑(UInt8.toNat (Array.getD (ByteArray.data jbm) (Int.toNat (wrap .u8 x_)) (0 : UInt8))) : Int)) = r) ∧
 True))))))))) = _) ?_
 refine jaC h (fun h => ?_) (fun h => ?_)
 ·refine jdL (p := (0 : Int) ≤ 32) (by decide) ?_
  refine jaC h (fun h => ?_) (fun h => ?_)
  ·refine jdL (p := (0 : Int) ≤ 16) (by decide) ?_
   refine jaC h (fun h => ?_) (fun h => ?_)
   ·refine jdL (p := (0 : Int) ≤ 8) (by decide) ?_
    refine jac ?_
    refine jaj h fun h => ?_
    refine jac ?_
    refine jac ?_
    exact rcs h
   ·refine jac ?_
    refine jaj h fun h => ?_
    refine jac ?_
    refine jac ?_
    exact rcs h
  ·refine jaC h (fun h => ?_) (fun h => ?_)
   ·refine jdL (p := (0 : Int) ≤ 8) (by decide) ?_
    refine jac ?_
    refine jaj h fun h => ?_
    refine jac ?_
    refine jac ?_
    exact rcs h
   ·refine jac ?_
    refine jaj h fun h => ?_
    refine jac ?_
    refine jac ?_
    exact rcs h
 ·refine jaC h (fun h => ?_) (fun h => ?_)
  ·refine jdL (p := (0 : Int) ≤ 16) (by decide) ?_
   refine jaC h (fun h => ?_) (fun h => ?_)
   ·refine jdL (p := (0 : Int) ≤ 8) (by decide) ?_
    refine jac ?_
    refine jaj h fun h => ?_
    refine jac ?_
    refine jac ?_
    exact rcs h
   ·refine jac ?_
    refine jaj h fun h => ?_
    refine jac ?_
    refine jac ?_
    exact rcs h
  ·refine jaC h (fun h => ?_) (fun h => ?_)
   ·refine jdL (p := (0 : Int) ≤ 8) (by decide) ?_
    refine jac ?_
    refine jaj h fun h => ?_
    refine jac ?_
    refine jac ?_
    exact rcs h
   ·refine jac ?_
    refine jaj h fun h => ?_
    refine jac ?_
    refine jac ?_
    exact rcs h
theorem jiF : jaf Tryz.prog 166 true (jaq jeN y125) := by
 refine jaw (sp := sp0) (fn := Tryz.f166) (body := jah Tryz.f166) mixed jao Tryz.func166 (by kernel_rfl) (by kernel_rfl) fun as_ ob rs h ho => ?_
 unfold y125 at h
 split at h
 ·rename_i x_
  cases h
  exact ⟨Nat.le_of_ble_eq_true rfl, _, _, jiE x_ _ (jan ho)⟩
 ·cases h
theorem sp_166_ok {sp : jaa} (h : jab Tryz.prog sp) : jab Tryz.prog (sp_166 sp) := jag jiF h
def y98 : List (Option Cont) := [none]
def y10 (x_ : Int) : Option Int :=
 Option.bind (y72 x_) fun r0 =>
 some (wrap .i64 (64 - r0))
def y77 : List A → Option (Prop × List RV)
 | [.d (.i .u64 x_)] => some (ok (y10 x_), [.d (.i .i64 ((val (y10 x_))))])
 | _ => none
abbrev sp_150 : jaa → jaa := jav 150 true (jaq y98 y77)
theorem y168 (x_ : Int) (r : Int) (h : Option.bind (y10 x_) some = some r) : ja8 Tryz.f150 ((sp_166 sp0)) (fun _ _ _ => none) [.d (.i .u64 x_)] [.d (.i .i64 r)] := by
 refine Eq.mp (by kernel_rfl : (
 (Ob (ok (y72 x_)) ∧
 (Ob True ∧
 (Ob (wrap .i64 (64 - val (y72 x_)) = r) ∧
 True)))) = _) ?_
 refine jaE h fun h => ?_
 refine jac ?_
 exact rcs h
theorem y169 : jaf Tryz.prog 150 true (jaq y98 y77) := by
 refine jaw (sp := (sp_166 sp0)) (fn := Tryz.f150) (body := jah Tryz.f150) mixed (sp_166_ok jao) Tryz.func150 (by kernel_rfl) (by kernel_rfl) fun as_ ob rs h ho => ?_
 unfold y77 at h
 split at h
 ·rename_i x_
  cases h
  exact ⟨Nat.le_of_ble_eq_true rfl, _, _, y168 x_ _ (jan ho)⟩
 ·cases h
theorem sp_150_ok {sp : jaa} (h : jab Tryz.prog sp) : jab Tryz.prog (sp_150 sp) := jag y169 h
def jeO : List (Option Cont) := [none, none, none]
def y52 (lo : Int) (y_ : Int) (r0 : Int) (x0 : (Int × Int)) : Option ((Int × Int) ⊕ Int) :=
 if x0.1 ≥ 4294967296 then
  if wrap .u64 (x0.2 + Int.fdiv (wrap .u64 (y_ * 2 ^ min (Int.toNat (wrap .u64 r0)) (IntKind.bits .u64))) ((2 : Int) ^ min (32 : Nat) (IntKind.bits .u64))) ≥ 4294967296 then
  some (.inr (wrap .u64 (x0.1 - 1)))
  else
  some (.inl ((wrap .u64 (x0.1 - 1), wrap .u64 (x0.2 + Int.fdiv (wrap .u64 (y_ * 2 ^ min (Int.toNat (wrap .u64 r0)) (IntKind.bits .u64))) ((2 : Int) ^ min (32 : Nat) (IntKind.bits .u64))))))
 else
  if wrap .u64 (x0.1 * wrap .u64 (↑(BitVec.toNat (BitVec.ofInt (IntKind.bits .u64) (wrap .u64 (y_ * 2 ^ min (Int.toNat (wrap .u64 r0)) (IntKind.bits .u64))) &&& BitVec.ofInt (IntKind.bits .u64) (4294967295 : Int))) : Int)) > wrap .u64 (wrap .u64 (4294967296 * x0.2) + Int.fdiv (wrap .u64 (lo * 2 ^ min (Int.toNat (wrap .u64 r0)) (IntKind.bits .u64))) ((2 : Int) ^ min (32 : Nat) (IntKind.bits .u64))) then
  if wrap .u64 (x0.2 + Int.fdiv (wrap .u64 (y_ * 2 ^ min (Int.toNat (wrap .u64 r0)) (IntKind.bits .u64))) ((2 : Int) ^ min (32 : Nat) (IntKind.bits .u64))) ≥ 4294967296 then
   some (.inr (wrap .u64 (x0.1 - 1)))
  else
   some (.inl ((wrap .u64 (x0.1 - 1), wrap .u64 (x0.2 + Int.fdiv (wrap .u64 (y_ * 2 ^ min (Int.toNat (wrap .u64 r0)) (IntKind.bits .u64))) ((2 : Int) ^ min (32 : Nat) (IntKind.bits .u64))))))
  else
  some (.inr x0.1)
def y112 (lo : Int) (y_ : Int) (r0 : Int) (x1 : (Int × Int)) : Option ((Int × Int) ⊕ Int) :=
 if x1.2 ≥ 4294967296 then
  if wrap .u64 (x1.1 + Int.fdiv (wrap .u64 (y_ * 2 ^ min (Int.toNat (wrap .u64 r0)) (IntKind.bits .u64))) ((2 : Int) ^ min (32 : Nat) (IntKind.bits .u64))) ≥ 4294967296 then
  some (.inr (wrap .u64 (x1.2 - 1)))
  else
  some (.inl ((wrap .u64 (x1.1 + Int.fdiv (wrap .u64 (y_ * 2 ^ min (Int.toNat (wrap .u64 r0)) (IntKind.bits .u64))) ((2 : Int) ^ min (32 : Nat) (IntKind.bits .u64))), wrap .u64 (x1.2 - 1))))
 else
  if wrap .u64 (x1.2 * wrap .u64 (↑(BitVec.toNat (BitVec.ofInt (IntKind.bits .u64) (wrap .u64 (y_ * 2 ^ min (Int.toNat (wrap .u64 r0)) (IntKind.bits .u64))) &&& BitVec.ofInt (IntKind.bits .u64) (4294967295 : Int))) : Int)) > wrap .u64 (wrap .u64 (4294967296 * x1.1) + wrap .u64 (↑(BitVec.toNat (BitVec.ofInt (IntKind.bits .u64) (wrap .u64 (lo * 2 ^ min (Int.toNat (wrap .u64 r0)) (IntKind.bits .u64))) &&& BitVec.ofInt (IntKind.bits .u64) (4294967295 : Int))) : Int)) then
  if wrap .u64 (x1.1 + Int.fdiv (wrap .u64 (y_ * 2 ^ min (Int.toNat (wrap .u64 r0)) (IntKind.bits .u64))) ((2 : Int) ^ min (32 : Nat) (IntKind.bits .u64))) ≥ 4294967296 then
   some (.inr (wrap .u64 (x1.2 - 1)))
  else
   some (.inl ((wrap .u64 (x1.1 + Int.fdiv (wrap .u64 (y_ * 2 ^ min (Int.toNat (wrap .u64 r0)) (IntKind.bits .u64))) ((2 : Int) ^ min (32 : Nat) (IntKind.bits .u64))), wrap .u64 (x1.2 - 1))))
  else
  some (.inr x1.2)
def y12 (hi : Int) (lo : Int) (y_ : Int) (u9 : Int) (r0 : Int) (u61 : Int) : Option (Int × Int) :=
 if 0 ≤ wrap .u64 r0 then
  some ((wrap .u64 (wrap .u64 (u9 * 4294967296) + u61), Int.fdiv (wrap .u64 (wrap .u64 (wrap .u64 (wrap .u64 (wrap .u64 (wrap .u64 (wrap .u64 (↑(BitVec.toNat (BitVec.ofInt (IntKind.bits .u64) (wrap .u64 (hi * 2 ^ min (Int.toNat (wrap .u64 r0)) (IntKind.bits .u64))) ||| BitVec.ofInt (IntKind.bits .u64) (Int.fdiv lo ((2 : Int) ^ min (Int.toNat (wrap .u64 (64 - wrap .u64 r0))) (IntKind.bits .u64))))) : Int) * 4294967296) + Int.fdiv (wrap .u64 (lo * 2 ^ min (Int.toNat (wrap .u64 r0)) (IntKind.bits .u64))) ((2 : Int) ^ min (32 : Nat) (IntKind.bits .u64))) - wrap .u64 (u9 * wrap .u64 (y_ * 2 ^ min (Int.toNat (wrap .u64 r0)) (IntKind.bits .u64)))) * 4294967296) + wrap .u64 (↑(BitVec.toNat (BitVec.ofInt (IntKind.bits .u64) (wrap .u64 (lo * 2 ^ min (Int.toNat (wrap .u64 r0)) (IntKind.bits .u64))) &&& BitVec.ofInt (IntKind.bits .u64) (4294967295 : Int))) : Int)) - wrap .u64 (u61 * wrap .u64 (y_ * 2 ^ min (Int.toNat (wrap .u64 r0)) (IntKind.bits .u64))))) ((2 : Int) ^ min (Int.toNat (wrap .u64 r0)) (IntKind.bits .u64))))
 else none
def y53 (hi : Int) (lo : Int) (y_ : Int) (r0 : Int) (u9 : Int) : Option (Int × Int) :=
 if Int.fdiv (wrap .u64 (y_ * 2 ^ min (Int.toNat (wrap .u64 r0)) (IntKind.bits .u64))) ((2 : Int) ^ min (32 : Nat) (IntKind.bits .u64)) ≠ (0 : Int) then
  Option.bind (jae (y112 lo y_ r0) big ((wrap .u64 (wrap .u64 (wrap .u64 (wrap .u64 (wrap .u64 (↑(BitVec.toNat (BitVec.ofInt (IntKind.bits .u64) (wrap .u64 (hi * 2 ^ min (Int.toNat (wrap .u64 r0)) (IntKind.bits .u64))) ||| BitVec.ofInt (IntKind.bits .u64) (Int.fdiv lo ((2 : Int) ^ min (Int.toNat (wrap .u64 (64 - wrap .u64 r0))) (IntKind.bits .u64))))) : Int) * 4294967296) + Int.fdiv (wrap .u64 (lo * 2 ^ min (Int.toNat (wrap .u64 r0)) (IntKind.bits .u64))) ((2 : Int) ^ min (32 : Nat) (IntKind.bits .u64))) - wrap .u64 (u9 * wrap .u64 (y_ * 2 ^ min (Int.toNat (wrap .u64 r0)) (IntKind.bits .u64)))) - wrap .u64 (wrap .u64 (Int.tdiv (wrap .u64 (wrap .u64 (wrap .u64 (wrap .u64 (↑(BitVec.toNat (BitVec.ofInt (IntKind.bits .u64) (wrap .u64 (hi * 2 ^ min (Int.toNat (wrap .u64 r0)) (IntKind.bits .u64))) ||| BitVec.ofInt (IntKind.bits .u64) (Int.fdiv lo ((2 : Int) ^ min (Int.toNat (wrap .u64 (64 - wrap .u64 r0))) (IntKind.bits .u64))))) : Int) * 4294967296) + Int.fdiv (wrap .u64 (lo * 2 ^ min (Int.toNat (wrap .u64 r0)) (IntKind.bits .u64))) ((2 : Int) ^ min (32 : Nat) (IntKind.bits .u64))) - wrap .u64 (u9 * wrap .u64 (y_ * 2 ^ min (Int.toNat (wrap .u64 r0)) (IntKind.bits .u64))))) (Int.fdiv (wrap .u64 (y_ * 2 ^ min (Int.toNat (wrap .u64 r0)) (IntKind.bits .u64))) ((2 : Int) ^ min (32 : Nat) (IntKind.bits .u64)))) * Int.fdiv (wrap .u64 (y_ * 2 ^ min (Int.toNat (wrap .u64 r0)) (IntKind.bits .u64))) ((2 : Int) ^ min (32 : Nat) (IntKind.bits .u64)))), wrap .u64 (Int.tdiv (wrap .u64 (wrap .u64 (wrap .u64 (wrap .u64 (↑(BitVec.toNat (BitVec.ofInt (IntKind.bits .u64) (wrap .u64 (hi * 2 ^ min (Int.toNat (wrap .u64 r0)) (IntKind.bits .u64))) ||| BitVec.ofInt (IntKind.bits .u64) (Int.fdiv lo ((2 : Int) ^ min (Int.toNat (wrap .u64 (64 - wrap .u64 r0))) (IntKind.bits .u64))))) : Int) * 4294967296) + Int.fdiv (wrap .u64 (lo * 2 ^ min (Int.toNat (wrap .u64 r0)) (IntKind.bits .u64))) ((2 : Int) ^ min (32 : Nat) (IntKind.bits .u64))) - wrap .u64 (u9 * wrap .u64 (y_ * 2 ^ min (Int.toNat (wrap .u64 r0)) (IntKind.bits .u64))))) (Int.fdiv (wrap .u64 (y_ * 2 ^ min (Int.toNat (wrap .u64 r0)) (IntKind.bits .u64))) ((2 : Int) ^ min (32 : Nat) (IntKind.bits .u64))))))) (y12 hi lo y_ u9 r0)
 else none
def y73 (hi : Int) (lo : Int) (y_ : Int) : Option (Int × Int) :=
 if (y_ == 0) = true then
  none   else
  if y_ ≤ hi then
  none    else
  if (hi == 0) = true then
   if y_ ≠ (0 : Int) then
   if y_ ≠ (0 : Int) then
    some ((wrap .u64 (Int.tdiv lo y_), Int.tmod lo y_))
   else none
   else none
  else
   Option.bind (y10 y_) fun r0 =>
   if 0 ≤ wrap .u64 r0 then
   if 0 ≤ wrap .u64 r0 then
    if 0 ≤ wrap .u64 (64 - wrap .u64 r0) then
    if 0 ≤ wrap .u64 r0 then
     if Int.fdiv (wrap .u64 (y_ * 2 ^ min (Int.toNat (wrap .u64 r0)) (IntKind.bits .u64))) ((2 : Int) ^ min (32 : Nat) (IntKind.bits .u64)) ≠ (0 : Int) then
     Option.bind (jae (y52 lo y_ r0) big ((wrap .u64 (Int.tdiv (wrap .u64 (↑(BitVec.toNat (BitVec.ofInt (IntKind.bits .u64) (wrap .u64 (hi * 2 ^ min (Int.toNat (wrap .u64 r0)) (IntKind.bits .u64))) ||| BitVec.ofInt (IntKind.bits .u64) (Int.fdiv lo ((2 : Int) ^ min (Int.toNat (wrap .u64 (64 - wrap .u64 r0))) (IntKind.bits .u64))))) : Int)) (Int.fdiv (wrap .u64 (y_ * 2 ^ min (Int.toNat (wrap .u64 r0)) (IntKind.bits .u64))) ((2 : Int) ^ min (32 : Nat) (IntKind.bits .u64)))), wrap .u64 (wrap .u64 (↑(BitVec.toNat (BitVec.ofInt (IntKind.bits .u64) (wrap .u64 (hi * 2 ^ min (Int.toNat (wrap .u64 r0)) (IntKind.bits .u64))) ||| BitVec.ofInt (IntKind.bits .u64) (Int.fdiv lo ((2 : Int) ^ min (Int.toNat (wrap .u64 (64 - wrap .u64 r0))) (IntKind.bits .u64))))) : Int) - wrap .u64 (wrap .u64 (Int.tdiv (wrap .u64 (↑(BitVec.toNat (BitVec.ofInt (IntKind.bits .u64) (wrap .u64 (hi * 2 ^ min (Int.toNat (wrap .u64 r0)) (IntKind.bits .u64))) ||| BitVec.ofInt (IntKind.bits .u64) (Int.fdiv lo ((2 : Int) ^ min (Int.toNat (wrap .u64 (64 - wrap .u64 r0))) (IntKind.bits .u64))))) : Int)) (Int.fdiv (wrap .u64 (y_ * 2 ^ min (Int.toNat (wrap .u64 r0)) (IntKind.bits .u64))) ((2 : Int) ^ min (32 : Nat) (IntKind.bits .u64)))) * Int.fdiv (wrap .u64 (y_ * 2 ^ min (Int.toNat (wrap .u64 r0)) (IntKind.bits .u64))) ((2 : Int) ^ min (32 : Nat) (IntKind.bits .u64))))))) (y53 hi lo y_ r0)
     else none
    else none
    else none
   else none
   else none
def y126 : List A → Option (Prop × List RV)
 | [.d (.i .u64 hi), .d (.i .u64 lo), .d (.i .u64 y_)] => some (ok (y73 hi lo y_), [.d (.i .u64 ((val (y73 hi lo y_)).1)), .d (.i .u64 ((val (y73 hi lo y_)).2))])
 | _ => none
abbrev sp_127 : jaa → jaa := jav 127 true (jaq jeO y126)
private abbrev e0 (hi : Int) (lo : Int) (y_ : Int) : Int := wrap .u64 (wrap .u64 (↑(BitVec.toNat (BitVec.ofInt (IntKind.bits .u64) (wrap .u64 (hi * 2 ^ min (Int.toNat (wrap .u64 (val (y10 y_)))) (IntKind.bits .u64))) ||| BitVec.ofInt (IntKind.bits .u64) (Int.fdiv lo ((2 : Int) ^ min (Int.toNat (wrap .u64 (64 - wrap .u64 (val (y10 y_))))) (IntKind.bits .u64))))) : Int) * 4294967296) + Int.fdiv (wrap .u64 (lo * 2 ^ min (Int.toNat (wrap .u64 (val (y10 y_)))) (IntKind.bits .u64))) ((2 : Int) ^ min (32 : Nat) (IntKind.bits .u64))
private abbrev e1 (y_ : Int) : Int := wrap .u64 (y_ * 2 ^ min (Int.toNat (wrap .u64 (val (y10 y_)))) (IntKind.bits .u64))
private abbrev e2 (y_ : Int) : Int := wrap .u64 (val (y10 y_))
private abbrev e3  : Int := (2 : Int) ^ min (32 : Nat) (IntKind.bits .u64)
private abbrev e4 (lo : Int) (y_ : Int) : Int := wrap .u64 (lo * 2 ^ min (Int.toNat (e2 y_)) (IntKind.bits .u64))
private abbrev e5 (y_ : Int) : Int := val (y10 y_)
private abbrev e6 (lo : Int) (y_ : Int) : Int := Int.fdiv lo ((2 : Int) ^ min (Int.toNat (wrap .u64 (64 - wrap .u64 (e5 y_)))) (IntKind.bits .u64))
private abbrev e7 (hi : Int) (y_ : Int) : Int := wrap .u64 (hi * 2 ^ min (Int.toNat (e2 y_)) (IntKind.bits .u64))
private abbrev e8 (hi : Int) (lo : Int) (y_ : Int) : Int := wrap .u64 (↑(BitVec.toNat (BitVec.ofInt (IntKind.bits .u64) (e7 hi y_) ||| BitVec.ofInt (IntKind.bits .u64) (e6 lo y_))) : Int)
private abbrev e9 (y_ : Int) : Int := (2 : Int) ^ min (Int.toNat (e2 y_)) (IntKind.bits .u64)
abbrev jlq (lo : Int) (y_ : Int) := (↑(BitVec.toNat (BitVec.ofInt (IntKind.bits .u64) (e4 lo y_) &&& BitVec.ofInt (IntKind.bits .u64) (4294967295 : Int))) : Int)
abbrev jch (y_ : Int) := (y_ * 2 ^ min (Int.toNat (e2 y_)) (IntKind.bits .u64))
abbrev jmZ (y_ : Int) := (↑(BitVec.toNat (BitVec.ofInt (IntKind.bits .u64) (e1 y_) &&& BitVec.ofInt (IntKind.bits .u64) (4294967295 : Int))) : Int)
abbrev ji3 (hi : Int) (lo : Int) (y_ : Int) (v1 : Int × (Int × Int) × Nat) := (wrap .u64 (wrap .u64 (wrap .u64 (wrap .u64 (wrap .u64 (e0 hi lo y_) - wrap .u64 (v1.1 * wrap .u64 (jch y_))) * 4294967296) + wrap .u64 (jlq lo y_)) - wrap .u64 (wrap .u64 (v1.2.1.2 - 1) * wrap .u64 (jch y_))))
abbrev ji4 (hi : Int) (lo : Int) (y_ : Int) (v1 : Int × (Int × Int) × Nat) (v2 : Int × (Int × Int) × Nat) := (wrap .u64 (wrap .u64 (e0 hi lo y_) - wrap .u64 (v1.1 * wrap .u64 (jch y_))) = wrap .u64 (wrap .u64 (e0 hi lo y_) - wrap .u64 (v2.1 * wrap .u64 (jch y_))))
abbrev jfQ (hi : Int) (lo : Int) (y_ : Int) (v0 : (Int × Int) × Nat) := (wrap .u64 (e0 hi lo y_) - wrap .u64 (wrap .u64 (v0.1.1 - 1) * wrap .u64 (jch y_)))
abbrev jhq (hi : Int) (lo : Int) (y_ : Int) := (↑(BitVec.toNat (BitVec.ofInt (IntKind.bits .u64) (e7 hi y_) ||| BitVec.ofInt (IntKind.bits .u64) (e6 lo y_))) : Int)
abbrev jdb (lo : Int) (y_ : Int) := (wrap .u64 (jlq lo y_) = wrap .u64 (jlq lo y_))
abbrev jdc (y_ : Int) := (wrap .u64 (jch y_) = wrap .u64 (jch y_))
abbrev jdd (y_ : Int) := (wrap .u64 (jmZ y_) = wrap .u64 (jmZ y_))
abbrev jcu (y_ : Int) := (wrap .u64 (e5 y_) = wrap .u64 (e5 y_))
abbrev jok (hi : Int) (lo : Int) (y_ : Int) (v1 : Int × (Int × Int) × Nat) := (wrap .u64 (wrap .u64 (wrap .u64 (wrap .u64 (wrap .u64 (e0 hi lo y_) - wrap .u64 (v1.1 * wrap .u64 (jch y_))) * 4294967296) + wrap .u64 (jlq lo y_)) - wrap .u64 (v1.2.1.2 * wrap .u64 (jch y_))))
abbrev jcv (y_ : Int) := (Int.fdiv (e1 y_) (e3 ) = Int.fdiv (e1 y_) (e3 ))
abbrev jgz (v1 : Int × (Int × Int) × Nat) := (wrap .u64 (v1.1 * 4294967296) + wrap .u64 (v1.2.1.2 - 1))
abbrev jcw (y_ : Int) := (0 ≤ wrap .u64 (e5 y_))
abbrev jgA (y_ : Int) (v1 : Int × (Int × Int) × Nat) := (decide (wrap .u64 (v1.2.1.1 + Int.fdiv (e1 y_) (e3 )) ≥ 4294967296))
abbrev jol (lo : Int) (y_ : Int) (v1 : Int × (Int × Int) × Nat) := (decide (wrap .u64 (v1.2.1.2 * wrap .u64 (jmZ y_)) > wrap .u64 (wrap .u64 (4294967296 * v1.2.1.1) + wrap .u64 (jlq lo y_))))
abbrev jcx (lo : Int) (y_ : Int) := (y112 lo y_ (e5 y_))
theorem jiG (hi : Int) (lo : Int) (y_ : Int) (r : Int × Int) (h : Option.bind (y73 hi lo y_) some = some r) : ja8 Tryz.f127 ((sp_150 sp0)) (fun gs id _ => match id with
 | 0 => some ⟨(Int × Int) × Nat, fun z => ⟨[(2, .w (.c (.d (.i .u64 (e1 y_))))), (8, .w (.c (.d (.i .u64 (e2 y_))))), (9, .w (.c (.d (.i .u64 (Int.fdiv (e1 y_) (e3 )))))), (10, .w (.c (.d (.i .u64 (wrap .u64 (↑(BitVec.toNat (BitVec.ofInt (IntKind.bits .u64) (e1 y_) &&& BitVec.ofInt (IntKind.bits .u64) (4294967295 : Int))) : Int)))))), (11, .w (.c (.d (.i .u64 (e8 hi lo y_))))), (13, .w (.c (.d (.i .u64 (Int.fdiv (e4 lo y_) (e3 )))))), (14, .w (.c (.d (.i .u64 (wrap .u64 (↑(BitVec.toNat (BitVec.ofInt (IntKind.bits .u64) (e4 lo y_) &&& BitVec.ofInt (IntKind.bits .u64) (4294967295 : Int))) : Int)))))), (15, .w (.c (.d (.i .u64 (Prod.fst (Prod.fst z)))))), (16, .w (.c (.d (.i .u64 (Prod.snd (Prod.fst z))))))], [], 3⟩, fun z => Option.bind (jae (y52 lo y_ (e5 y_)) (Prod.snd z) (Prod.fst z)) (fun y0 => Option.bind (y53 hi lo y_ (e5 y_) y0) some) = some r, fun z => Prod.snd z⟩
 | 2 => some ⟨Int × (Int × Int) × Nat, fun z => ⟨[(2, .w (.c (.d (.i .u64 (e1 y_))))), (8, .w (.c (.d (.i .u64 (e2 y_))))), (9, .w (.c (.d (.i .u64 (Int.fdiv (e1 y_) (e3 )))))), (10, .w (.c (.d (.i .u64 (wrap .u64 (↑(BitVec.toNat (BitVec.ofInt (IntKind.bits .u64) (e1 y_) &&& BitVec.ofInt (IntKind.bits .u64) (4294967295 : Int))) : Int)))))), (14, .w (.c (.d (.i .u64 (wrap .u64 (↑(BitVec.toNat (BitVec.ofInt (IntKind.bits .u64) (e4 lo y_) &&& BitVec.ofInt (IntKind.bits .u64) (4294967295 : Int))) : Int)))))), (15, .w (.c (.d (.i .u64 (Prod.fst z))))), (16, .w (.c (.d (.i .u64 (Prod.fst (Prod.fst (Prod.snd z))))))), (17, .w (.c (.d (.i .u64 (wrap .u64 (wrap .u64 (e0 hi lo y_) - wrap .u64 (Prod.fst z * wrap .u64 (y_ * 2 ^ min (Int.toNat (e2 y_)) (IntKind.bits .u64))))))))), (18, .w (.c (.d (.i .u64 (Prod.snd (Prod.fst (Prod.snd z)))))))], [], 3⟩, fun z => Option.bind (jae (y112 lo y_ (e5 y_)) (Prod.snd (Prod.snd z)) (Prod.fst (Prod.snd z))) (fun y0 => Option.bind (y12 hi lo y_ (Prod.fst z) (e5 y_) y0) some) = some r, fun z => Prod.snd (Prod.snd z)⟩
 | _ => none) [.d (.i .u64 hi), .d (.i .u64 lo), .d (.i .u64 y_)] [.d (.i .u64 r.1), .d (.i .u64 r.2)] := by
 refine Eq.mp (by kernel_rfl : (
 Br (y_ == 0)
  (False)
 (Br (decide (y_ ≤ hi))
  (False)
 (Br (hi == 0)
  ((Ob (y_ ≠ (0 : Int)) ∧
 (Ob (y_ ≠ (0 : Int)) ∧
 (Ob True ∧
 (Ob True ∧
 (Ob (wrap .u64 (Int.tdiv lo y_) = r.1) ∧
 (Ob (Int.tmod lo y_ = r.2) ∧
 True)))))))
  ((Ob (ok (y10 y_)) ∧
 (Ob True ∧
 (Ob (jcw y_) ∧
 (Ob ((0 : Int) ≤ 32) ∧
 (Ob (jcw y_) ∧
 (Ob (0 ≤ wrap .u64 (64 - wrap .u64 (e5 y_))) ∧
 (Ob (jcw y_) ∧
 (Ob ((0 : Int) ≤ 32) ∧
 (Ob (Int.fdiv (e1 y_) (e3 ) ≠ (0 : Int)) ∧
  ((∃ (v0 : (Int × Int) × Nat), (Ob ((Option.bind (jae (y52 lo y_ (e5 y_)) v0.2 v0.1) fun y0 => Option.bind (y53 hi lo y_ (e5 y_) y0) some) = some r) ∧
 (Ob (jdc y_) ∧
 (Ob (jcu y_) ∧
 (Ob (jcv y_) ∧
 (Ob (jdd y_) ∧
 (Ob (wrap .u64 (jhq hi lo y_) = wrap .u64 (jhq hi lo y_)) ∧
 (Ob (Int.fdiv (e4 lo y_) (e3 ) = Int.fdiv (e4 lo y_) (e3 )) ∧
 (Ob (jdb lo y_) ∧
 (Ob (wrap .u64 (Int.tdiv (e8 hi lo y_) (Int.fdiv (e1 y_) (e3 ))) = v0.1.1) ∧
 (Ob (wrap .u64 (wrap .u64 (jhq hi lo y_) - wrap .u64 (wrap .u64 (Int.tdiv (e8 hi lo y_) (Int.fdiv (e1 y_) (e3 ))) * Int.fdiv (e1 y_) (e3 ))) = v0.1.2) ∧
 True))))))))))) ∧
  (∀ (v0 : (Int × Int) × Nat), ((Option.bind (jae (y52 lo y_ (e5 y_)) v0.2 v0.1) fun y0 => Option.bind (y53 hi lo y_ (e5 y_) y0) some) = some r →
 Br (decide (v0.1.1 ≥ 4294967296))
 (Br (decide (wrap .u64 (v0.1.2 + Int.fdiv (e1 y_) (e3 )) ≥ 4294967296))
  ((Ob (Int.fdiv (e1 y_) (e3 ) ≠ (0 : Int)) ∧
  ((∃ (v1 : Int × (Int × Int) × Nat), (Ob ((Option.bind (jae (jcx lo y_) v1.2.2 v1.2.1) fun y0 => Option.bind (y12 hi lo y_ v1.1 (e5 y_) y0) some) = some r) ∧
 (Ob (jdc y_) ∧
 (Ob (jcu y_) ∧
 (Ob (jcv y_) ∧
 (Ob (jdd y_) ∧
 (Ob (jdb lo y_) ∧
 (Ob (wrap .u64 (v0.1.1 - 1) = v1.1) ∧
 (Ob (wrap .u64 (wrap .u64 (jfQ hi lo y_ v0) - wrap .u64 (wrap .u64 (Int.tdiv (wrap .u64 (jfQ hi lo y_ v0)) (Int.fdiv (e1 y_) (e3 ))) * Int.fdiv (e1 y_) (e3 ))) = v1.2.1.1) ∧
 (Ob (wrap .u64 (jfQ hi lo y_ v0) = wrap .u64 (wrap .u64 (e0 hi lo y_) - wrap .u64 (v1.1 * wrap .u64 (jch y_)))) ∧
 (Ob (wrap .u64 (Int.tdiv (wrap .u64 (jfQ hi lo y_ v0)) (Int.fdiv (e1 y_) (e3 ))) = v1.2.1.2) ∧
 True))))))))))) ∧
  (∀ (v1 : Int × (Int × Int) × Nat), ((Option.bind (jae (jcx lo y_) v1.2.2 v1.2.1) fun y0 => Option.bind (y12 hi lo y_ v1.1 (e5 y_) y0) some) = some r →
 Br (decide (v1.2.1.2 ≥ 4294967296))
 (Br (jgA y_ v1)
  ((Ob (jcw y_) ∧
 (Ob True ∧
 (Ob True ∧
 (Ob (wrap .u64 (jgz v1) = r.1) ∧
 (Ob (Int.fdiv (ji3 hi lo y_ v1) (e9 y_) = r.2) ∧
 True))))))
  ((∃ (v2 : Int × (Int × Int) × Nat), (Ob ((Option.bind (jae (jcx lo y_) v2.2.2 v2.2.1) fun y0 => Option.bind (y12 hi lo y_ v2.1 (e5 y_) y0) some) = some r) ∧
 (Ob (v2.2.2 < v1.2.2) ∧
 (Ob (jdc y_) ∧
 (Ob (jcu y_) ∧
 (Ob (jcv y_) ∧
 (Ob (jdd y_) ∧
 (Ob (jdb lo y_) ∧
 (Ob (v1.1 = v2.1) ∧
 (Ob (wrap .u64 (v1.2.1.1 + Int.fdiv (e1 y_) (e3 )) = v2.2.1.1) ∧
 (Ob (ji4 hi lo y_ v1 v2) ∧
 (Ob (wrap .u64 (v1.2.1.2 - 1) = v2.2.1.2) ∧
 True))))))))))))))
 (Br (jol lo y_ v1)
 (Br (jgA y_ v1)
  ((Ob (jcw y_) ∧
 (Ob True ∧
 (Ob True ∧
 (Ob (wrap .u64 (jgz v1) = r.1) ∧
 (Ob (Int.fdiv (ji3 hi lo y_ v1) (e9 y_) = r.2) ∧
 True))))))
  ((∃ (v2 : Int × (Int × Int) × Nat), (Ob ((Option.bind (jae (jcx lo y_) v2.2.2 v2.2.1) fun y0 => Option.bind (y12 hi lo y_ v2.1 (e5 y_) y0) some) = some r) ∧
 (Ob (v2.2.2 < v1.2.2) ∧
 (Ob (jdc y_) ∧
 (Ob (jcu y_) ∧
 (Ob (jcv y_) ∧
 (Ob (jdd y_) ∧
 (Ob (jdb lo y_) ∧
 (Ob (v1.1 = v2.1) ∧
 (Ob (wrap .u64 (v1.2.1.1 + Int.fdiv (e1 y_) (e3 )) = v2.2.1.1) ∧
 (Ob (ji4 hi lo y_ v1 v2) ∧
 (Ob (wrap .u64 (v1.2.1.2 - 1) = v2.2.1.2) ∧
 True))))))))))))))
  ((Ob (jcw y_) ∧
 (Ob True ∧
 (Ob True ∧
 (Ob (wrap .u64 (wrap .u64 (v1.1 * 4294967296) + v1.2.1.2) = r.1) ∧
 (Ob (Int.fdiv (jok hi lo y_ v1) (e9 y_) = r.2) ∧
 True))))))))))))
  ((∃ (v1a : (Int × Int) × Nat), (Ob ((Option.bind (jae (y52 lo y_ (e5 y_)) v1a.2 v1a.1) fun y0 => Option.bind (y53 hi lo y_ (e5 y_) y0) some) = some r) ∧
 (Ob (v1a.2 < v0.2) ∧
 (Ob (jdc y_) ∧
 (Ob (jcu y_) ∧
 (Ob (jcv y_) ∧
 (Ob (jdd y_) ∧
 (Ob (wrap .u64 (jhq hi lo y_) = wrap .u64 (jhq hi lo y_)) ∧
 (Ob (Int.fdiv (e4 lo y_) (e3 ) = Int.fdiv (e4 lo y_) (e3 )) ∧
 (Ob (jdb lo y_) ∧
 (Ob (wrap .u64 (v0.1.1 - 1) = v1a.1.1) ∧
 (Ob (wrap .u64 (v0.1.2 + Int.fdiv (e1 y_) (e3 )) = v1a.1.2) ∧
 True))))))))))))))
 (Br (decide (wrap .u64 (v0.1.1 * wrap .u64 (jmZ y_)) > wrap .u64 (wrap .u64 (4294967296 * v0.1.2) + Int.fdiv (e4 lo y_) (e3 ))))
 (Br (decide (wrap .u64 (v0.1.2 + Int.fdiv (e1 y_) (e3 )) ≥ 4294967296))
  ((Ob (Int.fdiv (e1 y_) (e3 ) ≠ (0 : Int)) ∧
  ((∃ (v1 : Int × (Int × Int) × Nat), (Ob ((Option.bind (jae (jcx lo y_) v1.2.2 v1.2.1) fun y0 => Option.bind (y12 hi lo y_ v1.1 (e5 y_) y0) some) = some r) ∧
 (Ob (jdc y_) ∧
 (Ob (jcu y_) ∧
 (Ob (jcv y_) ∧
 (Ob (jdd y_) ∧
 (Ob (jdb lo y_) ∧
 (Ob (wrap .u64 (v0.1.1 - 1) = v1.1) ∧
 (Ob (wrap .u64 (wrap .u64 (jfQ hi lo y_ v0) - wrap .u64 (wrap .u64 (Int.tdiv (wrap .u64 (jfQ hi lo y_ v0)) (Int.fdiv (e1 y_) (e3 ))) * Int.fdiv (e1 y_) (e3 ))) = v1.2.1.1) ∧
 (Ob (wrap .u64 (jfQ hi lo y_ v0) = wrap .u64 (wrap .u64 (e0 hi lo y_) - wrap .u64 (v1.1 * wrap .u64 (jch y_)))) ∧
 (Ob (wrap .u64 (Int.tdiv (wrap .u64 (jfQ hi lo y_ v0)) (Int.fdiv (e1 y_) (e3 ))) = v1.2.1.2) ∧
 True))))))))))) ∧
  (∀ (v1 : Int × (Int × Int) × Nat), ((Option.bind (jae (jcx lo y_) v1.2.2 v1.2.1) fun y0 => Option.bind (y12 hi lo y_ v1.1 (e5 y_) y0) some) = some r →
 Br (decide (v1.2.1.2 ≥ 4294967296))
 (Br (jgA y_ v1)
  ((Ob (jcw y_) ∧
 (Ob True ∧
 (Ob True ∧
 (Ob (wrap .u64 (jgz v1) = r.1) ∧
 (Ob (Int.fdiv (ji3 hi lo y_ v1) (e9 y_) = r.2) ∧
 True))))))
  ((∃ (v2 : Int × (Int × Int) × Nat), (Ob ((Option.bind (jae (jcx lo y_) v2.2.2 v2.2.1) fun y0 => Option.bind (y12 hi lo y_ v2.1 (e5 y_) y0) some) = some r) ∧
 (Ob (v2.2.2 < v1.2.2) ∧
 (Ob (jdc y_) ∧
 (Ob (jcu y_) ∧
 (Ob (jcv y_) ∧
 (Ob (jdd y_) ∧
 (Ob (jdb lo y_) ∧
 (Ob (v1.1 = v2.1) ∧
 (Ob (wrap .u64 (v1.2.1.1 + Int.fdiv (e1 y_) (e3 )) = v2.2.1.1) ∧
 (Ob (ji4 hi lo y_ v1 v2) ∧
 (Ob (wrap .u64 (v1.2.1.2 - 1) = v2.2.1.2) ∧
 True))))))))))))))
 (Br (jol lo y_ v1)
 (Br (jgA y_ v1)
  ((Ob (jcw y_) ∧
 (Ob True ∧
 (Ob True ∧
 (Ob (wrap .u64 (jgz v1) = r.1) ∧
 (Ob (Int.fdiv (ji3 hi lo y_ v1) (e9 y_) = r.2) ∧
 True))))))
  ((∃ (v2 : Int × (Int × Int) × Nat), (Ob ((Option.bind (jae (jcx lo y_) v2.2.2 v2.2.1) fun y0 => Option.bind (y12 hi lo y_ v2.1 (e5 y_) y0) some) = some r) ∧
 (Ob (v2.2.2 < v1.2.2) ∧
 (Ob (jdc y_) ∧
 (Ob (jcu y_) ∧
 (Ob (jcv y_) ∧
 (Ob (jdd y_) ∧
 (Ob (jdb lo y_) ∧
 (Ob (v1.1 = v2.1) ∧
 (Ob (wrap .u64 (v1.2.1.1 + Int.fdiv (e1 y_) (e3 )) = v2.2.1.1) ∧
 (Ob (ji4 hi lo y_ v1 v2) ∧
 (Ob (wrap .u64 (v1.2.1.2 - 1) = v2.2.1.2) ∧
 True))))))))))))))
  ((Ob (jcw y_) ∧
 (Ob True ∧
 (Ob True ∧
 (Ob (wrap .u64 (wrap .u64 (v1.1 * 4294967296) + v1.2.1.2) = r.1) ∧
 (Ob (Int.fdiv (jok hi lo y_ v1) (e9 y_) = r.2) ∧
 True))))))))))))
  ((∃ (v1a : (Int × Int) × Nat), (Ob ((Option.bind (jae (y52 lo y_ (e5 y_)) v1a.2 v1a.1) fun y0 => Option.bind (y53 hi lo y_ (e5 y_) y0) some) = some r) ∧
 (Ob (v1a.2 < v0.2) ∧
 (Ob (jdc y_) ∧
 (Ob (jcu y_) ∧
 (Ob (jcv y_) ∧
 (Ob (jdd y_) ∧
 (Ob (wrap .u64 (jhq hi lo y_) = wrap .u64 (jhq hi lo y_)) ∧
 (Ob (Int.fdiv (e4 lo y_) (e3 ) = Int.fdiv (e4 lo y_) (e3 )) ∧
 (Ob (jdb lo y_) ∧
 (Ob (wrap .u64 (v0.1.1 - 1) = v1a.1.1) ∧
 (Ob (wrap .u64 (v0.1.2 + Int.fdiv (e1 y_) (e3 )) = v1a.1.2) ∧
 True))))))))))))))
  ((Ob (Int.fdiv (e1 y_) (e3 ) ≠ (0 : Int)) ∧
  ((∃ (v1 : Int × (Int × Int) × Nat), (Ob ((Option.bind (jae (jcx lo y_) v1.2.2 v1.2.1) fun y0 => Option.bind (y12 hi lo y_ v1.1 (e5 y_) y0) some) = some r) ∧
 (Ob (jdc y_) ∧
 (Ob (jcu y_) ∧
 (Ob (jcv y_) ∧
 (Ob (jdd y_) ∧
 (Ob (jdb lo y_) ∧
 (Ob (v0.1.1 = v1.1) ∧
 (Ob (wrap .u64 (wrap .u64 (wrap .u64 (e0 hi lo y_) - wrap .u64 (v0.1.1 * wrap .u64 (jch y_))) - wrap .u64 (wrap .u64 (Int.tdiv (wrap .u64 (wrap .u64 (e0 hi lo y_) - wrap .u64 (v0.1.1 * wrap .u64 (jch y_)))) (Int.fdiv (e1 y_) (e3 ))) * Int.fdiv (e1 y_) (e3 ))) = v1.2.1.1) ∧
 (Ob (wrap .u64 (wrap .u64 (e0 hi lo y_) - wrap .u64 (v0.1.1 * wrap .u64 (jch y_))) = wrap .u64 (wrap .u64 (e0 hi lo y_) - wrap .u64 (v1.1 * wrap .u64 (jch y_)))) ∧
 (Ob (wrap .u64 (Int.tdiv (wrap .u64 (wrap .u64 (e0 hi lo y_) - wrap .u64 (v0.1.1 * wrap .u64 (jch y_)))) (Int.fdiv (e1 y_) (e3 ))) = v1.2.1.2) ∧
 True))))))))))) ∧
  (∀ (v1 : Int × (Int × Int) × Nat), ((Option.bind (jae (jcx lo y_) v1.2.2 v1.2.1) fun y0 => Option.bind (y12 hi lo y_ v1.1 (e5 y_) y0) some) = some r →
 Br (decide (v1.2.1.2 ≥ 4294967296))
 (Br (jgA y_ v1)
  ((Ob (jcw y_) ∧
 (Ob True ∧
 (Ob True ∧
 (Ob (wrap .u64 (jgz v1) = r.1) ∧
 (Ob (Int.fdiv (ji3 hi lo y_ v1) (e9 y_) = r.2) ∧
 True))))))
  ((∃ (v2 : Int × (Int × Int) × Nat), (Ob ((Option.bind (jae (jcx lo y_) v2.2.2 v2.2.1) fun y0 => Option.bind (y12 hi lo y_ v2.1 (e5 y_) y0) some) = some r) ∧
 (Ob (v2.2.2 < v1.2.2) ∧
 (Ob (jdc y_) ∧
 (Ob (jcu y_) ∧
 (Ob (jcv y_) ∧
 (Ob (jdd y_) ∧
 (Ob (jdb lo y_) ∧
 (Ob (v1.1 = v2.1) ∧
 (Ob (wrap .u64 (v1.2.1.1 + Int.fdiv (e1 y_) (e3 )) = v2.2.1.1) ∧
 (Ob (ji4 hi lo y_ v1 v2) ∧
 (Ob (wrap .u64 (v1.2.1.2 - 1) = v2.2.1.2) ∧
 True))))))))))))))
 (Br (jol lo y_ v1)
 (Br (jgA y_ v1)
  ((Ob (jcw y_) ∧
 (Ob True ∧
 (Ob True ∧
 (Ob (wrap .u64 (jgz v1) = r.1) ∧
 (Ob (Int.fdiv (ji3 hi lo y_ v1) (e9 y_) = r.2) ∧
 True))))))
  ((∃ (v2 : Int × (Int × Int) × Nat), (Ob ((Option.bind (jae (jcx lo y_) v2.2.2 v2.2.1) fun y0 => Option.bind (y12 hi lo y_ v2.1 (e5 y_) y0) some) = some r) ∧
 (Ob (v2.2.2 < v1.2.2) ∧
 (Ob (jdc y_) ∧
 (Ob (jcu y_) ∧
 (Ob (jcv y_) ∧
 (Ob (jdd y_) ∧
 (Ob (jdb lo y_) ∧
 (Ob (v1.1 = v2.1) ∧
 (Ob (wrap .u64 (v1.2.1.1 + Int.fdiv (e1 y_) (e3 )) = v2.2.1.1) ∧
 (Ob (ji4 hi lo y_ v1 v2) ∧
 (Ob (wrap .u64 (v1.2.1.2 - 1) = v2.2.1.2) ∧
 True))))))))))))))
  ((Ob (jcw y_) ∧
 (Ob True ∧
 (Ob True ∧
 (Ob (wrap .u64 (wrap .u64 (v1.1 * 4294967296) + v1.2.1.2) = r.1) ∧
 (Ob (Int.fdiv (jok hi lo y_ v1) (e9 y_) = r.2) ∧
 True))))))))))))))))))))))))))))) = _) ?_
 refine jaS h (fun h => ?_) (fun h => ?_)
 ·exact nomatch h
 ·refine jaC h (fun h => ?_) (fun h => ?_)
  ·exact nomatch h
  ·refine jaS h (fun h => ?_) (fun h => ?_)
   ·refine jaj h fun h => ?_
    refine jaj h fun h => ?_
    refine jac ?_
    refine jac ?_
    exact rcs h
   ·refine jaE h fun h => ?_
    refine jac ?_
    refine jaj h fun h => ?_
    refine jdL (p := (0 : Int) ≤ 32) (by decide) ?_
    refine jaj h fun h => ?_
    refine jaj h fun h => ?_
    refine jaj h fun h => ?_
    refine jdL (p := (0 : Int) ≤ 32) (by decide) ?_
    refine jaj h fun h => ?_
    refine ⟨⟨((wrap .u64 (Int.tdiv (e8 hi lo y_) (Int.fdiv (e1 y_) (e3 ))), wrap .u64 (wrap .u64 (↑(BitVec.toNat (BitVec.ofInt (IntKind.bits .u64) (e7 hi y_) ||| BitVec.ofInt (IntKind.bits .u64) (e6 lo y_))) : Int) - wrap .u64 (wrap .u64 (Int.tdiv (e8 hi lo y_) (Int.fdiv (e1 y_) (e3 ))) * Int.fdiv (e1 y_) (e3 )))), big), ⟨jaX h⟩, (by repeat' constructor)⟩, fun z1 hz1 => ?_⟩
    obtain ⟨k1, hm1, h⟩ := jaH hz1
    refine jaC h (fun h => ?_) (fun h => ?_)
    ·refine jaC h (fun h => ?_) (fun h => ?_)
     ·have h := jar h
      refine jaj h fun h => ?_
      refine ⟨⟨(wrap .u64 ((Prod.fst z1).1 - 1), (wrap .u64 (wrap .u64 (wrap .u64 (e0 hi lo y_) - wrap .u64 (wrap .u64 ((Prod.fst z1).1 - 1) * wrap .u64 (y_ * 2 ^ min (Int.toNat (e2 y_)) (IntKind.bits .u64)))) - wrap .u64 (wrap .u64 (Int.tdiv (wrap .u64 (wrap .u64 (e0 hi lo y_) - wrap .u64 (wrap .u64 ((Prod.fst z1).1 - 1) * wrap .u64 (y_ * 2 ^ min (Int.toNat (e2 y_)) (IntKind.bits .u64))))) (Int.fdiv (e1 y_) (e3 ))) * Int.fdiv (e1 y_) (e3 ))), wrap .u64 (Int.tdiv (wrap .u64 (wrap .u64 (e0 hi lo y_) - wrap .u64 (wrap .u64 ((Prod.fst z1).1 - 1) * wrap .u64 (y_ * 2 ^ min (Int.toNat (e2 y_)) (IntKind.bits .u64))))) (Int.fdiv (e1 y_) (e3 )))), big), ⟨jaX h⟩, (by repeat' constructor)⟩, fun z2 hz2 => ?_⟩
      obtain ⟨k2, hm2, h⟩ := jaH hz2
      refine jaC h (fun h => ?_) (fun h => ?_)
      ·refine jaC h (fun h => ?_) (fun h => ?_)
       ·have h := jar h
        refine jaj h fun h => ?_
        refine jac ?_
        refine jac ?_
        exact rcs h
       ·exact ⟨(Prod.fst z2, _, k2), ⟨jaG h⟩, ⟨jaQ hm2.symm⟩, (by repeat' constructor)⟩
      ·refine jaC h (fun h => ?_) (fun h => ?_)
       ·refine jaC h (fun h => ?_) (fun h => ?_)
        ·have h := jar h
         refine jaj h fun h => ?_
         refine jac ?_
         refine jac ?_
         exact rcs h
        ·exact ⟨(Prod.fst z2, _, k2), ⟨jaG h⟩, ⟨jaQ hm2.symm⟩, (by repeat' constructor)⟩
       ·have h := jar h
        refine jaj h fun h => ?_
        refine jac ?_
        refine jac ?_
        exact rcs h
     ·exact ⟨(_, k1), ⟨jaG h⟩, ⟨jaQ hm1.symm⟩, (by repeat' constructor)⟩
    ·refine jaC h (fun h => ?_) (fun h => ?_)
     ·refine jaC h (fun h => ?_) (fun h => ?_)
      ·have h := jar h
       refine jaj h fun h => ?_
       refine ⟨⟨(wrap .u64 ((Prod.fst z1).1 - 1), (wrap .u64 (wrap .u64 (wrap .u64 (e0 hi lo y_) - wrap .u64 (wrap .u64 ((Prod.fst z1).1 - 1) * wrap .u64 (y_ * 2 ^ min (Int.toNat (e2 y_)) (IntKind.bits .u64)))) - wrap .u64 (wrap .u64 (Int.tdiv (wrap .u64 (wrap .u64 (e0 hi lo y_) - wrap .u64 (wrap .u64 ((Prod.fst z1).1 - 1) * wrap .u64 (y_ * 2 ^ min (Int.toNat (e2 y_)) (IntKind.bits .u64))))) (Int.fdiv (e1 y_) (e3 ))) * Int.fdiv (e1 y_) (e3 ))), wrap .u64 (Int.tdiv (wrap .u64 (wrap .u64 (e0 hi lo y_) - wrap .u64 (wrap .u64 ((Prod.fst z1).1 - 1) * wrap .u64 (y_ * 2 ^ min (Int.toNat (e2 y_)) (IntKind.bits .u64))))) (Int.fdiv (e1 y_) (e3 )))), big), ⟨jaX h⟩, (by repeat' constructor)⟩, fun z3 hz3 => ?_⟩
       obtain ⟨k3, hm3, h⟩ := jaH hz3
       refine jaC h (fun h => ?_) (fun h => ?_)
       ·refine jaC h (fun h => ?_) (fun h => ?_)
        ·have h := jar h
         refine jaj h fun h => ?_
         refine jac ?_
         refine jac ?_
         exact rcs h
        ·exact ⟨(Prod.fst z3, _, k3), ⟨jaG h⟩, ⟨jaQ hm3.symm⟩, (by repeat' constructor)⟩
       ·refine jaC h (fun h => ?_) (fun h => ?_)
        ·refine jaC h (fun h => ?_) (fun h => ?_)
         ·have h := jar h
          refine jaj h fun h => ?_
          refine jac ?_
          refine jac ?_
          exact rcs h
         ·exact ⟨(Prod.fst z3, _, k3), ⟨jaG h⟩, ⟨jaQ hm3.symm⟩, (by repeat' constructor)⟩
        ·have h := jar h
         refine jaj h fun h => ?_
         refine jac ?_
         refine jac ?_
         exact rcs h
      ·exact ⟨(_, k1), ⟨jaG h⟩, ⟨jaQ hm1.symm⟩, (by repeat' constructor)⟩
     ·have h := jar h
      refine jaj h fun h => ?_
      refine ⟨⟨((Prod.fst z1).1, (wrap .u64 (wrap .u64 (wrap .u64 (e0 hi lo y_) - wrap .u64 ((Prod.fst z1).1 * wrap .u64 (y_ * 2 ^ min (Int.toNat (e2 y_)) (IntKind.bits .u64)))) - wrap .u64 (wrap .u64 (Int.tdiv (wrap .u64 (wrap .u64 (e0 hi lo y_) - wrap .u64 ((Prod.fst z1).1 * wrap .u64 (y_ * 2 ^ min (Int.toNat (e2 y_)) (IntKind.bits .u64))))) (Int.fdiv (e1 y_) (e3 ))) * Int.fdiv (e1 y_) (e3 ))), wrap .u64 (Int.tdiv (wrap .u64 (wrap .u64 (e0 hi lo y_) - wrap .u64 ((Prod.fst z1).1 * wrap .u64 (y_ * 2 ^ min (Int.toNat (e2 y_)) (IntKind.bits .u64))))) (Int.fdiv (e1 y_) (e3 )))), big), ⟨jaX h⟩, (by repeat' constructor)⟩, fun z4 hz4 => ?_⟩
      obtain ⟨k4, hm4, h⟩ := jaH hz4
      refine jaC h (fun h => ?_) (fun h => ?_)
      ·refine jaC h (fun h => ?_) (fun h => ?_)
       ·have h := jar h
        refine jaj h fun h => ?_
        refine jac ?_
        refine jac ?_
        exact rcs h
       ·exact ⟨(Prod.fst z4, _, k4), ⟨jaG h⟩, ⟨jaQ hm4.symm⟩, (by repeat' constructor)⟩
      ·refine jaC h (fun h => ?_) (fun h => ?_)
       ·refine jaC h (fun h => ?_) (fun h => ?_)
        ·have h := jar h
         refine jaj h fun h => ?_
         refine jac ?_
         refine jac ?_
         exact rcs h
        ·exact ⟨(Prod.fst z4, _, k4), ⟨jaG h⟩, ⟨jaQ hm4.symm⟩, (by repeat' constructor)⟩
       ·have h := jar h
        refine jaj h fun h => ?_
        refine jac ?_
        refine jac ?_
        exact rcs h
theorem jiH : jaf Tryz.prog 127 true (jaq jeO y126) := by
 refine jaw (sp := (sp_150 sp0)) (fn := Tryz.f127) (body := jah Tryz.f127) mixed (sp_150_ok jao) Tryz.func127 (by kernel_rfl) (by kernel_rfl) fun as_ ob rs h ho => ?_
 unfold y126 at h
 split at h
 ·rename_i hi lo y_
  cases h
  exact ⟨Nat.le_of_ble_eq_true rfl, _, _, jiG hi lo y_ _ (jan ho)⟩
 ·cases h
theorem sp_127_ok {sp : jaa} (h : jab Tryz.prog sp) : jab Tryz.prog (sp_127 sp) := jag jiH h
def y113 : List SV := [.c (.d), .c (.d), .c (.p [.p [.d, .r (.floats .f32 []), .d, .d, .r (.recs 2 []), .r (.recs 2 [])]])]
def y15 (u66 : Int) (u67 : Int) (u11 : Int) (u12 : List Nat) (u13 : Int) (u14 : Int) (u15 : List (List Int)) (u16 : List (List Int)) : Option (Int × Bool) :=
 Option.bind (y8 (wrap .u64 u66) (1000000 : Int)) fun r0 =>
 Option.bind (y73 (wrap .u64 (wrap .u64 (wrap .u64 (Int.fdiv (wrap .u64 u66) ((2 : Int) ^ min (32 : Nat) (IntKind.bits .u64)) * Int.fdiv (1000000 : Int) ((2 : Int) ^ min (32 : Nat) (IntKind.bits .u64))) + Int.fdiv (wrap .u64 (wrap .u64 (Int.fdiv (wrap .u64 u66) ((2 : Int) ^ min (32 : Nat) (IntKind.bits .u64)) * wrap .u64 (↑(BitVec.toNat (BitVec.ofInt (IntKind.bits .u64) (1000000 : Int) &&& BitVec.ofInt (IntKind.bits .u64) (4294967295 : Int))) : Int)) + Int.fdiv (wrap .u64 (wrap .u64 (↑(BitVec.toNat (BitVec.ofInt (IntKind.bits .u64) (wrap .u64 u66) &&& BitVec.ofInt (IntKind.bits .u64) (4294967295 : Int))) : Int) * wrap .u64 (↑(BitVec.toNat (BitVec.ofInt (IntKind.bits .u64) (1000000 : Int) &&& BitVec.ofInt (IntKind.bits .u64) (4294967295 : Int))) : Int))) ((2 : Int) ^ min (32 : Nat) (IntKind.bits .u64)))) ((2 : Int) ^ min (32 : Nat) (IntKind.bits .u64))) + Int.fdiv (wrap .u64 (wrap .u64 (↑(BitVec.toNat (BitVec.ofInt (IntKind.bits .u64) (wrap .u64 (wrap .u64 (Int.fdiv (wrap .u64 u66) ((2 : Int) ^ min (32 : Nat) (IntKind.bits .u64)) * wrap .u64 (↑(BitVec.toNat (BitVec.ofInt (IntKind.bits .u64) (1000000 : Int) &&& BitVec.ofInt (IntKind.bits .u64) (4294967295 : Int))) : Int)) + Int.fdiv (wrap .u64 (wrap .u64 (↑(BitVec.toNat (BitVec.ofInt (IntKind.bits .u64) (wrap .u64 u66) &&& BitVec.ofInt (IntKind.bits .u64) (4294967295 : Int))) : Int) * wrap .u64 (↑(BitVec.toNat (BitVec.ofInt (IntKind.bits .u64) (1000000 : Int) &&& BitVec.ofInt (IntKind.bits .u64) (4294967295 : Int))) : Int))) ((2 : Int) ^ min (32 : Nat) (IntKind.bits .u64)))) &&& BitVec.ofInt (IntKind.bits .u64) (4294967295 : Int))) : Int) + wrap .u64 (wrap .u64 (↑(BitVec.toNat (BitVec.ofInt (IntKind.bits .u64) (wrap .u64 u66) &&& BitVec.ofInt (IntKind.bits .u64) (4294967295 : Int))) : Int) * Int.fdiv (1000000 : Int) ((2 : Int) ^ min (32 : Nat) (IntKind.bits .u64))))) ((2 : Int) ^ min (32 : Nat) (IntKind.bits .u64)))) (wrap .u64 (wrap .u64 u66 * 1000000)) (wrap .u64 (wrap .i64 (u67 * u11)))) fun r1 =>
 some ((wrap .i64 r1.1, decide (r1.2 > 0)))
def y114 : List Lf → Option GT
 | [.d (.i .i64 u66), .d (.i .i64 u67), .d (.i .i64 u11), .r (.floats .f32 u12), .d (.i .i64 u13), .d (.i .i64 u14), .r (.recs 2 u15), .r (.recs 2 u16)] => some (.leaf (ok (y15 u66 u67 u11 u12 u13 u14 u15 u16)) [.c (.d (.i .i64 ((val (y15 u66 u67 u11 u12 u13 u14 u15 u16)).1))), .c (.d (.b ((val (y15 u66 u67 u11 u12 u13 u14 u15 u16)).2)))])
 | _ => none
abbrev sp_125 : jaa → jaa := jav 125 true (jap y113 y114)
abbrev jqz (u66 : Int) (u67 : Int) (u11 : Int) := (y73 (wrap .u64 (wrap .u64 (wrap .u64 (Int.fdiv (wrap .u64 u66) ((2 : Int) ^ min (32 : Nat) (IntKind.bits .u64)) * Int.fdiv (1000000 : Int) ((2 : Int) ^ min (32 : Nat) (IntKind.bits .u64))) + Int.fdiv (wrap .u64 (wrap .u64 (Int.fdiv (wrap .u64 u66) ((2 : Int) ^ min (32 : Nat) (IntKind.bits .u64)) * wrap .u64 (↑(BitVec.toNat (BitVec.ofInt (IntKind.bits .u64) (1000000 : Int) &&& BitVec.ofInt (IntKind.bits .u64) (4294967295 : Int))) : Int)) + Int.fdiv (wrap .u64 (wrap .u64 (↑(BitVec.toNat (BitVec.ofInt (IntKind.bits .u64) (wrap .u64 u66) &&& BitVec.ofInt (IntKind.bits .u64) (4294967295 : Int))) : Int) * wrap .u64 (↑(BitVec.toNat (BitVec.ofInt (IntKind.bits .u64) (1000000 : Int) &&& BitVec.ofInt (IntKind.bits .u64) (4294967295 : Int))) : Int))) ((2 : Int) ^ min (32 : Nat) (IntKind.bits .u64)))) ((2 : Int) ^ min (32 : Nat) (IntKind.bits .u64))) + Int.fdiv (wrap .u64 (wrap .u64 (↑(BitVec.toNat (BitVec.ofInt (IntKind.bits .u64) (wrap .u64 (wrap .u64 (Int.fdiv (wrap .u64 u66) ((2 : Int) ^ min (32 : Nat) (IntKind.bits .u64)) * wrap .u64 (↑(BitVec.toNat (BitVec.ofInt (IntKind.bits .u64) (1000000 : Int) &&& BitVec.ofInt (IntKind.bits .u64) (4294967295 : Int))) : Int)) + Int.fdiv (wrap .u64 (wrap .u64 (↑(BitVec.toNat (BitVec.ofInt (IntKind.bits .u64) (wrap .u64 u66) &&& BitVec.ofInt (IntKind.bits .u64) (4294967295 : Int))) : Int) * wrap .u64 (↑(BitVec.toNat (BitVec.ofInt (IntKind.bits .u64) (1000000 : Int) &&& BitVec.ofInt (IntKind.bits .u64) (4294967295 : Int))) : Int))) ((2 : Int) ^ min (32 : Nat) (IntKind.bits .u64)))) &&& BitVec.ofInt (IntKind.bits .u64) (4294967295 : Int))) : Int) + wrap .u64 (wrap .u64 (↑(BitVec.toNat (BitVec.ofInt (IntKind.bits .u64) (wrap .u64 u66) &&& BitVec.ofInt (IntKind.bits .u64) (4294967295 : Int))) : Int) * Int.fdiv (1000000 : Int) ((2 : Int) ^ min (32 : Nat) (IntKind.bits .u64))))) ((2 : Int) ^ min (32 : Nat) (IntKind.bits .u64)))) (wrap .u64 (wrap .u64 u66 * 1000000)) (wrap .u64 (wrap .i64 (u67 * u11))))
theorem jhJ (u66 : Int) (u67 : Int) (u11 : Int) (u12 : List Nat) (u13 : Int) (u14 : Int) (u15 : List (List Int)) (u16 : List (List Int)) (r : Int × Bool) (h : Option.bind (y15 u66 u67 u11 u12 u13 u14 u15 u16) some = some r) : jbg Tryz.f125 ((sp_126 (sp_127 sp0))) (fun _ _ _ => none) (ja2 y113 [.d (.i .i64 u66), .d (.i .i64 u67), .d (.i .i64 u11), .r (.floats .f32 u12), .d (.i .i64 u13), .d (.i .i64 u14), .r (.recs 2 u15), .r (.recs 2 u16)]) [.c (.d (.i .i64 r.1)), .c (.d (.b r.2))] := by
 refine Eq.mp (by kernel_rfl : (
 (Ob True ∧
 (Ob (ok (y8 (wrap .u64 u66) (1000000 : Int))) ∧
 (Ob True ∧
 (Ob True ∧
 (Ob True ∧
 (Ob (ok (jqz u66 u67 u11)) ∧
 (Ob True ∧
 (Ob True ∧
 (Ob True ∧
 (Ob (wrap .i64 (val (jqz u66 u67 u11)).1 = r.1) ∧
 (Ob (decide ((val (jqz u66 u67 u11)).2 > 0) = r.2) ∧
 True)))))))))))) = _) ?_
 refine jac ?_
 refine jaE h fun h => ?_
 refine jac ?_
 refine jac ?_
 refine jac ?_
 refine jaE h fun h => ?_
 refine jac ?_
 refine jac ?_
 refine jac ?_
 exact rcs h
theorem jhK : jaf Tryz.prog 125 true (jap y113 y114) := by
 refine jaF (sp := (sp_126 (sp_127 sp0))) (fn := Tryz.f125) (body := jah Tryz.f125) mixed (sp_126_ok (sp_127_ok jao)) Tryz.func125 (by kernel_rfl) (by kernel_rfl) fun ls t h ho b hb => ?_
 unfold y114 at h
 split at h
 ·rename_i u66 u67 u11 u12 u13 u14 u15 u16
  cases h
  obtain rfl := jaO hb
  exact ⟨Nat.le_of_ble_eq_true (by kernel_rfl), _, _, jhJ u66 u67 u11 u12 u13 u14 u15 u16 _ (jan ho)⟩
 ·cases h
theorem sp_125_ok {sp : jaa} (h : jab Tryz.prog sp) : jab Tryz.prog (sp_125 sp) := jag jhK h
end Go.Sh
end

section
namespace Go.Sh
open Go Go.Proofs Go.RowKit Go.Sx
open Go.IntKind (wrap)
def y135 : List SV := [.c (.p [.d, .r (.floats .f32 []), .d, .d, .r (.recs 2 []), .r (.recs 2 [])])]
def y80 (u0 : List (List Int)) (x0 : (Int × Int × Int)) : Option ((Int × Int × Int) ⊕ (Int × Int)) :=
 if x0.1 < (↑(List.length u0) : Int) then
  if 0 ≤ x0.1 ∧ x0.1 < (↑(List.length u0) : Int) then
  if Int.toNat x0.1 < List.length u0 then
   Option.bind (jdO x0.2.1 x0.2.2 (wrap .i64 (x0.1 * List.getD (List.getD u0 (Int.toNat x0.1) []) 0 (0 : Int))) (wrap .i64 (x0.1 * List.getD (List.getD u0 (Int.toNat x0.1) []) 1 (0 : Int)))) fun r0 =>
   some (.inl ((wrap .i64 (x0.1 + 1), wrap .i64 (x0.2.1 + wrap .i64 (x0.1 * List.getD (List.getD u0 (Int.toNat x0.1) []) 0 (0 : Int))), wrap .i64 (x0.2.2 + wrap .i64 (x0.1 * List.getD (List.getD u0 (Int.toNat x0.1) []) 1 (0 : Int))))))
  else none
  else none
 else
  some (.inr (x0.2.1, x0.2.2))
def y81 (u1 : Int) (u4 : List Nat) (u5 : Int) (u6 : Int) (u0 : List (List Int)) (u7 : List (List Int)) (u9 : Int × Int) : Option (Int × Int × Int) :=
 if (0 : Int) ≤ 0 ∧ 0 < (↑(List.length u7) : Int) then
  if 0 < List.length u7 then
  Option.bind (y15 u9.1 (List.getD (List.getD u7 (0 : Nat) []) 1 (0 : Int)) u1 u4 u5 u6 u0 u7) fun r1 =>
  if (0 : Int) ≤ 0 ∧ 0 < (↑(List.length u7) : Int) then
   if 0 < List.length u7 then
   Option.bind (y15 u9.2 (List.getD (List.getD u7 (0 : Nat) []) 0 (0 : Int)) u1 u4 u5 u6 u0 u7) fun r2 =>
   if (r2.2) = true then
    Option.bind (jbn (wrap .i64 (wrap .i64 ((↑(List.length u0) : Int) - 1) * 1000000)) u1) fun r3 =>
    some ((r1.1, if r3 < wrap .i64 (r2.1 + 1) then r3 else wrap .i64 (r2.1 + 1), 0))
   else
    Option.bind (jbn (wrap .i64 (wrap .i64 ((↑(List.length u0) : Int) - 1) * 1000000)) u1) fun r3 =>
    some ((r1.1, if r3 < r2.1 then r3 else r2.1, 0))
   else none
  else none
  else none
 else none
def y1 (u1 : Int) (u4 : List Nat) (u5 : Int) (u6 : Int) (u0 : List (List Int)) (u7 : List (List Int)) : Option (Int × Int × Int) :=
 if (u6 != 0) = true then
  some (((0 : Int), 0, 23))
 else
  if (0 : Int) ≤ 0 ∧ 0 < (↑(List.length u7) : Int) then
  if 0 < List.length u7 then
   if (List.getD (List.getD u7 (0 : Nat) []) 0 (0 : Int) == 0) = true then
   some (((0 : Int), 0, 11))
   else
   Option.bind (jae (y80 u0) big (((0 : Int), 0, 0))) (y81 u1 u4 u5 u6 u0 u7)
  else none
  else none
def y136 : List Lf → Option GT
 | [.d (.i .i64 u1), .r (.floats .f32 u4), .d (.i .i64 u5), .d (.i .i64 u6), .r (.recs 2 u0), .r (.recs 2 u7)] => some (.leaf (ok (y1 u1 u4 u5 u6 u0 u7)) [.s [.d (.i .i64 ((val (y1 u1 u4 u5 u6 u0 u7)).1)), .d (.i .i64 ((val (y1 u1 u4 u5 u6 u0 u7)).2.1))], .c (.d (.i .i64 ((val (y1 u1 u4 u5 u6 u0 u7)).2.2)))])
 | _ => none
abbrev sp_82 : jaa → jaa := jav 82 true (jap y135 y136)
abbrev ji5 (u0 : List (List Int)) := (wrap .i64 (wrap .i64 ((↑(List.length u0) : Int) - 1) * 1000000))
abbrev ji6 (u7 : List (List Int)) := (List.getD (List.getD u7 (0 : Nat) []) 0 (0 : Int))
theorem jjk (u1 : Int) (u4 : List Nat) (u5 : Int) (u6 : Int) (u0 : List (List Int)) (u7 : List (List Int)) (r : Int × Int × Int) (h : Option.bind (y1 u1 u4 u5 u6 u0 u7) some = some r) : jbg Tryz.f82 ((sp_117 (sp_125 (sp_119 sp0)))) (fun gs id _ => match id with
 | 1 => some ⟨(Int × Int × Int) × Nat, fun z => ⟨[(1, .w (.c (.p 4 0 1 0))), (2, .w (.c (.p 5 0 1 0))), (4, .w (.c (.p 6 0 1 0))), (33, .w (.c (.o 1))), (34, .w (.c (.d (.i .i64 ((↑(List.length u0) : Int)))))), (35, .w (.c (.d (.i .i64 (Prod.fst (Prod.fst z))))))], [(4, .box 105 [.p 3 0 1 0]), (5, .box 30 [.d (.i .i64 0), .d (.i .i64 0)]), (6, .box 30 [.d (.i .i64 (Prod.fst (Prod.snd (Prod.fst z)))), .d (.i .i64 (Prod.snd (Prod.snd (Prod.fst z))))]), (1, .ext (.recs 2 u0)), (3, .ebox [.d (.i .i64 u1), .o 0, .d (.i .i64 u5), .d (.i .i64 u6), .o 1, .o 2]), (0, .ext (.floats .f32 u4)), (2, .ext (.recs 2 u7))], 7⟩, fun z => Option.bind (jae (y80 u0) (Prod.snd z) (Prod.fst z)) (fun y0 => Option.bind (y81 u1 u4 u5 u6 u0 u7 y0) some) = some r, fun z => Prod.snd z⟩
 | _ => none) (ja2 y135 [.d (.i .i64 u1), .r (.floats .f32 u4), .d (.i .i64 u5), .d (.i .i64 u6), .r (.recs 2 u0), .r (.recs 2 u7)]) [.s [.d (.i .i64 r.1), .d (.i .i64 r.2.1)], .c (.d (.i .i64 r.2.2))] := by
 refine Eq.mp (by kernel_rfl : (
 (Ob True ∧
 Br (u6 != 0)
  ((Ob True ∧
 (Ob True ∧
 (Ob ((0 : Int) = r.1) ∧
 (Ob ((0 : Int) = r.2.1) ∧
 (Ob ((23 : Int) = r.2.2) ∧
 True))))))
  ((Ob True ∧
 (Ob ((0 : Int) ≤ 0 ∧ 0 < (↑(List.length u7) : Int)) ∧
 (Ob (0 < List.length u7) ∧
 Br (List.getD (List.getD u7 (0 : Nat) []) 0 (0 : Int) == 0)
  ((Ob True ∧
 (Ob True ∧
 (Ob ((0 : Int) = r.1) ∧
 (Ob ((0 : Int) = r.2.1) ∧
 (Ob ((11 : Int) = r.2.2) ∧
 True))))))
  ((Ob True ∧
  ((∃ (v0 : (Int × Int × Int) × Nat), (Ob ((Option.bind (jae (y80 u0) v0.2 v0.1) fun y0 => Option.bind (y81 u1 u4 u5 u6 u0 u7 y0) some) = some r) ∧
 (Ob (0 = 0) ∧
 (Ob (0 = 0) ∧
 (Ob (0 = 0) ∧
 (Ob ((↑(List.length u0) : Int) = (↑(List.length u0) : Int)) ∧
 (Ob ((0 : Int) = v0.1.1) ∧
 (Ob (0 = 0) ∧
 (Ob ((0 : Int) = (0 : Int)) ∧
 (Ob ((0 : Int) = (0 : Int)) ∧
 (Ob ((0 : Int) = v0.1.2.1) ∧
 (Ob ((0 : Int) = v0.1.2.2) ∧
 (Ob (u0 = u0) ∧
 (Ob (u1 = u1) ∧
 (Ob (u5 = u5) ∧
 (Ob (u6 = u6) ∧
 (Ob (u4 = u4) ∧
 (Ob (u7 = u7) ∧
 True)))))))))))))))))) ∧
  (∀ (v0 : (Int × Int × Int) × Nat), ((Option.bind (jae (y80 u0) v0.2 v0.1) fun y0 => Option.bind (y81 u1 u4 u5 u6 u0 u7 y0) some) = some r →
 Br (decide (v0.1.1 < (↑(List.length u0) : Int)))
  ((Ob (0 ≤ v0.1.1 ∧ v0.1.1 < (↑(List.length u0) : Int)) ∧
 (Ob (Int.toNat v0.1.1 < List.length u0) ∧
 (Ob (ok (jdO v0.1.2.1 v0.1.2.2 (wrap .i64 (v0.1.1 * List.getD (List.getD u0 (Int.toNat v0.1.1) []) 0 (0 : Int))) (wrap .i64 (v0.1.1 * List.getD (List.getD u0 (Int.toNat v0.1.1) []) 1 (0 : Int))))) ∧
  (∃ (v1 : (Int × Int × Int) × Nat), (Ob ((Option.bind (jae (y80 u0) v1.2 v1.1) fun y0 => Option.bind (y81 u1 u4 u5 u6 u0 u7 y0) some) = some r) ∧
 (Ob (v1.2 < v0.2) ∧
 (Ob (0 = 0) ∧
 (Ob (0 = 0) ∧
 (Ob (0 = 0) ∧
 (Ob ((↑(List.length u0) : Int) = (↑(List.length u0) : Int)) ∧
 (Ob (wrap .i64 (v0.1.1 + 1) = v1.1.1) ∧
 (Ob (0 = 0) ∧
 (Ob ((0 : Int) = (0 : Int)) ∧
 (Ob ((0 : Int) = (0 : Int)) ∧
 (Ob (wrap .i64 (v0.1.2.1 + wrap .i64 (v0.1.1 * List.getD (List.getD u0 (Int.toNat v0.1.1) []) 0 (0 : Int))) = v1.1.2.1) ∧
 (Ob (wrap .i64 (v0.1.2.2 + wrap .i64 (v0.1.1 * List.getD (List.getD u0 (Int.toNat v0.1.1) []) 1 (0 : Int))) = v1.1.2.2) ∧
 (Ob (u0 = u0) ∧
 (Ob (u1 = u1) ∧
 (Ob (u5 = u5) ∧
 (Ob (u6 = u6) ∧
 (Ob (u4 = u4) ∧
 (Ob (u7 = u7) ∧
 True)))))))))))))))))))))))
  ((Ob True ∧
 (Ob ((0 : Int) ≤ 0 ∧ 0 < (↑(List.length u7) : Int)) ∧
 (Ob (0 < List.length u7) ∧
 (Ob (ok (y15 v0.1.2.1 (List.getD (List.getD u7 (0 : Nat) []) 1 (0 : Int)) u1 u4 u5 u6 u0 u7)) ∧
 (Ob True ∧
 (Ob ((0 : Int) ≤ 0 ∧ 0 < (↑(List.length u7) : Int)) ∧
 (Ob (0 < List.length u7) ∧
 (Ob (ok (y15 v0.1.2.2 (ji6 u7) u1 u4 u5 u6 u0 u7)) ∧
 Br ((val (y15 v0.1.2.2 (ji6 u7) u1 u4 u5 u6 u0 u7)).2)
  ((Ob True ∧
 (Ob True ∧
 (Ob (ok (jbn (ji5 u0) u1)) ∧
 (Ob True ∧
 (Ob True ∧
 (Ob ((val (y15 v0.1.2.1 (List.getD (List.getD u7 (0 : Nat) []) 1 (0 : Int)) u1 u4 u5 u6 u0 u7)).1 = r.1) ∧
 (Ob ((if val (jbn (ji5 u0) u1) < wrap .i64 ((val (y15 v0.1.2.2 (ji6 u7) u1 u4 u5 u6 u0 u7)).1 + 1) then val (jbn (ji5 u0) u1) else wrap .i64 ((val (y15 v0.1.2.2 (ji6 u7) u1 u4 u5 u6 u0 u7)).1 + 1)) = r.2.1) ∧
 (Ob ((0 : Int) = r.2.2) ∧
 True)))))))))
  ((Ob True ∧
 (Ob True ∧
 (Ob (ok (jbn (ji5 u0) u1)) ∧
 (Ob True ∧
 (Ob True ∧
 (Ob ((val (y15 v0.1.2.1 (List.getD (List.getD u7 (0 : Nat) []) 1 (0 : Int)) u1 u4 u5 u6 u0 u7)).1 = r.1) ∧
 (Ob ((if val (jbn (ji5 u0) u1) < (val (y15 v0.1.2.2 (ji6 u7) u1 u4 u5 u6 u0 u7)).1 then val (jbn (ji5 u0) u1) else (val (y15 v0.1.2.2 (ji6 u7) u1 u4 u5 u6 u0 u7)).1) = r.2.1) ∧
 (Ob ((0 : Int) = r.2.2) ∧
 True))))))))))))))))))))))))))))) = _) ?_
 refine jac ?_
 refine jaS h (fun h => ?_) (fun h => ?_)
 ·refine jac ?_
  refine jac ?_
  exact rcs h
 ·refine jac ?_
  refine jaj h fun h => ?_
  refine jaj h fun h => ?_
  refine jaS h (fun h => ?_) (fun h => ?_)
  ·refine jac ?_
   refine jac ?_
   exact rcs h
  ·refine jac ?_
   refine ⟨⟨(((0 : Int), 0, 0), big), ⟨jaX h⟩, (by repeat' constructor)⟩, fun z4 hz4 => ?_⟩
   obtain ⟨k4, hm4, h⟩ := jaH hz4
   refine jaC h (fun h => ?_) (fun h => ?_)
   ·refine jaj h fun h => ?_
    refine jaj h fun h => ?_
    refine jaE h fun h => ?_
    exact ⟨(_, k4), ⟨jaG h⟩, ⟨jaQ hm4.symm⟩, (by repeat' constructor)⟩
   ·have h := jar h
    refine jac ?_
    refine jaj h fun h => ?_
    refine jaj h fun h => ?_
    refine jaE h fun h => ?_
    refine jac ?_
    refine jaj h fun h => ?_
    refine jaj h fun h => ?_
    refine jaE h fun h => ?_
    refine jaS h (fun h => ?_) (fun h => ?_)
    ·refine jac ?_
     refine jac ?_
     refine jaE h fun h => ?_
     refine jac ?_
     refine jac ?_
     exact rcs h
    ·refine jac ?_
     refine jac ?_
     refine jaE h fun h => ?_
     refine jac ?_
     refine jac ?_
     exact rcs h
theorem jjl : jaf Tryz.prog 82 true (jap y135 y136) := by
 refine jaF (sp := (sp_117 (sp_125 (sp_119 sp0)))) (fn := Tryz.f82) (body := jah Tryz.f82) mixed (sp_117_ok (sp_125_ok (sp_119_ok jao))) Tryz.func82 (by kernel_rfl) (by kernel_rfl) fun ls t h ho b hb => ?_
 unfold y136 at h
 split at h
 ·rename_i u1 u4 u5 u6 u0 u7
  cases h
  obtain rfl := jaO hb
  exact ⟨Nat.le_of_ble_eq_true (by kernel_rfl), _, _, jjk u1 u4 u5 u6 u0 u7 _ (jan ho)⟩
 ·cases h
theorem sp_82_ok {sp : jaa} (h : jab Tryz.prog sp) : jab Tryz.prog (sp_82 sp) := jag jjl h
end Go.Sh
end

section
namespace Go.Sh
open Go Go.Proofs Go.RowKit Go.Sx
theorem jm0 : ((0 : Int) ≤ 0 ∧ (0 : Int) < 6) := by decide
theorem jhr : ((0 : Int) ≤ 1 ∧ (1 : Int) < 6) := by decide
theorem jc0 : ((0 : Int) ≤ 2 ∧ (2 : Int) < 6) := by decide
theorem jax : (true = true) := by decide
theorem jay : (true = true ∧ true = true) := by decide
theorem jbu : ((0 : Int) ≤ 3 ∧ (3 : Int) < 6) := by decide
theorem jaM : ((0 : Int) ≤ 4 ∧ (4 : Int) < 6) := by decide
theorem jam : ((0 : Int) ≤ 5 ∧ (5 : Int) < 6) := by decide
def y151 : List SV := [.c (.p [.p [.d, .r (.floats .f32 []), .d, .d, .r (.recs 2 []), .r (.recs 2 [])]])]
def y11 (u11 : Int) (u12 : List Nat) (u13 : Int) (u14 : Int) (u15 : List (List Int)) (u16 : List (List Int)) : Option (Int × Int × Int) :=
 Option.bind (y41 u11 u12 u13 u14 u15 u16 (80000 : Int)) fun r0 =>
 some (r0.1, r0.2.1, r0.2.2)
def y152 : List Lf → Option GT
 | [.d (.i .i64 u11), .r (.floats .f32 u12), .d (.i .i64 u13), .d (.i .i64 u14), .r (.recs 2 u15), .r (.recs 2 u16)] => some (.leaf (ok (y11 u11 u12 u13 u14 u15 u16)) [.s [.d (.i .i64 ((val (y11 u11 u12 u13 u14 u15 u16)).1)), .d (.i .i64 ((val (y11 u11 u12 u13 u14 u15 u16)).2.1))], .c (.d (.i .i64 ((val (y11 u11 u12 u13 u14 u15 u16)).2.2)))])
 | _ => none
abbrev sp_102 : jaa → jaa := jav 102 true (jap y151 y152)
def jlr (u11 : Int) (u12 : List Nat) (u13 : Int) (u14 : Int) (u15 : List (List Int)) (u16 : List (List Int)) : T (Int × Int × Int) :=
 .obT
 (.call (y41 u11 u12 u13 u14 u15 u16 (80000 : Int)) fun r0 =>
 .obT
 (.obT
 (.rc ((r0.1, r0.2.1, r0.2.2)))))
theorem jki (u11 : Int) (u12 : List Nat) (u13 : Int) (u14 : Int) (u15 : List (List Int)) (u16 : List (List Int)) (r : Int × Int × Int) (h : Option.bind (y11 u11 u12 u13 u14 u15 u16) some = some r) : jbg Tryz.f102 ((sp_78 sp0)) (fun _ _ _ => none) (ja2 y151 [.d (.i .i64 u11), .r (.floats .f32 u12), .d (.i .i64 u13), .d (.i .i64 u14), .r (.recs 2 u15), .r (.recs 2 u16)]) [.s [.d (.i .i64 r.1), .d (.i .i64 r.2.1)], .c (.d (.i .i64 r.2.2))] :=
 T.vc (t := jlr u11 u12 u13 u14 u15 u16) (by kernel_rfl) (by kernel_rfl) h
theorem jkj : jaf Tryz.prog 102 true (jap y151 y152) := by
 refine jaF (sp := (sp_78 sp0)) (fn := Tryz.f102) (body := jah Tryz.f102) mixed (sp_78_ok jao) Tryz.func102 (by kernel_rfl) (by kernel_rfl) fun ls t h ho b hb => ?_
 unfold y152 at h
 split at h
 ·rename_i u11 u12 u13 u14 u15 u16
  cases h
  obtain rfl := jaO hb
  exact ⟨Nat.le_of_ble_eq_true (by kernel_rfl), _, _, jki u11 u12 u13 u14 u15 u16 _ (jan ho)⟩
 ·cases h
theorem sp_102_ok {sp : jaa} (h : jab Tryz.prog sp) : jab Tryz.prog (sp_102 sp) := jag jkj h
def y153 : List SV := [.c (.p [.p [.d, .r (.floats .f32 []), .d, .d, .r (.recs 2 []), .r (.recs 2 [])]])]
def y2 (u11 : Int) (u12 : List Nat) (u13 : Int) (u14 : Int) (u15 : List (List Int)) (u16 : List (List Int)) : Option (Int × Int × Int) :=
 Option.bind (y47 u11 u12 u13 u14 u15 u16 (50000 : Int)) fun r0 =>
 some (r0.1, r0.2.1, r0.2.2)
def y154 : List Lf → Option GT
 | [.d (.i .i64 u11), .r (.floats .f32 u12), .d (.i .i64 u13), .d (.i .i64 u14), .r (.recs 2 u15), .r (.recs 2 u16)] => some (.leaf (ok (y2 u11 u12 u13 u14 u15 u16)) [.s [.d (.i .i64 ((val (y2 u11 u12 u13 u14 u15 u16)).1)), .d (.i .i64 ((val (y2 u11 u12 u13 u14 u15 u16)).2.1))], .c (.d (.i .i64 ((val (y2 u11 u12 u13 u14 u15 u16)).2.2)))])
 | _ => none
abbrev sp_103 : jaa → jaa := jav 103 true (jap y153 y154)
def jls (u11 : Int) (u12 : List Nat) (u13 : Int) (u14 : Int) (u15 : List (List Int)) (u16 : List (List Int)) : T (Int × Int × Int) :=
 .obT
 (.call (y47 u11 u12 u13 u14 u15 u16 (50000 : Int)) fun r0 =>
 .obT
 (.obT
 (.rc ((r0.1, r0.2.1, r0.2.2)))))
theorem jkk (u11 : Int) (u12 : List Nat) (u13 : Int) (u14 : Int) (u15 : List (List Int)) (u16 : List (List Int)) (r : Int × Int × Int) (h : Option.bind (y2 u11 u12 u13 u14 u15 u16) some = some r) : jbg Tryz.f103 ((sp_98 sp0)) (fun _ _ _ => none) (ja2 y153 [.d (.i .i64 u11), .r (.floats .f32 u12), .d (.i .i64 u13), .d (.i .i64 u14), .r (.recs 2 u15), .r (.recs 2 u16)]) [.s [.d (.i .i64 r.1), .d (.i .i64 r.2.1)], .c (.d (.i .i64 r.2.2))] :=
 T.vc (t := jls u11 u12 u13 u14 u15 u16) (by kernel_rfl) (by kernel_rfl) h
theorem jkl : jaf Tryz.prog 103 true (jap y153 y154) := by
 refine jaF (sp := (sp_98 sp0)) (fn := Tryz.f103) (body := jah Tryz.f103) mixed (sp_98_ok jao) Tryz.func103 (by kernel_rfl) (by kernel_rfl) fun ls t h ho b hb => ?_
 unfold y154 at h
 split at h
 ·rename_i u11 u12 u13 u14 u15 u16
  cases h
  obtain rfl := jaO hb
  exact ⟨Nat.le_of_ble_eq_true (by kernel_rfl), _, _, jkk u11 u12 u13 u14 u15 u16 _ (jan ho)⟩
 ·cases h
theorem sp_103_ok {sp : jaa} (h : jab Tryz.prog sp) : jab Tryz.prog (sp_103 sp) := jag jkl h
def y155 : List SV := [.c (.p [.p [.d, .r (.floats .f32 []), .d, .d, .r (.recs 2 []), .r (.recs 2 [])]]), .c (.p [.d])]
def y14 (u11 : Int) (u12 : List Nat) (u13 : Int) (u14 : Int) (u15 : List (List Int)) (u16 : List (List Int)) (v1_ : Int) : Option (Int × Int × Int) :=
 Option.bind (y31 u11 u12 u13 u14 u15 u16 v1_) fun r0 =>
 some (r0.1, r0.2.1, r0.2.2)
def y156 : List Lf → Option GT
 | [.d (.i .i64 u11), .r (.floats .f32 u12), .d (.i .i64 u13), .d (.i .i64 u14), .r (.recs 2 u15), .r (.recs 2 u16), .d (.i .i64 v1_)] => some (.leaf (ok (y14 u11 u12 u13 u14 u15 u16 v1_)) [.s [.d (.i .i64 ((val (y14 u11 u12 u13 u14 u15 u16 v1_)).1)), .d (.i .i64 ((val (y14 u11 u12 u13 u14 u15 u16 v1_)).2.1))], .c (.d (.i .i64 ((val (y14 u11 u12 u13 u14 u15 u16 v1_)).2.2)))])
 | _ => none
abbrev sp_104 : jaa → jaa := jav 104 true (jap y155 y156)
def jlt (u11 : Int) (u12 : List Nat) (u13 : Int) (u14 : Int) (u15 : List (List Int)) (u16 : List (List Int)) (v1_ : Int) : T (Int × Int × Int) :=
 .obT
 (.obT
 (.call (y31 u11 u12 u13 u14 u15 u16 v1_) fun r0 =>
 .obT
 (.obT
 (.rc ((r0.1, r0.2.1, r0.2.2))))))
theorem jkm (u11 : Int) (u12 : List Nat) (u13 : Int) (u14 : Int) (u15 : List (List Int)) (u16 : List (List Int)) (v1_ : Int) (r : Int × Int × Int) (h : Option.bind (y14 u11 u12 u13 u14 u15 u16 v1_) some = some r) : jbg Tryz.f104 ((sp_69 sp0)) (fun _ _ _ => none) (ja2 y155 [.d (.i .i64 u11), .r (.floats .f32 u12), .d (.i .i64 u13), .d (.i .i64 u14), .r (.recs 2 u15), .r (.recs 2 u16), .d (.i .i64 v1_)]) [.s [.d (.i .i64 r.1), .d (.i .i64 r.2.1)], .c (.d (.i .i64 r.2.2))] :=
 T.vc (t := jlt u11 u12 u13 u14 u15 u16 v1_) (by kernel_rfl) (by kernel_rfl) h
theorem jkn : jaf Tryz.prog 104 true (jap y155 y156) := by
 refine jaF (sp := (sp_69 sp0)) (fn := Tryz.f104) (body := jah Tryz.f104) mixed (sp_69_ok jao) Tryz.func104 (by kernel_rfl) (by kernel_rfl) fun ls t h ho b hb => ?_
 unfold y156 at h
 split at h
 ·rename_i u11 u12 u13 u14 u15 u16 v1_
  cases h
  obtain rfl := jaO hb
  exact ⟨Nat.le_of_ble_eq_true (by kernel_rfl), _, _, jkm u11 u12 u13 u14 u15 u16 v1_ _ (jan ho)⟩
 ·cases h
theorem sp_104_ok {sp : jaa} (h : jab Tryz.prog sp) : jab Tryz.prog (sp_104 sp) := jag jkn h
def jeI : List SV := [.a [.d, .r (.floats .f32 []), .d, .d]]
def y13 (u17 : Int) (u18 : List Nat) (u19 : Int) (u20 : Int) : Option (Bool × Bool × Bool × Bool × Bool × Bool × Int × Int × Int × Int × Int × Int × Int × Int × Int × Int × Int × Int × Int) :=
 if ((val (jal u17 u18 u19 u20)).1 != 0) = true then
  Option.bind (jal u17 u18 u19 u20) fun r0 =>
  if (r0.1 != 0) = true then
  some ((false, false, false, false, false, false, 0, 0, 0, 0, 0, 0, 0, 0, 0, 0, 0, 0, r0.1))
  else
  none   else
  Option.bind (jal u17 u18 u19 u20) fun r0 =>
  Option.bind (y14 u17 u18 u19 u20 r0.2.1 r0.2.2 (0 : Int)) fun r1 =>
  if (r1.2.2 == 0) = true then
  Option.bind (y14 u17 u18 u19 u20 r0.2.1 r0.2.2 (1 : Int)) fun r2 =>
  if (r2.2.2 == 0) = true then
   Option.bind (y14 u17 u18 u19 u20 r0.2.1 r0.2.2 (2 : Int)) fun r3 =>
   if (r3.2.2 == 0) = true then
   Option.bind (y11 u17 u18 u19 u20 r0.2.1 r0.2.2) fun r4 =>
   if (r4.2.2 == 0) = true then
    Option.bind (y2 u17 u18 u19 u20 r0.2.1 r0.2.2) fun r5 =>
    if (r5.2.2 == 0) = true then
    Option.bind (y1 u17 u18 u19 u20 r0.2.1 r0.2.2) fun r6 =>
    if (r6.2.2 == 0) = true then
     some ((true, true, true, true, true, true, r1.1, r1.2.1, r2.1, r2.2.1, r3.1, r3.2.1, r4.1, r4.2.1, r5.1, r5.2.1, r6.1, r6.2.1, 0))
    else
     some ((true, true, true, true, true, false, r1.1, r1.2.1, r2.1, r2.2.1, r3.1, r3.2.1, r4.1, r4.2.1, r5.1, r5.2.1, 0, 0, 0))
    else
    Option.bind (y1 u17 u18 u19 u20 r0.2.1 r0.2.2) fun r6 =>
    if (r6.2.2 == 0) = true then
     some ((true, true, true, true, false, true, r1.1, r1.2.1, r2.1, r2.2.1, r3.1, r3.2.1, r4.1, r4.2.1, 0, 0, r6.1, r6.2.1, 0))
    else
     some ((true, true, true, true, false, false, r1.1, r1.2.1, r2.1, r2.2.1, r3.1, r3.2.1, r4.1, r4.2.1, 0, 0, 0, 0, 0))
   else
    Option.bind (y2 u17 u18 u19 u20 r0.2.1 r0.2.2) fun r5 =>
    if (r5.2.2 == 0) = true then
    Option.bind (y1 u17 u18 u19 u20 r0.2.1 r0.2.2) fun r6 =>
    if (r6.2.2 == 0) = true then
     some ((true, true, true, false, true, true, r1.1, r1.2.1, r2.1, r2.2.1, r3.1, r3.2.1, 0, 0, r5.1, r5.2.1, r6.1, r6.2.1, 0))
    else
     some ((true, true, true, false, true, false, r1.1, r1.2.1, r2.1, r2.2.1, r3.1, r3.2.1, 0, 0, r5.1, r5.2.1, 0, 0, 0))
    else
    Option.bind (y1 u17 u18 u19 u20 r0.2.1 r0.2.2) fun r6 =>
    if (r6.2.2 == 0) = true then
     some ((true, true, true, false, false, true, r1.1, r1.2.1, r2.1, r2.2.1, r3.1, r3.2.1, 0, 0, 0, 0, r6.1, r6.2.1, 0))
    else
     some ((true, true, true, false, false, false, r1.1, r1.2.1, r2.1, r2.2.1, r3.1, r3.2.1, 0, 0, 0, 0, 0, 0, 0))
   else
   Option.bind (y11 u17 u18 u19 u20 r0.2.1 r0.2.2) fun r4 =>
   if (r4.2.2 == 0) = true then
    Option.bind (y2 u17 u18 u19 u20 r0.2.1 r0.2.2) fun r5 =>
    if (r5.2.2 == 0) = true then
    Option.bind (y1 u17 u18 u19 u20 r0.2.1 r0.2.2) fun r6 =>
    if (r6.2.2 == 0) = true then
     some ((true, true, false, true, true, true, r1.1, r1.2.1, r2.1, r2.2.1, 0, 0, r4.1, r4.2.1, r5.1, r5.2.1, r6.1, r6.2.1, 0))
    else
     some ((true, true, false, true, true, false, r1.1, r1.2.1, r2.1, r2.2.1, 0, 0, r4.1, r4.2.1, r5.1, r5.2.1, 0, 0, 0))
    else
    Option.bind (y1 u17 u18 u19 u20 r0.2.1 r0.2.2) fun r6 =>
    if (r6.2.2 == 0) = true then
     some ((true, true, false, true, false, true, r1.1, r1.2.1, r2.1, r2.2.1, 0, 0, r4.1, r4.2.1, 0, 0, r6.1, r6.2.1, 0))
    else
     some ((true, true, false, true, false, false, r1.1, r1.2.1, r2.1, r2.2.1, 0, 0, r4.1, r4.2.1, 0, 0, 0, 0, 0))
   else
    Option.bind (y2 u17 u18 u19 u20 r0.2.1 r0.2.2) fun r5 =>
    if (r5.2.2 == 0) = true then
    Option.bind (y1 u17 u18 u19 u20 r0.2.1 r0.2.2) fun r6 =>
    if (r6.2.2 == 0) = true then
     some ((true, true, false, false, true, true, r1.1, r1.2.1, r2.1, r2.2.1, 0, 0, 0, 0, r5.1, r5.2.1, r6.1, r6.2.1, 0))
    else
     some ((true, true, false, false, true, false, r1.1, r1.2.1, r2.1, r2.2.1, 0, 0, 0, 0, r5.1, r5.2.1, 0, 0, 0))
    else
    Option.bind (y1 u17 u18 u19 u20 r0.2.1 r0.2.2) fun r6 =>
    if (r6.2.2 == 0) = true then
     some ((true, true, false, false, false, true, r1.1, r1.2.1, r2.1, r2.2.1, 0, 0, 0, 0, 0, 0, r6.1, r6.2.1, 0))
    else
     some ((true, true, false, false, false, false, r1.1, r1.2.1, r2.1, r2.2.1, 0, 0, 0, 0, 0, 0, 0, 0, 0))
  else
   Option.bind (y14 u17 u18 u19 u20 r0.2.1 r0.2.2 (2 : Int)) fun r3 =>
   if (r3.2.2 == 0) = true then
   Option.bind (y11 u17 u18 u19 u20 r0.2.1 r0.2.2) fun r4 =>
   if (r4.2.2 == 0) = true then
    Option.bind (y2 u17 u18 u19 u20 r0.2.1 r0.2.2) fun r5 =>
    if (r5.2.2 == 0) = true then
    Option.bind (y1 u17 u18 u19 u20 r0.2.1 r0.2.2) fun r6 =>
    if (r6.2.2 == 0) = true then
     some ((true, false, true, true, true, true, r1.1, r1.2.1, 0, 0, r3.1, r3.2.1, r4.1, r4.2.1, r5.1, r5.2.1, r6.1, r6.2.1, 0))
    else
     some ((true, false, true, true, true, false, r1.1, r1.2.1, 0, 0, r3.1, r3.2.1, r4.1, r4.2.1, r5.1, r5.2.1, 0, 0, 0))
    else
    Option.bind (y1 u17 u18 u19 u20 r0.2.1 r0.2.2) fun r6 =>
    if (r6.2.2 == 0) = true then
     some ((true, false, true, true, false, true, r1.1, r1.2.1, 0, 0, r3.1, r3.2.1, r4.1, r4.2.1, 0, 0, r6.1, r6.2.1, 0))
    else
     some ((true, false, true, true, false, false, r1.1, r1.2.1, 0, 0, r3.1, r3.2.1, r4.1, r4.2.1, 0, 0, 0, 0, 0))
   else
    Option.bind (y2 u17 u18 u19 u20 r0.2.1 r0.2.2) fun r5 =>
    if (r5.2.2 == 0) = true then
    Option.bind (y1 u17 u18 u19 u20 r0.2.1 r0.2.2) fun r6 =>
    if (r6.2.2 == 0) = true then
     some ((true, false, true, false, true, true, r1.1, r1.2.1, 0, 0, r3.1, r3.2.1, 0, 0, r5.1, r5.2.1, r6.1, r6.2.1, 0))
    else
     some ((true, false, true, false, true, false, r1.1, r1.2.1, 0, 0, r3.1, r3.2.1, 0, 0, r5.1, r5.2.1, 0, 0, 0))
    else
    Option.bind (y1 u17 u18 u19 u20 r0.2.1 r0.2.2) fun r6 =>
    if (r6.2.2 == 0) = true then
     some ((true, false, true, false, false, true, r1.1, r1.2.1, 0, 0, r3.1, r3.2.1, 0, 0, 0, 0, r6.1, r6.2.1, 0))
    else
     some ((true, false, true, false, false, false, r1.1, r1.2.1, 0, 0, r3.1, r3.2.1, 0, 0, 0, 0, 0, 0, 0))
   else
   Option.bind (y11 u17 u18 u19 u20 r0.2.1 r0.2.2) fun r4 =>
   if (r4.2.2 == 0) = true then
    Option.bind (y2 u17 u18 u19 u20 r0.2.1 r0.2.2) fun r5 =>
    if (r5.2.2 == 0) = true then
    Option.bind (y1 u17 u18 u19 u20 r0.2.1 r0.2.2) fun r6 =>
    if (r6.2.2 == 0) = true then
     some ((true, false, false, true, true, true, r1.1, r1.2.1, 0, 0, 0, 0, r4.1, r4.2.1, r5.1, r5.2.1, r6.1, r6.2.1, 0))
    else
     some ((true, false, false, true, true, false, r1.1, r1.2.1, 0, 0, 0, 0, r4.1, r4.2.1, r5.1, r5.2.1, 0, 0, 0))
    else
    Option.bind (y1 u17 u18 u19 u20 r0.2.1 r0.2.2) fun r6 =>
    if (r6.2.2 == 0) = true then
     some ((true, false, false, true, false, true, r1.1, r1.2.1, 0, 0, 0, 0, r4.1, r4.2.1, 0, 0, r6.1, r6.2.1, 0))
    else
     some ((true, false, false, true, false, false, r1.1, r1.2.1, 0, 0, 0, 0, r4.1, r4.2.1, 0, 0, 0, 0, 0))
   else
    Option.bind (y2 u17 u18 u19 u20 r0.2.1 r0.2.2) fun r5 =>
    if (r5.2.2 == 0) = true then
    Option.bind (y1 u17 u18 u19 u20 r0.2.1 r0.2.2) fun r6 =>
    if (r6.2.2 == 0) = true then
     some ((true, false, false, false, true, true, r1.1, r1.2.1, 0, 0, 0, 0, 0, 0, r5.1, r5.2.1, r6.1, r6.2.1, 0))
    else
     some ((true, false, false, false, true, false, r1.1, r1.2.1, 0, 0, 0, 0, 0, 0, r5.1, r5.2.1, 0, 0, 0))
    else
    Option.bind (y1 u17 u18 u19 u20 r0.2.1 r0.2.2) fun r6 =>
    if (r6.2.2 == 0) = true then
     some ((true, false, false, false, false, true, r1.1, r1.2.1, 0, 0, 0, 0, 0, 0, 0, 0, r6.1, r6.2.1, 0))
    else
     some ((true, false, false, false, false, false, r1.1, r1.2.1, 0, 0, 0, 0, 0, 0, 0, 0, 0, 0, 0))
  else
  Option.bind (y14 u17 u18 u19 u20 r0.2.1 r0.2.2 (1 : Int)) fun r2 =>
  if (r2.2.2 == 0) = true then
   Option.bind (y14 u17 u18 u19 u20 r0.2.1 r0.2.2 (2 : Int)) fun r3 =>
   if (r3.2.2 == 0) = true then
   Option.bind (y11 u17 u18 u19 u20 r0.2.1 r0.2.2) fun r4 =>
   if (r4.2.2 == 0) = true then
    Option.bind (y2 u17 u18 u19 u20 r0.2.1 r0.2.2) fun r5 =>
    if (r5.2.2 == 0) = true then
    Option.bind (y1 u17 u18 u19 u20 r0.2.1 r0.2.2) fun r6 =>
    if (r6.2.2 == 0) = true then
     some ((false, true, true, true, true, true, 0, 0, r2.1, r2.2.1, r3.1, r3.2.1, r4.1, r4.2.1, r5.1, r5.2.1, r6.1, r6.2.1, 0))
    else
     some ((false, true, true, true, true, false, 0, 0, r2.1, r2.2.1, r3.1, r3.2.1, r4.1, r4.2.1, r5.1, r5.2.1, 0, 0, 0))
    else
    Option.bind (y1 u17 u18 u19 u20 r0.2.1 r0.2.2) fun r6 =>
    if (r6.2.2 == 0) = true then
     some ((false, true, true, true, false, true, 0, 0, r2.1, r2.2.1, r3.1, r3.2.1, r4.1, r4.2.1, 0, 0, r6.1, r6.2.1, 0))
    else
     some ((false, true, true, true, false, false, 0, 0, r2.1, r2.2.1, r3.1, r3.2.1, r4.1, r4.2.1, 0, 0, 0, 0, 0))
   else
    Option.bind (y2 u17 u18 u19 u20 r0.2.1 r0.2.2) fun r5 =>
    if (r5.2.2 == 0) = true then
    Option.bind (y1 u17 u18 u19 u20 r0.2.1 r0.2.2) fun r6 =>
    if (r6.2.2 == 0) = true then
     some ((false, true, true, false, true, true, 0, 0, r2.1, r2.2.1, r3.1, r3.2.1, 0, 0, r5.1, r5.2.1, r6.1, r6.2.1, 0))
    else
     some ((false, true, true, false, true, false, 0, 0, r2.1, r2.2.1, r3.1, r3.2.1, 0, 0, r5.1, r5.2.1, 0, 0, 0))
    else
    Option.bind (y1 u17 u18 u19 u20 r0.2.1 r0.2.2) fun r6 =>
    if (r6.2.2 == 0) = true then
     some ((false, true, true, false, false, true, 0, 0, r2.1, r2.2.1, r3.1, r3.2.1, 0, 0, 0, 0, r6.1, r6.2.1, 0))
    else
     some ((false, true, true, false, false, false, 0, 0, r2.1, r2.2.1, r3.1, r3.2.1, 0, 0, 0, 0, 0, 0, 0))
   else
   Option.bind (y11 u17 u18 u19 u20 r0.2.1 r0.2.2) fun r4 =>
   if (r4.2.2 == 0) = true then
    Option.bind (y2 u17 u18 u19 u20 r0.2.1 r0.2.2) fun r5 =>
    if (r5.2.2 == 0) = true then
    Option.bind (y1 u17 u18 u19 u20 r0.2.1 r0.2.2) fun r6 =>
    if (r6.2.2 == 0) = true then
     some ((false, true, false, true, true, true, 0, 0, r2.1, r2.2.1, 0, 0, r4.1, r4.2.1, r5.1, r5.2.1, r6.1, r6.2.1, 0))
    else
     some ((false, true, false, true, true, false, 0, 0, r2.1, r2.2.1, 0, 0, r4.1, r4.2.1, r5.1, r5.2.1, 0, 0, 0))
    else
    Option.bind (y1 u17 u18 u19 u20 r0.2.1 r0.2.2) fun r6 =>
    if (r6.2.2 == 0) = true then
     some ((false, true, false, true, false, true, 0, 0, r2.1, r2.2.1, 0, 0, r4.1, r4.2.1, 0, 0, r6.1, r6.2.1, 0))
    else
     some ((false, true, false, true, false, false, 0, 0, r2.1, r2.2.1, 0, 0, r4.1, r4.2.1, 0, 0, 0, 0, 0))
   else
    Option.bind (y2 u17 u18 u19 u20 r0.2.1 r0.2.2) fun r5 =>
    if (r5.2.2 == 0) = true then
    Option.bind (y1 u17 u18 u19 u20 r0.2.1 r0.2.2) fun r6 =>
    if (r6.2.2 == 0) = true then
     some ((false, true, false, false, true, true, 0, 0, r2.1, r2.2.1, 0, 0, 0, 0, r5.1, r5.2.1, r6.1, r6.2.1, 0))
    else
     some ((false, true, false, false, true, false, 0, 0, r2.1, r2.2.1, 0, 0, 0, 0, r5.1, r5.2.1, 0, 0, 0))
    else
    Option.bind (y1 u17 u18 u19 u20 r0.2.1 r0.2.2) fun r6 =>
    if (r6.2.2 == 0) = true then
     some ((false, true, false, false, false, true, 0, 0, r2.1, r2.2.1, 0, 0, 0, 0, 0, 0, r6.1, r6.2.1, 0))
    else
     some ((false, true, false, false, false, false, 0, 0, r2.1, r2.2.1, 0, 0, 0, 0, 0, 0, 0, 0, 0))
  else
   Option.bind (y14 u17 u18 u19 u20 r0.2.1 r0.2.2 (2 : Int)) fun r3 =>
   if (r3.2.2 == 0) = true then
   Option.bind (y11 u17 u18 u19 u20 r0.2.1 r0.2.2) fun r4 =>
   if (r4.2.2 == 0) = true then
    Option.bind (y2 u17 u18 u19 u20 r0.2.1 r0.2.2) fun r5 =>
    if (r5.2.2 == 0) = true then
    Option.bind (y1 u17 u18 u19 u20 r0.2.1 r0.2.2) fun r6 =>
    if (r6.2.2 == 0) = true then
     some ((false, false, true, true, true, true, 0, 0, 0, 0, r3.1, r3.2.1, r4.1, r4.2.1, r5.1, r5.2.1, r6.1, r6.2.1, 0))
    else
     some ((false, false, true, true, true, false, 0, 0, 0, 0, r3.1, r3.2.1, r4.1, r4.2.1, r5.1, r5.2.1, 0, 0, 0))
    else
    Option.bind (y1 u17 u18 u19 u20 r0.2.1 r0.2.2) fun r6 =>
    if (r6.2.2 == 0) = true then
     some ((false, false, true, true, false, true, 0, 0, 0, 0, r3.1, r3.2.1, r4.1, r4.2.1, 0, 0, r6.1, r6.2.1, 0))
    else
     some ((false, false, true, true, false, false, 0, 0, 0, 0, r3.1, r3.2.1, r4.1, r4.2.1, 0, 0, 0, 0, 0))
   else
    Option.bind (y2 u17 u18 u19 u20 r0.2.1 r0.2.2) fun r5 =>
    if (r5.2.2 == 0) = true then
    Option.bind (y1 u17 u18 u19 u20 r0.2.1 r0.2.2) fun r6 =>
    if (r6.2.2 == 0) = true then
     some ((false, false, true, false, true, true, 0, 0, 0, 0, r3.1, r3.2.1, 0, 0, r5.1, r5.2.1, r6.1, r6.2.1, 0))
    else
     some ((false, false, true, false, true, false, 0, 0, 0, 0, r3.1, r3.2.1, 0, 0, r5.1, r5.2.1, 0, 0, 0))
    else
    Option.bind (y1 u17 u18 u19 u20 r0.2.1 r0.2.2) fun r6 =>
    if (r6.2.2 == 0) = true then
     some ((false, false, true, false, false, true, 0, 0, 0, 0, r3.1, r3.2.1, 0, 0, 0, 0, r6.1, r6.2.1, 0))
    else
     some ((false, false, true, false, false, false, 0, 0, 0, 0, r3.1, r3.2.1, 0, 0, 0, 0, 0, 0, 0))
   else
   Option.bind (y11 u17 u18 u19 u20 r0.2.1 r0.2.2) fun r4 =>
   if (r4.2.2 == 0) = true then
    Option.bind (y2 u17 u18 u19 u20 r0.2.1 r0.2.2) fun r5 =>
    if (r5.2.2 == 0) = true then
    Option.bind (y1 u17 u18 u19 u20 r0.2.1 r0.2.2) fun r6 =>
    if (r6.2.2 == 0) = true then
     some ((false, false, false, true, true, true, 0, 0, 0, 0, 0, 0, r4.1, r4.2.1, r5.1, r5.2.1, r6.1, r6.2.1, 0))
    else
     some ((false, false, false, true, true, false, 0, 0, 0, 0, 0, 0, r4.1, r4.2.1, r5.1, r5.2.1, 0, 0, 0))
    else
    Option.bind (y1 u17 u18 u19 u20 r0.2.1 r0.2.2) fun r6 =>
    if (r6.2.2 == 0) = true then
     some ((false, false, false, true, false, true, 0, 0, 0, 0, 0, 0, r4.1, r4.2.1, 0, 0, r6.1, r6.2.1, 0))
    else
     some ((false, false, false, true, false, false, 0, 0, 0, 0, 0, 0, r4.1, r4.2.1, 0, 0, 0, 0, 0))
   else
    Option.bind (y2 u17 u18 u19 u20 r0.2.1 r0.2.2) fun r5 =>
    if (r5.2.2 == 0) = true then
    Option.bind (y1 u17 u18 u19 u20 r0.2.1 r0.2.2) fun r6 =>
    if (r6.2.2 == 0) = true then
     some ((false, false, false, false, true, true, 0, 0, 0, 0, 0, 0, 0, 0, r5.1, r5.2.1, r6.1, r6.2.1, 0))
    else
     some ((false, false, false, false, true, false, 0, 0, 0, 0, 0, 0, 0, 0, r5.1, r5.2.1, 0, 0, 0))
    else
    Option.bind (y1 u17 u18 u19 u20 r0.2.1 r0.2.2) fun r6 =>
    if (r6.2.2 == 0) = true then
     some ((false, false, false, false, false, true, 0, 0, 0, 0, 0, 0, 0, 0, 0, 0, r6.1, r6.2.1, 0))
    else
     some ((false, false, false, false, false, false, 0, 0, 0, 0, 0, 0, 0, 0, 0, 0, 0, 0, 0))
def jeJ : List Lf → Option GT
 | [.d (.i .i64 u17), .r (.floats .f32 u18), .d (.i .i64 u19), .d (.i .i64 u20)] => some (.leaf (ok (y13 u17 u18 u19 u20)) [.s [.d (.b ((val (y13 u17 u18 u19 u20)).1)), .d (.b ((val (y13 u17 u18 u19 u20)).2.1)), .d (.b ((val (y13 u17 u18 u19 u20)).2.2.1)), .d (.b ((val (y13 u17 u18 u19 u20)).2.2.2.1)), .d (.b ((val (y13 u17 u18 u19 u20)).2.2.2.2.1)), .d (.b ((val (y13 u17 u18 u19 u20)).2.2.2.2.2.1)), .d (.i .i64 ((val (y13 u17 u18 u19 u20)).2.2.2.2.2.2.1)), .d (.i .i64 ((val (y13 u17 u18 u19 u20)).2.2.2.2.2.2.2.1)), .d (.i .i64 ((val (y13 u17 u18 u19 u20)).2.2.2.2.2.2.2.2.1)), .d (.i .i64 ((val (y13 u17 u18 u19 u20)).2.2.2.2.2.2.2.2.2.1)), .d (.i .i64 ((val (y13 u17 u18 u19 u20)).2.2.2.2.2.2.2.2.2.2.1)), .d (.i .i64 ((val (y13 u17 u18 u19 u20)).2.2.2.2.2.2.2.2.2.2.2.1)), .d (.i .i64 ((val (y13 u17 u18 u19 u20)).2.2.2.2.2.2.2.2.2.2.2.2.1)), .d (.i .i64 ((val (y13 u17 u18 u19 u20)).2.2.2.2.2.2.2.2.2.2.2.2.2.1)), .d (.i .i64 ((val (y13 u17 u18 u19 u20)).2.2.2.2.2.2.2.2.2.2.2.2.2.2.1)), .d (.i .i64 ((val (y13 u17 u18 u19 u20)).2.2.2.2.2.2.2.2.2.2.2.2.2.2.2.1)), .d (.i .i64 ((val (y13 u17 u18 u19 u20)).2.2.2.2.2.2.2.2.2.2.2.2.2.2.2.2.1)), .d (.i .i64 ((val (y13 u17 u18 u19 u20)).2.2.2.2.2.2.2.2.2.2.2.2.2.2.2.2.2.1))], .c (.d (.i .i64 ((val (y13 u17 u18 u19 u20)).2.2.2.2.2.2.2.2.2.2.2.2.2.2.2.2.2.2)))])
 | _ => none
abbrev sp_60 : jaa → jaa := jav 60 true (jap jeI jeJ)
def jmM (u17 : Int) (u18 : List Nat) (u19 : Int) (u20 : Int) : T (Bool × Bool × Bool × Bool × Bool × Bool × Int × Int × Int × Int × Int × Int × Int × Int × Int × Int × Int × Int × Int) :=
 .brB ((val (jal u17 u18 u19 u20)).1 != 0)
 (.call (jal u17 u18 u19 u20) fun r0 =>
 .brB (r0.1 != 0)
 (.obT
 (.obT
 (.rc (((false, false, false, false, false, false, 0, 0, 0, 0, 0, 0, 0, 0, 0, 0, 0, 0, r0.1))))))
 (.bad (fun r => False)))
 (.call (jal u17 u18 u19 u20) fun r0 =>
 .obT
 (.obC (((0 : Int) ≤ 0 ∧ (0 : Int) < 3) ∧ true = true) (by decide)
 (.obC _ jm0
 (.obT
 (.obC (((0 : Int) ≤ 1 ∧ (1 : Int) < 3) ∧ true = true) (by decide)
 (.obC _ jhr
 (.obT
 (.obC (((0 : Int) ≤ 2 ∧ (2 : Int) < 3) ∧ true = true) (by decide)
 (.obC _ jc0
 (.obT
 (.obC _ jm0
 (.call (y14 u17 u18 u19 u20 r0.2.1 r0.2.2 (0 : Int)) fun r1 =>
 .brB (r1.2.2 == 0)
 (.obC _ jm0
 (.obC _ jax
 (.obC _ jm0
 (.obC _ jay
 (.obC _ jhr
 (.call (y14 u17 u18 u19 u20 r0.2.1 r0.2.2 (1 : Int)) fun r2 =>
 .brB (r2.2.2 == 0)
 (.obC _ jhr
 (.obC _ jax
 (.obC _ jhr
 (.obC _ jay
 (.obC _ jc0
 (.call (y14 u17 u18 u19 u20 r0.2.1 r0.2.2 (2 : Int)) fun r3 =>
 .brB (r3.2.2 == 0)
 (.obC _ jc0
 (.obC _ jax
 (.obC _ jc0
 (.obC _ jay
 (.obC _ jbu
 (.call (y11 u17 u18 u19 u20 r0.2.1 r0.2.2) fun r4 =>
 .brB (r4.2.2 == 0)
 (.obC _ jbu
 (.obC _ jax
 (.obC _ jbu
 (.obC _ jay
 (.obC _ jaM
 (.call (y2 u17 u18 u19 u20 r0.2.1 r0.2.2) fun r5 =>
 .brB (r5.2.2 == 0)
 (.obC _ jaM
 (.obC _ jax
 (.obC _ jaM
 (.obC _ jay
 (.obC _ jam
 (.call (y1 u17 u18 u19 u20 r0.2.1 r0.2.2) fun r6 =>
 .brB (r6.2.2 == 0)
 (.obC _ jam
 (.obC _ jax
 (.obC _ jam
 (.obC _ jay
 (.obT
 (.obT
 (.rc (((true, true, true, true, true, true, r1.1, r1.2.1, r2.1, r2.2.1, r3.1, r3.2.1, r4.1, r4.2.1, r5.1, r5.2.1, r6.1, r6.2.1, 0))))))))))
 (.obT
 (.obT
 (.rc (((true, true, true, true, true, false, r1.1, r1.2.1, r2.1, r2.2.1, r3.1, r3.2.1, r4.1, r4.2.1, r5.1, r5.2.1, 0, 0, 0))))))))))))
 (.obC _ jam
 (.call (y1 u17 u18 u19 u20 r0.2.1 r0.2.2) fun r6 =>
 .brB (r6.2.2 == 0)
 (.obC _ jam
 (.obC _ jax
 (.obC _ jam
 (.obC _ jay
 (.obT
 (.obT
 (.rc (((true, true, true, true, false, true, r1.1, r1.2.1, r2.1, r2.2.1, r3.1, r3.2.1, r4.1, r4.2.1, 0, 0, r6.1, r6.2.1, 0))))))))))
 (.obT
 (.obT
 (.rc (((true, true, true, true, false, false, r1.1, r1.2.1, r2.1, r2.2.1, r3.1, r3.2.1, r4.1, r4.2.1, 0, 0, 0, 0, 0))))))))))))))
 (.obC _ jaM
 (.call (y2 u17 u18 u19 u20 r0.2.1 r0.2.2) fun r5 =>
 .brB (r5.2.2 == 0)
 (.obC _ jaM
 (.obC _ jax
 (.obC _ jaM
 (.obC _ jay
 (.obC _ jam
 (.call (y1 u17 u18 u19 u20 r0.2.1 r0.2.2) fun r6 =>
 .brB (r6.2.2 == 0)
 (.obC _ jam
 (.obC _ jax
 (.obC _ jam
 (.obC _ jay
 (.obT
 (.obT
 (.rc (((true, true, true, false, true, true, r1.1, r1.2.1, r2.1, r2.2.1, r3.1, r3.2.1, 0, 0, r5.1, r5.2.1, r6.1, r6.2.1, 0))))))))))
 (.obT
 (.obT
 (.rc (((true, true, true, false, true, false, r1.1, r1.2.1, r2.1, r2.2.1, r3.1, r3.2.1, 0, 0, r5.1, r5.2.1, 0, 0, 0))))))))))))
 (.obC _ jam
 (.call (y1 u17 u18 u19 u20 r0.2.1 r0.2.2) fun r6 =>
 .brB (r6.2.2 == 0)
 (.obC _ jam
 (.obC _ jax
 (.obC _ jam
 (.obC _ jay
 (.obT
 (.obT
 (.rc (((true, true, true, false, false, true, r1.1, r1.2.1, r2.1, r2.2.1, r3.1, r3.2.1, 0, 0, 0, 0, r6.1, r6.2.1, 0))))))))))
 (.obT
 (.obT
 (.rc (((true, true, true, false, false, false, r1.1, r1.2.1, r2.1, r2.2.1, r3.1, r3.2.1, 0, 0, 0, 0, 0, 0, 0))))))))))))))))
 (.obC _ jbu
 (.call (y11 u17 u18 u19 u20 r0.2.1 r0.2.2) fun r4 =>
 .brB (r4.2.2 == 0)
 (.obC _ jbu
 (.obC _ jax
 (.obC _ jbu
 (.obC _ jay
 (.obC _ jaM
 (.call (y2 u17 u18 u19 u20 r0.2.1 r0.2.2) fun r5 =>
 .brB (r5.2.2 == 0)
 (.obC _ jaM
 (.obC _ jax
 (.obC _ jaM
 (.obC _ jay
 (.obC _ jam
 (.call (y1 u17 u18 u19 u20 r0.2.1 r0.2.2) fun r6 =>
 .brB (r6.2.2 == 0)
 (.obC _ jam
 (.obC _ jax
 (.obC _ jam
 (.obC _ jay
 (.obT
 (.obT
 (.rc (((true, true, false, true, true, true, r1.1, r1.2.1, r2.1, r2.2.1, 0, 0, r4.1, r4.2.1, r5.1, r5.2.1, r6.1, r6.2.1, 0))))))))))
 (.obT
 (.obT
 (.rc (((true, true, false, true, true, false, r1.1, r1.2.1, r2.1, r2.2.1, 0, 0, r4.1, r4.2.1, r5.1, r5.2.1, 0, 0, 0))))))))))))
 (.obC _ jam
 (.call (y1 u17 u18 u19 u20 r0.2.1 r0.2.2) fun r6 =>
 .brB (r6.2.2 == 0)
 (.obC _ jam
 (.obC _ jax
 (.obC _ jam
 (.obC _ jay
 (.obT
 (.obT
 (.rc (((true, true, false, true, false, true, r1.1, r1.2.1, r2.1, r2.2.1, 0, 0, r4.1, r4.2.1, 0, 0, r6.1, r6.2.1, 0))))))))))
 (.obT
 (.obT
 (.rc (((true, true, false, true, false, false, r1.1, r1.2.1, r2.1, r2.2.1, 0, 0, r4.1, r4.2.1, 0, 0, 0, 0, 0))))))))))))))
 (.obC _ jaM
 (.call (y2 u17 u18 u19 u20 r0.2.1 r0.2.2) fun r5 =>
 .brB (r5.2.2 == 0)
 (.obC _ jaM
 (.obC _ jax
 (.obC _ jaM
 (.obC _ jay
 (.obC _ jam
 (.call (y1 u17 u18 u19 u20 r0.2.1 r0.2.2) fun r6 =>
 .brB (r6.2.2 == 0)
 (.obC _ jam
 (.obC _ jax
 (.obC _ jam
 (.obC _ jay
 (.obT
 (.obT
 (.rc (((true, true, false, false, true, true, r1.1, r1.2.1, r2.1, r2.2.1, 0, 0, 0, 0, r5.1, r5.2.1, r6.1, r6.2.1, 0))))))))))
 (.obT
 (.obT
 (.rc (((true, true, false, false, true, false, r1.1, r1.2.1, r2.1, r2.2.1, 0, 0, 0, 0, r5.1, r5.2.1, 0, 0, 0))))))))))))
 (.obC _ jam
 (.call (y1 u17 u18 u19 u20 r0.2.1 r0.2.2) fun r6 =>
 .brB (r6.2.2 == 0)
 (.obC _ jam
 (.obC _ jax
 (.obC _ jam
 (.obC _ jay
 (.obT
 (.obT
 (.rc (((true, true, false, false, false, true, r1.1, r1.2.1, r2.1, r2.2.1, 0, 0, 0, 0, 0, 0, r6.1, r6.2.1, 0))))))))))
 (.obT
 (.obT
 (.rc (((true, true, false, false, false, false, r1.1, r1.2.1, r2.1, r2.2.1, 0, 0, 0, 0, 0, 0, 0, 0, 0))))))))))))))))))
 (.obC _ jc0
 (.call (y14 u17 u18 u19 u20 r0.2.1 r0.2.2 (2 : Int)) fun r3 =>
 .brB (r3.2.2 == 0)
 (.obC _ jc0
 (.obC _ jax
 (.obC _ jc0
 (.obC _ jay
 (.obC _ jbu
 (.call (y11 u17 u18 u19 u20 r0.2.1 r0.2.2) fun r4 =>
 .brB (r4.2.2 == 0)
 (.obC _ jbu
 (.obC _ jax
 (.obC _ jbu
 (.obC _ jay
 (.obC _ jaM
 (.call (y2 u17 u18 u19 u20 r0.2.1 r0.2.2) fun r5 =>
 .brB (r5.2.2 == 0)
 (.obC _ jaM
 (.obC _ jax
 (.obC _ jaM
 (.obC _ jay
 (.obC _ jam
 (.call (y1 u17 u18 u19 u20 r0.2.1 r0.2.2) fun r6 =>
 .brB (r6.2.2 == 0)
 (.obC _ jam
 (.obC _ jax
 (.obC _ jam
 (.obC _ jay
 (.obT
 (.obT
 (.rc (((true, false, true, true, true, true, r1.1, r1.2.1, 0, 0, r3.1, r3.2.1, r4.1, r4.2.1, r5.1, r5.2.1, r6.1, r6.2.1, 0))))))))))
 (.obT
 (.obT
 (.rc (((true, false, true, true, true, false, r1.1, r1.2.1, 0, 0, r3.1, r3.2.1, r4.1, r4.2.1, r5.1, r5.2.1, 0, 0, 0))))))))))))
 (.obC _ jam
 (.call (y1 u17 u18 u19 u20 r0.2.1 r0.2.2) fun r6 =>
 .brB (r6.2.2 == 0)
 (.obC _ jam
 (.obC _ jax
 (.obC _ jam
 (.obC _ jay
 (.obT
 (.obT
 (.rc (((true, false, true, true, false, true, r1.1, r1.2.1, 0, 0, r3.1, r3.2.1, r4.1, r4.2.1, 0, 0, r6.1, r6.2.1, 0))))))))))
 (.obT
 (.obT
 (.rc (((true, false, true, true, false, false, r1.1, r1.2.1, 0, 0, r3.1, r3.2.1, r4.1, r4.2.1, 0, 0, 0, 0, 0))))))))))))))
 (.obC _ jaM
 (.call (y2 u17 u18 u19 u20 r0.2.1 r0.2.2) fun r5 =>
 .brB (r5.2.2 == 0)
 (.obC _ jaM
 (.obC _ jax
 (.obC _ jaM
 (.obC _ jay
 (.obC _ jam
 (.call (y1 u17 u18 u19 u20 r0.2.1 r0.2.2) fun r6 =>
 .brB (r6.2.2 == 0)
 (.obC _ jam
 (.obC _ jax
 (.obC _ jam
 (.obC _ jay
 (.obT
 (.obT
 (.rc (((true, false, true, false, true, true, r1.1, r1.2.1, 0, 0, r3.1, r3.2.1, 0, 0, r5.1, r5.2.1, r6.1, r6.2.1, 0))))))))))
 (.obT
 (.obT
 (.rc (((true, false, true, false, true, false, r1.1, r1.2.1, 0, 0, r3.1, r3.2.1, 0, 0, r5.1, r5.2.1, 0, 0, 0))))))))))))
 (.obC _ jam
 (.call (y1 u17 u18 u19 u20 r0.2.1 r0.2.2) fun r6 =>
 .brB (r6.2.2 == 0)
 (.obC _ jam
 (.obC _ jax
 (.obC _ jam
 (.obC _ jay
 (.obT
 (.obT
 (.rc (((true, false, true, false, false, true, r1.1, r1.2.1, 0, 0, r3.1, r3.2.1, 0, 0, 0, 0, r6.1, r6.2.1, 0))))))))))
 (.obT
 (.obT
 (.rc (((true, false, true, false, false, false, r1.1, r1.2.1, 0, 0, r3.1, r3.2.1, 0, 0, 0, 0, 0, 0, 0))))))))))))))))
 (.obC _ jbu
 (.call (y11 u17 u18 u19 u20 r0.2.1 r0.2.2) fun r4 =>
 .brB (r4.2.2 == 0)
 (.obC _ jbu
 (.obC _ jax
 (.obC _ jbu
 (.obC _ jay
 (.obC _ jaM
 (.call (y2 u17 u18 u19 u20 r0.2.1 r0.2.2) fun r5 =>
 .brB (r5.2.2 == 0)
 (.obC _ jaM
 (.obC _ jax
 (.obC _ jaM
 (.obC _ jay
 (.obC _ jam
 (.call (y1 u17 u18 u19 u20 r0.2.1 r0.2.2) fun r6 =>
 .brB (r6.2.2 == 0)
 (.obC _ jam
 (.obC _ jax
 (.obC _ jam
 (.obC _ jay
 (.obT
 (.obT
 (.rc (((true, false, false, true, true, true, r1.1, r1.2.1, 0, 0, 0, 0, r4.1, r4.2.1, r5.1, r5.2.1, r6.1, r6.2.1, 0))))))))))
 (.obT
 (.obT
 (.rc (((true, false, false, true, true, false, r1.1, r1.2.1, 0, 0, 0, 0, r4.1, r4.2.1, r5.1, r5.2.1, 0, 0, 0))))))))))))
 (.obC _ jam
 (.call (y1 u17 u18 u19 u20 r0.2.1 r0.2.2) fun r6 =>
 .brB (r6.2.2 == 0)
 (.obC _ jam
 (.obC _ jax
 (.obC _ jam
 (.obC _ jay
 (.obT
 (.obT
 (.rc (((true, false, false, true, false, true, r1.1, r1.2.1, 0, 0, 0, 0, r4.1, r4.2.1, 0, 0, r6.1, r6.2.1, 0))))))))))
 (.obT
 (.obT
 (.rc (((true, false, false, true, false, false, r1.1, r1.2.1, 0, 0, 0, 0, r4.1, r4.2.1, 0, 0, 0, 0, 0))))))))))))))
 (.obC _ jaM
 (.call (y2 u17 u18 u19 u20 r0.2.1 r0.2.2) fun r5 =>
 .brB (r5.2.2 == 0)
 (.obC _ jaM
 (.obC _ jax
 (.obC _ jaM
 (.obC _ jay
 (.obC _ jam
 (.call (y1 u17 u18 u19 u20 r0.2.1 r0.2.2) fun r6 =>
 .brB (r6.2.2 == 0)
 (.obC _ jam
 (.obC _ jax
 (.obC _ jam
 (.obC _ jay
 (.obT
 (.obT
 (.rc (((true, false, false, false, true, true, r1.1, r1.2.1, 0, 0, 0, 0, 0, 0, r5.1, r5.2.1, r6.1, r6.2.1, 0))))))))))
 (.obT
 (.obT
 (.rc (((true, false, false, false, true, false, r1.1, r1.2.1, 0, 0, 0, 0, 0, 0, r5.1, r5.2.1, 0, 0, 0))))))))))))
 (.obC _ jam
 (.call (y1 u17 u18 u19 u20 r0.2.1 r0.2.2) fun r6 =>
 .brB (r6.2.2 == 0)
 (.obC _ jam
 (.obC _ jax
 (.obC _ jam
 (.obC _ jay
 (.obT
 (.obT
 (.rc (((true, false, false, false, false, true, r1.1, r1.2.1, 0, 0, 0, 0, 0, 0, 0, 0, r6.1, r6.2.1, 0))))))))))
 (.obT
 (.obT
 (.rc (((true, false, false, false, false, false, r1.1, r1.2.1, 0, 0, 0, 0, 0, 0, 0, 0, 0, 0, 0))))))))))))))))))))
 (.obC _ jhr
 (.call (y14 u17 u18 u19 u20 r0.2.1 r0.2.2 (1 : Int)) fun r2 =>
 .brB (r2.2.2 == 0)
 (.obC _ jhr
 (.obC _ jax
 (.obC _ jhr
 (.obC _ jay
 (.obC _ jc0
 (.call (y14 u17 u18 u19 u20 r0.2.1 r0.2.2 (2 : Int)) fun r3 =>
 .brB (r3.2.2 == 0)
 (.obC _ jc0
 (.obC _ jax
 (.obC _ jc0
 (.obC _ jay
 (.obC _ jbu
 (.call (y11 u17 u18 u19 u20 r0.2.1 r0.2.2) fun r4 =>
 .brB (r4.2.2 == 0)
 (.obC _ jbu
 (.obC _ jax
 (.obC _ jbu
 (.obC _ jay
 (.obC _ jaM
 (.call (y2 u17 u18 u19 u20 r0.2.1 r0.2.2) fun r5 =>
 .brB (r5.2.2 == 0)
 (.obC _ jaM
 (.obC _ jax
 (.obC _ jaM
 (.obC _ jay
 (.obC _ jam
 (.call (y1 u17 u18 u19 u20 r0.2.1 r0.2.2) fun r6 =>
 .brB (r6.2.2 == 0)
 (.obC _ jam
 (.obC _ jax
 (.obC _ jam
 (.obC _ jay
 (.obT
 (.obT
 (.rc (((false, true, true, true, true, true, 0, 0, r2.1, r2.2.1, r3.1, r3.2.1, r4.1, r4.2.1, r5.1, r5.2.1, r6.1, r6.2.1, 0))))))))))
 (.obT
 (.obT
 (.rc (((false, true, true, true, true, false, 0, 0, r2.1, r2.2.1, r3.1, r3.2.1, r4.1, r4.2.1, r5.1, r5.2.1, 0, 0, 0))))))))))))
 (.obC _ jam
 (.call (y1 u17 u18 u19 u20 r0.2.1 r0.2.2) fun r6 =>
 .brB (r6.2.2 == 0)
 (.obC _ jam
 (.obC _ jax
 (.obC _ jam
 (.obC _ jay
 (.obT
 (.obT
 (.rc (((false, true, true, true, false, true, 0, 0, r2.1, r2.2.1, r3.1, r3.2.1, r4.1, r4.2.1, 0, 0, r6.1, r6.2.1, 0))))))))))
 (.obT
 (.obT
 (.rc (((false, true, true, true, false, false, 0, 0, r2.1, r2.2.1, r3.1, r3.2.1, r4.1, r4.2.1, 0, 0, 0, 0, 0))))))))))))))
 (.obC _ jaM
 (.call (y2 u17 u18 u19 u20 r0.2.1 r0.2.2) fun r5 =>
 .brB (r5.2.2 == 0)
 (.obC _ jaM
 (.obC _ jax
 (.obC _ jaM
 (.obC _ jay
 (.obC _ jam
 (.call (y1 u17 u18 u19 u20 r0.2.1 r0.2.2) fun r6 =>
 .brB (r6.2.2 == 0)
 (.obC _ jam
 (.obC _ jax
 (.obC _ jam
 (.obC _ jay
 (.obT
 (.obT
 (.rc (((false, true, true, false, true, true, 0, 0, r2.1, r2.2.1, r3.1, r3.2.1, 0, 0, r5.1, r5.2.1, r6.1, r6.2.1, 0))))))))))
 (.obT
 (.obT
 (.rc (((false, true, true, false, true, false, 0, 0, r2.1, r2.2.1, r3.1, r3.2.1, 0, 0, r5.1, r5.2.1, 0, 0, 0))))))))))))
 (.obC _ jam
 (.call (y1 u17 u18 u19 u20 r0.2.1 r0.2.2) fun r6 =>
 .brB (r6.2.2 == 0)
 (.obC _ jam
 (.obC _ jax
 (.obC _ jam
 (.obC _ jay
 (.obT
 (.obT
 (.rc (((false, true, true, false, false, true, 0, 0, r2.1, r2.2.1, r3.1, r3.2.1, 0, 0, 0, 0, r6.1, r6.2.1, 0))))))))))
 (.obT
 (.obT
 (.rc (((false, true, true, false, false, false, 0, 0, r2.1, r2.2.1, r3.1, r3.2.1, 0, 0, 0, 0, 0, 0, 0))))))))))))))))
 (.obC _ jbu
 (.call (y11 u17 u18 u19 u20 r0.2.1 r0.2.2) fun r4 =>
 .brB (r4.2.2 == 0)
 (.obC _ jbu
 (.obC _ jax
 (.obC _ jbu
 (.obC _ jay
 (.obC _ jaM
 (.call (y2 u17 u18 u19 u20 r0.2.1 r0.2.2) fun r5 =>
 .brB (r5.2.2 == 0)
 (.obC _ jaM
 (.obC _ jax
 (.obC _ jaM
 (.obC _ jay
 (.obC _ jam
 (.call (y1 u17 u18 u19 u20 r0.2.1 r0.2.2) fun r6 =>
 .brB (r6.2.2 == 0)
 (.obC _ jam
 (.obC _ jax
 (.obC _ jam
 (.obC _ jay
 (.obT
 (.obT
 (.rc (((false, true, false, true, true, true, 0, 0, r2.1, r2.2.1, 0, 0, r4.1, r4.2.1, r5.1, r5.2.1, r6.1, r6.2.1, 0))))))))))
 (.obT
 (.obT
 (.rc (((false, true, false, true, true, false, 0, 0, r2.1, r2.2.1, 0, 0, r4.1, r4.2.1, r5.1, r5.2.1, 0, 0, 0))))))))))))
 (.obC _ jam
 (.call (y1 u17 u18 u19 u20 r0.2.1 r0.2.2) fun r6 =>
 .brB (r6.2.2 == 0)
 (.obC _ jam
 (.obC _ jax
 (.obC _ jam
 (.obC _ jay
 (.obT
 (.obT
 (.rc (((false, true, false, true, false, true, 0, 0, r2.1, r2.2.1, 0, 0, r4.1, r4.2.1, 0, 0, r6.1, r6.2.1, 0))))))))))
 (.obT
 (.obT
 (.rc (((false, true, false, true, false, false, 0, 0, r2.1, r2.2.1, 0, 0, r4.1, r4.2.1, 0, 0, 0, 0, 0))))))))))))))
 (.obC _ jaM
 (.call (y2 u17 u18 u19 u20 r0.2.1 r0.2.2) fun r5 =>
 .brB (r5.2.2 == 0)
 (.obC _ jaM
 (.obC _ jax
 (.obC _ jaM
 (.obC _ jay
 (.obC _ jam
 (.call (y1 u17 u18 u19 u20 r0.2.1 r0.2.2) fun r6 =>
 .brB (r6.2.2 == 0)
 (.obC _ jam
 (.obC _ jax
 (.obC _ jam
 (.obC _ jay
 (.obT
 (.obT
 (.rc (((false, true, false, false, true, true, 0, 0, r2.1, r2.2.1, 0, 0, 0, 0, r5.1, r5.2.1, r6.1, r6.2.1, 0))))))))))
 (.obT
 (.obT
 (.rc (((false, true, false, false, true, false, 0, 0, r2.1, r2.2.1, 0, 0, 0, 0, r5.1, r5.2.1, 0, 0, 0))))))))))))
 (.obC _ jam
 (.call (y1 u17 u18 u19 u20 r0.2.1 r0.2.2) fun r6 =>
 .brB (r6.2.2 == 0)
 (.obC _ jam
 (.obC _ jax
 (.obC _ jam
 (.obC _ jay
 (.obT
 (.obT
 (.rc (((false, true, false, false, false, true, 0, 0, r2.1, r2.2.1, 0, 0, 0, 0, 0, 0, r6.1, r6.2.1, 0))))))))))
 (.obT
 (.obT
 (.rc (((false, true, false, false, false, false, 0, 0, r2.1, r2.2.1, 0, 0, 0, 0, 0, 0, 0, 0, 0))))))))))))))))))
 (.obC _ jc0
 (.call (y14 u17 u18 u19 u20 r0.2.1 r0.2.2 (2 : Int)) fun r3 =>
 .brB (r3.2.2 == 0)
 (.obC _ jc0
 (.obC _ jax
 (.obC _ jc0
 (.obC _ jay
 (.obC _ jbu
 (.call (y11 u17 u18 u19 u20 r0.2.1 r0.2.2) fun r4 =>
 .brB (r4.2.2 == 0)
 (.obC _ jbu
 (.obC _ jax
 (.obC _ jbu
 (.obC _ jay
 (.obC _ jaM
 (.call (y2 u17 u18 u19 u20 r0.2.1 r0.2.2) fun r5 =>
 .brB (r5.2.2 == 0)
 (.obC _ jaM
 (.obC _ jax
 (.obC _ jaM
 (.obC _ jay
 (.obC _ jam
 (.call (y1 u17 u18 u19 u20 r0.2.1 r0.2.2) fun r6 =>
 .brB (r6.2.2 == 0)
 (.obC _ jam
 (.obC _ jax
 (.obC _ jam
 (.obC _ jay
 (.obT
 (.obT
 (.rc (((false, false, true, true, true, true, 0, 0, 0, 0, r3.1, r3.2.1, r4.1, r4.2.1, r5.1, r5.2.1, r6.1, r6.2.1, 0))))))))))
 (.obT
 (.obT
 (.rc (((false, false, true, true, true, false, 0, 0, 0, 0, r3.1, r3.2.1, r4.1, r4.2.1, r5.1, r5.2.1, 0, 0, 0))))))))))))
 (.obC _ jam
 (.call (y1 u17 u18 u19 u20 r0.2.1 r0.2.2) fun r6 =>
 .brB (r6.2.2 == 0)
 (.obC _ jam
 (.obC _ jax
 (.obC _ jam
 (.obC _ jay
 (.obT
 (.obT
 (.rc (((false, false, true, true, false, true, 0, 0, 0, 0, r3.1, r3.2.1, r4.1, r4.2.1, 0, 0, r6.1, r6.2.1, 0))))))))))
 (.obT
 (.obT
 (.rc (((false, false, true, true, false, false, 0, 0, 0, 0, r3.1, r3.2.1, r4.1, r4.2.1, 0, 0, 0, 0, 0))))))))))))))
 (.obC _ jaM
 (.call (y2 u17 u18 u19 u20 r0.2.1 r0.2.2) fun r5 =>
 .brB (r5.2.2 == 0)
 (.obC _ jaM
 (.obC _ jax
 (.obC _ jaM
 (.obC _ jay
 (.obC _ jam
 (.call (y1 u17 u18 u19 u20 r0.2.1 r0.2.2) fun r6 =>
 .brB (r6.2.2 == 0)
 (.obC _ jam
 (.obC _ jax
 (.obC _ jam
 (.obC _ jay
 (.obT
 (.obT
 (.rc (((false, false, true, false, true, true, 0, 0, 0, 0, r3.1, r3.2.1, 0, 0, r5.1, r5.2.1, r6.1, r6.2.1, 0))))))))))
 (.obT
 (.obT
 (.rc (((false, false, true, false, true, false, 0, 0, 0, 0, r3.1, r3.2.1, 0, 0, r5.1, r5.2.1, 0, 0, 0))))))))))))
 (.obC _ jam
 (.call (y1 u17 u18 u19 u20 r0.2.1 r0.2.2) fun r6 =>
 .brB (r6.2.2 == 0)
 (.obC _ jam
 (.obC _ jax
 (.obC _ jam
 (.obC _ jay
 (.obT
 (.obT
 (.rc (((false, false, true, false, false, true, 0, 0, 0, 0, r3.1, r3.2.1, 0, 0, 0, 0, r6.1, r6.2.1, 0))))))))))
 (.obT
 (.obT
 (.rc (((false, false, true, false, false, false, 0, 0, 0, 0, r3.1, r3.2.1, 0, 0, 0, 0, 0, 0, 0))))))))))))))))
 (.obC _ jbu
 (.call (y11 u17 u18 u19 u20 r0.2.1 r0.2.2) fun r4 =>
 .brB (r4.2.2 == 0)
 (.obC _ jbu
 (.obC _ jax
 (.obC _ jbu
 (.obC _ jay
 (.obC _ jaM
 (.call (y2 u17 u18 u19 u20 r0.2.1 r0.2.2) fun r5 =>
 .brB (r5.2.2 == 0)
 (.obC _ jaM
 (.obC _ jax
 (.obC _ jaM
 (.obC _ jay
 (.obC _ jam
 (.call (y1 u17 u18 u19 u20 r0.2.1 r0.2.2) fun r6 =>
 .brB (r6.2.2 == 0)
 (.obC _ jam
 (.obC _ jax
 (.obC _ jam
 (.obC _ jay
 (.obT
 (.obT
 (.rc (((false, false, false, true, true, true, 0, 0, 0, 0, 0, 0, r4.1, r4.2.1, r5.1, r5.2.1, r6.1, r6.2.1, 0))))))))))
 (.obT
 (.obT
 (.rc (((false, false, false, true, true, false, 0, 0, 0, 0, 0, 0, r4.1, r4.2.1, r5.1, r5.2.1, 0, 0, 0))))))))))))
 (.obC _ jam
 (.call (y1 u17 u18 u19 u20 r0.2.1 r0.2.2) fun r6 =>
 .brB (r6.2.2 == 0)
 (.obC _ jam
 (.obC _ jax
 (.obC _ jam
 (.obC _ jay
 (.obT
 (.obT
 (.rc (((false, false, false, true, false, true, 0, 0, 0, 0, 0, 0, r4.1, r4.2.1, 0, 0, r6.1, r6.2.1, 0))))))))))
 (.obT
 (.obT
 (.rc (((false, false, false, true, false, false, 0, 0, 0, 0, 0, 0, r4.1, r4.2.1, 0, 0, 0, 0, 0))))))))))))))
 (.obC _ jaM
 (.call (y2 u17 u18 u19 u20 r0.2.1 r0.2.2) fun r5 =>
 .brB (r5.2.2 == 0)
 (.obC _ jaM
 (.obC _ jax
 (.obC _ jaM
 (.obC _ jay
 (.obC _ jam
 (.call (y1 u17 u18 u19 u20 r0.2.1 r0.2.2) fun r6 =>
 .brB (r6.2.2 == 0)
 (.obC _ jam
 (.obC _ jax
 (.obC _ jam
 (.obC _ jay
 (.obT
 (.obT
 (.rc (((false, false, false, false, true, true, 0, 0, 0, 0, 0, 0, 0, 0, r5.1, r5.2.1, r6.1, r6.2.1, 0))))))))))
 (.obT
 (.obT
 (.rc (((false, false, false, false, true, false, 0, 0, 0, 0, 0, 0, 0, 0, r5.1, r5.2.1, 0, 0, 0))))))))))))
 (.obC _ jam
 (.call (y1 u17 u18 u19 u20 r0.2.1 r0.2.2) fun r6 =>
 .brB (r6.2.2 == 0)
 (.obC _ jam
 (.obC _ jax
 (.obC _ jam
 (.obC _ jay
 (.obT
 (.obT
 (.rc (((false, false, false, false, false, true, 0, 0, 0, 0, 0, 0, 0, 0, 0, 0, r6.1, r6.2.1, 0))))))))))
 (.obT
 (.obT
 (.rc (((false, false, false, false, false, false, 0, 0, 0, 0, 0, 0, 0, 0, 0, 0, 0, 0, 0))))))))))))))))))))))))))))
theorem jlZ (u17 : Int) (u18 : List Nat) (u19 : Int) (u20 : Int) (r : Bool × Bool × Bool × Bool × Bool × Bool × Int × Int × Int × Int × Int × Int × Int × Int × Int × Int × Int × Int × Int) (h : Option.bind (y13 u17 u18 u19 u20) some = some r) : jbg Tryz.f60 ((sp_67 (sp_82 (sp_102 (sp_103 (sp_104 sp0)))))) (fun _ _ _ => none) (ja2 jeI [.d (.i .i64 u17), .r (.floats .f32 u18), .d (.i .i64 u19), .d (.i .i64 u20)]) [.s [.d (.b r.1), .d (.b r.2.1), .d (.b r.2.2.1), .d (.b r.2.2.2.1), .d (.b r.2.2.2.2.1), .d (.b r.2.2.2.2.2.1), .d (.i .i64 r.2.2.2.2.2.2.1), .d (.i .i64 r.2.2.2.2.2.2.2.1), .d (.i .i64 r.2.2.2.2.2.2.2.2.1), .d (.i .i64 r.2.2.2.2.2.2.2.2.2.1), .d (.i .i64 r.2.2.2.2.2.2.2.2.2.2.1), .d (.i .i64 r.2.2.2.2.2.2.2.2.2.2.2.1), .d (.i .i64 r.2.2.2.2.2.2.2.2.2.2.2.2.1), .d (.i .i64 r.2.2.2.2.2.2.2.2.2.2.2.2.2.1), .d (.i .i64 r.2.2.2.2.2.2.2.2.2.2.2.2.2.2.1), .d (.i .i64 r.2.2.2.2.2.2.2.2.2.2.2.2.2.2.2.1), .d (.i .i64 r.2.2.2.2.2.2.2.2.2.2.2.2.2.2.2.2.1), .d (.i .i64 r.2.2.2.2.2.2.2.2.2.2.2.2.2.2.2.2.2.1)], .c (.d (.i .i64 r.2.2.2.2.2.2.2.2.2.2.2.2.2.2.2.2.2.2))] :=
 T.vc (t := jmM u17 u18 u19 u20) (by kernel_rfl) (by kernel_rfl) h
theorem jl0 : jaf Tryz.prog 60 true (jap jeI jeJ) := by
 refine jaF (sp := (sp_67 (sp_82 (sp_102 (sp_103 (sp_104 sp0)))))) (fn := Tryz.f60) (body := jah Tryz.f60) mixed (sp_67_ok (sp_82_ok (sp_102_ok (sp_103_ok (sp_104_ok jao))))) Tryz.func60 (by kernel_rfl) (by kernel_rfl) fun ls t h ho b hb => ?_
 unfold jeJ at h
 split at h
 ·rename_i u17 u18 u19 u20
  cases h
  obtain rfl := jaO hb
  exact ⟨Nat.le_of_ble_eq_true (by kernel_rfl), _, _, jlZ u17 u18 u19 u20 _ (jan ho)⟩
 ·cases h
theorem sp_60_ok {sp : jaa} (h : jab Tryz.prog sp) : jab Tryz.prog (sp_60 sp) := jag jl0 h
end Go.Sh
end

section
namespace Go.Sh
open Go Go.Proofs Go.RowKit Go.Sx
def jhs : List SV := []
def jto : Option (Int × List Nat) :=
 some (((8000 : Int), [(1090519040 : Nat), (1082130432 : Nat), (1073741824 : Nat), (1065353216 : Nat), (0 : Nat)]))
def jqA : T (Int × List Nat) :=
 .obT
 (.rc ((((8000 : Int), [(1090519040 : Nat), (1082130432 : Nat), (1073741824 : Nat), (1065353216 : Nat), (0 : Nat)]))))
theorem joZ (r : Int × List Nat) (h : Option.bind (jto) some = some r) : jbg Tryz.f66 (sp0) (fun _ _ _ => none) (ja2 jhs []) [.s [.d (.i .i64 r.1), .row 151 (.floats .f32 r.2)]] :=
 T.vc (t := jqA) (by kernel_rfl) (by kernel_rfl) h
end Go.Sh
end

section
namespace Go.Sh
open Go Go.Proofs Go.RowKit Go.Sx
def ji7 : Int := 8000
def ji8 : List Nat := [1090519040, 1082130432, 1073741824, 1065353216, 0]
def jom (fr : Int) (fs : List Nat) : List Lf → Option GT
 | [] => some (.leaf True [.s [.d (.i .i64 fr), .row 151 (.floats .f32 fs)]])
 | _ => none
abbrev sp_66v (fr : Int) (fs : List Nat) : jaa → jaa := jav 66 true (jap jhs (jom fr fs))
theorem jub : jaf Tryz.prog 66 true (jap jhs (jom ji7 ji8)) := by
 refine jaF (sp := sp0) (fn := Tryz.f66) (body := jah Tryz.f66) mixed jao Tryz.func66 (by kernel_rfl) (by kernel_rfl) fun ls t h ho b hb => ?_
 unfold jom at h
 split at h
 ·cases h
  obtain rfl := jaO hb
  exact ⟨Nat.le_of_ble_eq_true (by kernel_rfl), _, _, joZ (ji7, ji8) rfl⟩
 ·cases h
theorem sp_66v_ok {sp : jaa} (h : jab Tryz.prog sp) : jab Tryz.prog (sp_66v ji7 ji8 sp) := jag jub h
end Go.Sh
end

section
namespace Go.Sh
open Go Go.Proofs Go.RowKit Go.Sx
def jjI : List (Option Cont) := []
def jmu (fr : Int) (fs : List Nat) : Option Bool :=
 Option.bind (jgy fr fs) fun r0 =>
 Option.bind (jd9 fr fs (1 : Int)) fun r1 =>
 Option.bind (jcP fr fs (0 : Int) (0 : Int) (125 : Int)) fun r2 =>
 Option.bind (y97 fr fs (1 : Int)) fun r3 =>
 Option.bind (y13 fr fs (0 : Int) (0 : Int)) fun r4 =>
 if (r0.2 == 0) = true then
  Option.bind (jir r0.1 [(85 : Int), 21, 5, 1, 0]) fun r5 =>
  if (r5) = true then
  if (r1.2.2 == 0) = true then
   if (r1.1 == 750 && r1.2.1 == 1500) = true then
   if (r2.2.2 == 0) = true then
    if (r2.1 == 4 && r2.2.1 == 5) = true then
    if (r3.2.2 == 0) = true then
     if (r3.1 == 9 && r3.2.1 == 17) = true then
     if (r4.2.2.2.2.2.2.2.2.2.2.2.2.2.2.2.2.2.2 == 0) = true then
      Option.bind (y42 r4.1 r4.2.1 r4.2.2.1 r4.2.2.2.1 r4.2.2.2.2.1 r4.2.2.2.2.2.1 r4.2.2.2.2.2.2.1 r4.2.2.2.2.2.2.2.1 r4.2.2.2.2.2.2.2.2.1 r4.2.2.2.2.2.2.2.2.2.1 r4.2.2.2.2.2.2.2.2.2.2.1 r4.2.2.2.2.2.2.2.2.2.2.2.1 r4.2.2.2.2.2.2.2.2.2.2.2.2.1 r4.2.2.2.2.2.2.2.2.2.2.2.2.2.1 r4.2.2.2.2.2.2.2.2.2.2.2.2.2.2.1 r4.2.2.2.2.2.2.2.2.2.2.2.2.2.2.2.1 r4.2.2.2.2.2.2.2.2.2.2.2.2.2.2.2.2.1 r4.2.2.2.2.2.2.2.2.2.2.2.2.2.2.2.2.2.1) fun r6 =>
      some (r6 == ByteArray.mk #[(55 : UInt8), (53 : UInt8), (48 : UInt8), (32 : UInt8), (49 : UInt8), (53 : UInt8), (48 : UInt8), (48 : UInt8), (32 : UInt8), (55 : UInt8), (53 : UInt8), (48 : UInt8), (32 : UInt8), (49 : UInt8), (53 : UInt8), (48 : UInt8), (48 : UInt8), (32 : UInt8), (53 : UInt8), (48 : UInt8), (48 : UInt8), (32 : UInt8), (49 : UInt8), (48 : UInt8), (48 : UInt8), (48 : UInt8), (32 : UInt8), (45 : UInt8), (32 : UInt8), (49 : UInt8), (48 : UInt8), (48 : UInt8), (48 : UInt8), (32 : UInt8), (49 : UInt8), (48 : UInt8), (48 : UInt8), (48 : UInt8), (32 : UInt8), (51 : UInt8), (57 : UInt8), (32 : UInt8), (52 : UInt8), (48 : UInt8)])
     else
      some false
     else
     some false
    else
     some false
    else
    some false
   else
    some false
   else
   some false
  else
   some false
  else
  some false
 else
  some false
def jo0 (fr : Int) (fs : List Nat) : T (Bool) :=
 .obT
 (.call (jgy fr fs) fun r0 =>
 .obT
 (.call (jd9 fr fs (1 : Int)) fun r1 =>
 .obT
 (.call (jcP fr fs (0 : Int) (0 : Int) (125 : Int)) fun r2 =>
 .obT
 (.call (y97 fr fs (1 : Int)) fun r3 =>
 .obT
 (.call (y13 fr fs (0 : Int) (0 : Int)) fun r4 =>
 .brB (r0.2 == 0)
 (.call (jir r0.1 [(85 : Int), 21, 5, 1, 0]) fun r5 =>
 .brB (r5)
 (.brB (r1.2.2 == 0)
 (.brB (r1.1 == 750 && r1.2.1 == 1500)
 (.brB (r2.2.2 == 0)
 (.brB (r2.1 == 4 && r2.2.1 == 5)
 (.brB (r3.2.2 == 0)
 (.brB (r3.1 == 9 && r3.2.1 == 17)
 (.brB (r4.2.2.2.2.2.2.2.2.2.2.2.2.2.2.2.2.2.2 == 0)
 (.call (y42 r4.1 r4.2.1 r4.2.2.1 r4.2.2.2.1 r4.2.2.2.2.1 r4.2.2.2.2.2.1 r4.2.2.2.2.2.2.1 r4.2.2.2.2.2.2.2.1 r4.2.2.2.2.2.2.2.2.1 r4.2.2.2.2.2.2.2.2.2.1 r4.2.2.2.2.2.2.2.2.2.2.1 r4.2.2.2.2.2.2.2.2.2.2.2.1 r4.2.2.2.2.2.2.2.2.2.2.2.2.1 r4.2.2.2.2.2.2.2.2.2.2.2.2.2.1 r4.2.2.2.2.2.2.2.2.2.2.2.2.2.2.1 r4.2.2.2.2.2.2.2.2.2.2.2.2.2.2.2.1 r4.2.2.2.2.2.2.2.2.2.2.2.2.2.2.2.2.1 r4.2.2.2.2.2.2.2.2.2.2.2.2.2.2.2.2.2.1) fun r6 =>
 .obT
 (.rc ((r6 == ByteArray.mk #[(55 : UInt8), (53 : UInt8), (48 : UInt8), (32 : UInt8), (49 : UInt8), (53 : UInt8), (48 : UInt8), (48 : UInt8), (32 : UInt8), (55 : UInt8), (53 : UInt8), (48 : UInt8), (32 : UInt8), (49 : UInt8), (53 : UInt8), (48 : UInt8), (48 : UInt8), (32 : UInt8), (53 : UInt8), (48 : UInt8), (48 : UInt8), (32 : UInt8), (49 : UInt8), (48 : UInt8), (48 : UInt8), (48 : UInt8), (32 : UInt8), (45 : UInt8), (32 : UInt8), (49 : UInt8), (48 : UInt8), (48 : UInt8), (48 : UInt8), (32 : UInt8), (49 : UInt8), (48 : UInt8), (48 : UInt8), (48 : UInt8), (32 : UInt8), (51 : UInt8), (57 : UInt8), (32 : UInt8), (52 : UInt8), (48 : UInt8)]))))
 (.obT
 (.rc (false))))
 (.obT
 (.rc (false))))
 (.obT
 (.rc (false))))
 (.obT
 (.rc (false))))
 (.obT
 (.rc (false))))
 (.obT
 (.rc (false))))
 (.obT
 (.rc (false))))
 (.obT
 (.rc (false))))
 (.obT
 (.rc (false))))))))
theorem jon (fr : Int) (fs : List Nat) (r : Bool) (h : Option.bind (jmu fr fs) some = some r) : ja8 Tryz.f15 ((sp_53 (sp_17 (sp_26 (sp_34 (sp_66v fr fs (sp_60 (sp_55 (sp_62 sp0))))))))) (fun _ _ _ => none) [] [.d (.b r)] :=
 T.vc (t := jo0 fr fs) (by kernel_rfl) (by kernel_rfl) h
end Go.Sh
end

section
namespace Go.Sh
open Go Go.Proofs Go.RowKit Go.Sx
set_option maxRecDepth 100000
set_option maxHeartbeats 4000000
theorem jtp : jmu ji7 ji8 = some true := by kernel_rfl
end Go.Sh
end

section
namespace Go.Sh
open Go Go.Proofs Go.RowKit Go.Sx
set_option maxRecDepth 100000
def jl1 : List A → Option (Prop × List RV)
 | [] => some (True, [.d (.b true)])
 | _ => none
abbrev sp_15b : jaa → jaa := jav 15 true (jaq jjI jl1)
theorem jrE : jaf Tryz.prog 15 true (jaq jjI jl1) := by
 refine jaw (sp := (sp_53 (sp_17 (sp_26 (sp_34 (sp_66v ji7 ji8 (sp_60 (sp_55 (sp_62 sp0))))))))) (fn := Tryz.f15) (body := jah Tryz.f15) mixed (sp_53_ok (sp_17_ok (sp_26_ok (sp_34_ok (sp_66v_ok (sp_60_ok (sp_55_ok (sp_62_ok jao)))))))) Tryz.func15 (by kernel_rfl) (by kernel_rfl) fun as_ ob rs h ho => ?_
 unfold jl1 at h
 split at h
 ·cases h
  exact ⟨Nat.le_of_ble_eq_true rfl, _, _, jon ji7 ji8 true (by rw [jtp]; rfl)⟩
 ·cases h
theorem sp_15b_ok {sp : jaa} (h : jab Tryz.prog sp) : jab Tryz.prog (sp_15b sp) := jag jrE h
end Go.Sh
end

section
namespace Go.Sh
open Go Go.Proofs Go.RowKit Go.Sx
def jjm : List (Option Cont) := [none, none]
def jbF (u34 : Bool) (u35 : Bool) (u36 : Bool) (u37 : Bool) (u38 : Bool) (u39 : Bool) (u40 : Int) (u41 : Int) (u42 : Int) (u43 : Int) (u44 : Int) (u45 : Int) (u46 : Int) (u47 : Int) (u48 : Int) (u49 : Int) (u50 : Int) (u51 : Int) (s : ByteArray) : Option Bool :=
 if (↑(ByteArray.size s) : Int) > 120 then
  some true
 else
  Option.bind (jbc s) fun r0 =>
  Option.bind (jaZ s) fun r1 =>
  Option.bind (y42 u34 u35 u36 u37 u38 u39 u40 u41 u42 u43 u44 u45 u46 u47 u48 u49 u50 u51) fun r2 =>
  Option.bind (y49 u34 u35 u36 u37 u38 u39 u40 u41 u42 u43 u44 u45 u46 u47 u48 u49 u50 u51) fun r3 =>
  if (r2 == r3) = true then
  if (r0.2 == r1.2) = true then
   some ((List.getD r0.1 0 zf).1 == (List.getD r1.1 0 zf).1 && ((List.getD r0.1 1 zf).1 == (List.getD r1.1 1 zf).1 && ((List.getD r0.1 2 zf).1 == (List.getD r1.1 2 zf).1 && ((List.getD r0.1 3 zf).1 == (List.getD r1.1 3 zf).1 && ((List.getD r0.1 4 zf).1 == (List.getD r1.1 4 zf).1 && (List.getD r0.1 5 zf).1 == (List.getD r1.1 5 zf).1)))) && ((List.getD r0.1 0 zf).2.1 == (List.getD r1.1 0 zf).2.1 && (List.getD r0.1 0 zf).2.2 == (List.getD r1.1 0 zf).2.2 && ((List.getD r0.1 1 zf).2.1 == (List.getD r1.1 1 zf).2.1 && (List.getD r0.1 1 zf).2.2 == (List.getD r1.1 1 zf).2.2 && ((List.getD r0.1 2 zf).2.1 == (List.getD r1.1 2 zf).2.1 && (List.getD r0.1 2 zf).2.2 == (List.getD r1.1 2 zf).2.2 && ((List.getD r0.1 3 zf).2.1 == (List.getD r1.1 3 zf).2.1 && (List.getD r0.1 3 zf).2.2 == (List.getD r1.1 3 zf).2.2 && ((List.getD r0.1 4 zf).2.1 == (List.getD r1.1 4 zf).2.1 && (List.getD r0.1 4 zf).2.2 == (List.getD r1.1 4 zf).2.2 && ((List.getD r0.1 5 zf).2.1 == (List.getD r1.1 5 zf).2.1 && (List.getD r0.1 5 zf).2.2 == (List.getD r1.1 5 zf).2.2)))))))
  else
   some false
  else
  some false
def jeP : List A → Option (Prop × List RV)
 | [.s [.b u34, .b u35, .b u36, .b u37, .b u38, .b u39, .i .i64 u40, .i .i64 u41, .i .i64 u42, .i .i64 u43, .i .i64 u44, .i .i64 u45, .i .i64 u46, .i .i64 u47, .i .i64 u48, .i .i64 u49, .i .i64 u50, .i .i64 u51], .d (.s s)] => some (ok (jbF u34 u35 u36 u37 u38 u39 u40 u41 u42 u43 u44 u45 u46 u47 u48 u49 u50 u51 s), [.d (.b ((val (jbF u34 u35 u36 u37 u38 u39 u40 u41 u42 u43 u44 u45 u46 u47 u48 u49 u50 u51 s))))])
 | _ => none
def jjn (u34 : Bool) (u35 : Bool) (u36 : Bool) (u37 : Bool) (u38 : Bool) (u39 : Bool) (u40 : Int) (u41 : Int) (u42 : Int) (u43 : Int) (u44 : Int) (u45 : Int) (u46 : Int) (u47 : Int) (u48 : Int) (u49 : Int) (u50 : Int) (u51 : Int) (s : ByteArray) : T (Bool) :=
 .obT
 (.brP ((↑(ByteArray.size s) : Int) > 120)
 (.obT
 (.rc (true)))
 (.call (jbc s) fun r0 =>
 .call (jaZ s) fun r1 =>
 .call (y42 u34 u35 u36 u37 u38 u39 u40 u41 u42 u43 u44 u45 u46 u47 u48 u49 u50 u51) fun r2 =>
 .call (y49 u34 u35 u36 u37 u38 u39 u40 u41 u42 u43 u44 u45 u46 u47 u48 u49 u50 u51) fun r3 =>
 .brB (r2 == r3)
 (.brB (r0.2 == r1.2)
 (.obT
 (.rc (((List.getD r0.1 0 zf).1 == (List.getD r1.1 0 zf).1 && ((List.getD r0.1 1 zf).1 == (List.getD r1.1 1 zf).1 && ((List.getD r0.1 2 zf).1 == (List.getD r1.1 2 zf).1 && ((List.getD r0.1 3 zf).1 == (List.getD r1.1 3 zf).1 && ((List.getD r0.1 4 zf).1 == (List.getD r1.1 4 zf).1 && (List.getD r0.1 5 zf).1 == (List.getD r1.1 5 zf).1)))) && ((List.getD r0.1 0 zf).2.1 == (List.getD r1.1 0 zf).2.1 && (List.getD r0.1 0 zf).2.2 == (List.getD r1.1 0 zf).2.2 && ((List.getD r0.1 1 zf).2.1 == (List.getD r1.1 1 zf).2.1 && (List.getD r0.1 1 zf).2.2 == (List.getD r1.1 1 zf).2.2 && ((List.getD r0.1 2 zf).2.1 == (List.getD r1.1 2 zf).2.1 && (List.getD r0.1 2 zf).2.2 == (List.getD r1.1 2 zf).2.2 && ((List.getD r0.1 3 zf).2.1 == (List.getD r1.1 3 zf).2.1 && (List.getD r0.1 3 zf).2.2 == (List.getD r1.1 3 zf).2.2 && ((List.getD r0.1 4 zf).2.1 == (List.getD r1.1 4 zf).2.1 && (List.getD r0.1 4 zf).2.2 == (List.getD r1.1 4 zf).2.2 && ((List.getD r0.1 5 zf).2.1 == (List.getD r1.1 5 zf).2.1 && (List.getD r0.1 5 zf).2.2 == (List.getD r1.1 5 zf).2.2))))))))))
 (.obT
 (.rc (false))))
 (.obT
 (.rc (false)))))
theorem jiI (u34 : Bool) (u35 : Bool) (u36 : Bool) (u37 : Bool) (u38 : Bool) (u39 : Bool) (u40 : Int) (u41 : Int) (u42 : Int) (u43 : Int) (u44 : Int) (u45 : Int) (u46 : Int) (u47 : Int) (u48 : Int) (u49 : Int) (u50 : Int) (u51 : Int) (s : ByteArray) (r : Bool) (h : Option.bind (jbF u34 u35 u36 u37 u38 u39 u40 u41 u42 u43 u44 u45 u46 u47 u48 u49 u50 u51 s) some = some r) : ja8 Tryz.f14 ((sp_15b (sp_61 (sp_64 (sp_62 (sp_65 sp0)))))) (fun _ _ _ => none) [.s [.b u34, .b u35, .b u36, .b u37, .b u38, .b u39, .i .i64 u40, .i .i64 u41, .i .i64 u42, .i .i64 u43, .i .i64 u44, .i .i64 u45, .i .i64 u46, .i .i64 u47, .i .i64 u48, .i .i64 u49, .i .i64 u50, .i .i64 u51], .d (.s s)] [.d (.b r)] :=
 T.vc (t := jjn u34 u35 u36 u37 u38 u39 u40 u41 u42 u43 u44 u45 u46 u47 u48 u49 u50 u51 s) (by kernel_rfl) (by kernel_rfl) h
theorem jiJ : jaf Tryz.prog 14 true (jaq jjm jeP) := by
 refine jaw (sp := (sp_15b (sp_61 (sp_64 (sp_62 (sp_65 sp0)))))) (fn := Tryz.f14) (body := jah Tryz.f14) mixed (sp_15b_ok (sp_61_ok (sp_64_ok (sp_62_ok (sp_65_ok jao))))) Tryz.func14 (by kernel_rfl) (by kernel_rfl) fun as_ ob rs h ho => ?_
 unfold jeP at h
 split at h
 ·rename_i u34 u35 u36 u37 u38 u39 u40 u41 u42 u43 u44 u45 u46 u47 u48 u49 u50 u51 s
  cases h
  exact ⟨Nat.le_of_ble_eq_true rfl, _, _, jiI u34 u35 u36 u37 u38 u39 u40 u41 u42 u43 u44 u45 u46 u47 u48 u49 u50 u51 s _ (jan ho)⟩
 ·cases h
end Go.Sh
end

section
namespace Go.Sh
open Go Go.Proofs Go.RowKit Go.Sx Go.Sx06 Go.Lib
open Go.IntKind (wrap)
theorem jbY (sep : List UInt8) (xs : List (List UInt8)) (y : List UInt8) : joinTail sep (xs ++ [y]) = joinTail sep xs ++ sep ++ y := by
 simp [joinTail, List.append_assoc]
theorem jrF {l : List (List UInt8)} (h : l ≠ []) : joinTail [32] l = 32 :: join l [32] := by
 cases l with
 | nil => exact absurd rfl h
 | cons x r => rw [join_cons]; simp [joinTail]
def ja5 (ks : List Bool) (vs : List Int) : Nat → List (List UInt8)
 | 0 => []
 | j + 1 => if ks.getD j false = true then ja5 ks vs j ++ [itoa (vs.getD (2 * j) 0)] ++ [itoa (vs.getD (2 * j + 1) 0)] else ja5 ks vs j ++ [[45]]
theorem jht (ks : List Bool) (vs : List Int) : ∀ j : Nat, (ja5 ks vs j).length ≤ 2 * j ∧ (0 < j → ja5 ks vs j ≠ [])
 | 0 => ⟨by simp [ja5], fun h => absurd h (by omega)⟩
 | j + 1 => by
  have := (jht ks vs j).1
  unfold ja5
  split
  ·exact ⟨by simp; omega, fun _ => by simp⟩
  ·exact ⟨by simp; omega, fun _ => by simp⟩
theorem jjJ {ks : List Bool} {vs : List Int} (h : ∀ j : Nat, -9223372036854775808 ≤ vs.getD j 0 ∧ vs.getD j 0 ≤ 9223372036854775807) : ∀ j : Nat, (joinTail [32] (ja5 ks vs j)).length ≤ 50 * j
 | 0 => by simp [ja5, joinTail]
 | j + 1 => by
  have := jjJ (ks := ks) h j
  have h1 := itoa_length_le _ (h (2 * j)).1 (h (2 * j)).2
  have h2 := itoa_length_le _ (h (2 * j + 1)).1 (h (2 * j + 1)).2
  unfold ja5
  split
  ·rw [jbY, jbY]
   simp only [List.length_append, List.length_cons, List.length_nil]
   omega
  ·rw [jbY]
   simp only [List.length_append, List.length_cons, List.length_nil]
   omega
section
variable {k0 k1 k2 k3 k4 k5 : Bool} {v0 v1 v2 v3 v4 v5 v6 v7 v8 v9 v10 v11 : Int}
theorem fgG {i : Nat} (hi : i < 6) (W : List ByteArray) : y21 k0 k1 k2 k3 k4 k5 v0 v1 v2 v3 v4 v5 v6 v7 v8 v9 v10 v11 ((i : Int), W) = if (![k0, k1, k2, k3, k4, k5].getD i false) = true then (if (List.length W + List.length [ByteArray.mk #[(45 : UInt8)]]) * (16 : Nat) ≤ (140737488355328 : Nat) ∧ List.length W + List.length [ByteArray.mk #[(45 : UInt8)]] ≤ (9223372036854775807 : Nat) then some (.inl (((i + 1 : Nat) : Int), W ++ [ByteArray.mk #[(45 : UInt8)]])) else none)
  else Option.bind (strconv_Itoa ([v0, v1, v2, v3, v4, v5, v6, v7, v8, v9, v10, v11].getD (2 * i) 0)) fun r0 => Option.bind (strconv_Itoa ([v0, v1, v2, v3, v4, v5, v6, v7, v8, v9, v10, v11].getD (2 * i + 1) 0)) fun r1 => if (List.length W + List.length [r0, r1]) * (16 : Nat) ≤ (140737488355328 : Nat) ∧ List.length W + List.length [r0, r1] ≤ (9223372036854775807 : Nat) then some (.inl (((i + 1 : Nat) : Int), W ++ [r0, r1])) else none := by
 have t1 : List.getD [true, true, true, true, true, true] (i * (1 : Nat)) false = true := by
  match i, hi with
  | 0, _ => rfl
  | 1, _ => rfl
  | 2, _ => rfl
  | 3, _ => rfl
  | 4, _ => rfl
  | 5, _ => rfl
 have kk : List.getD [k0, k1, k2, k3, k4, k5] (i * (1 : Nat)) false = [k0, k1, k2, k3, k4, k5].getD i false := by rw [Nat.mul_one]
 have t2 : List.getD [false, false, false, false, false, false, true, true, true, true, true, true, true, true, true, true, true, true] ((6 : Nat) + i * (2 : Nat) + Field.offset (Field.mk "Lo" (3 : Nat) (0 : Nat) false "" "" (0 : Nat))) false = true := by
  match i, hi with
  | 0, _ => rfl
  | 1, _ => rfl
  | 2, _ => rfl
  | 3, _ => rfl
  | 4, _ => rfl
  | 5, _ => rfl
 have t3 : List.getD [false, false, false, false, false, false, true, true, true, true, true, true, true, true, true, true, true, true] ((6 : Nat) + i * (2 : Nat) + Field.offset (Field.mk "Hi" (3 : Nat) (1 : Nat) false "" "" (8 : Nat))) false = true := by
  match i, hi with
  | 0, _ => rfl
  | 1, _ => rfl
  | 2, _ => rfl
  | 3, _ => rfl
  | 4, _ => rfl
  | 5, _ => rfl
 have lo : List.getD [(0 : Int), (0 : Int), (0 : Int), (0 : Int), (0 : Int), (0 : Int), v0, v1, v2, v3, v4, v5, v6, v7, v8, v9, v10, v11] ((6 : Nat) + i * (2 : Nat) + Field.offset (Field.mk "Lo" (3 : Nat) (0 : Nat) false "" "" (0 : Nat))) (0 : Int) = [v0, v1, v2, v3, v4, v5, v6, v7, v8, v9, v10, v11].getD (2 * i) 0 := by
  match i, hi with
  | 0, _ => rfl
  | 1, _ => rfl
  | 2, _ => rfl
  | 3, _ => rfl
  | 4, _ => rfl
  | 5, _ => rfl
 have up : List.getD [(0 : Int), (0 : Int), (0 : Int), (0 : Int), (0 : Int), (0 : Int), v0, v1, v2, v3, v4, v5, v6, v7, v8, v9, v10, v11] ((6 : Nat) + i * (2 : Nat) + Field.offset (Field.mk "Hi" (3 : Nat) (1 : Nat) false "" "" (8 : Nat))) (0 : Int) = [v0, v1, v2, v3, v4, v5, v6, v7, v8, v9, v10, v11].getD (2 * i + 1) 0 := by
  match i, hi with
  | 0, _ => rfl
  | 1, _ => rfl
  | 2, _ => rfl
  | 3, _ => rfl
  | 4, _ => rfl
  | 5, _ => rfl
 have c0 : ((i : Int) < (6 : Int)) = True := eq_true (by omega)
 have c1 : ((0 : Int) ≤ (i : Int) ∧ (i : Int) < (↑(6 : Nat) : Int)) = True := eq_true (by omega)
 have w1 : wrap .i64 ((i : Int) + (1 : Int)) = ((i + 1 : Nat) : Int) := by rw [jcd (by omega)]; omega
 unfold y21
 dsimp only
 simp only [Int.toNat_natCast, t1, t2, t3, kk, lo, up, c0, c1, w1, and_self, if_true]
theorem fgR {i : Nat} (hi : i < 6) (t : ByteArray) : y17 k0 k1 k2 k3 k4 k5 v0 v1 v2 v3 v4 v5 v6 v7 v8 v9 v10 v11 (t, (i : Int)) = if [k0, k1, k2, k3, k4, k5].getD i false = true then (if (↑(ByteArray.size t + ByteArray.size (ByteArray.mk #[(32 : UInt8)])) : Int) ≤ (9223372036854775807 : Int) then Option.bind (y20 ([v0, v1, v2, v3, v4, v5, v6, v7, v8, v9, v10, v11].getD (2 * i) 0)) fun r0 =>
   if (↑(ByteArray.size (t ++ ByteArray.mk #[(32 : UInt8)]) + ByteArray.size r0) : Int) ≤ (9223372036854775807 : Int) then if (↑(ByteArray.size (t ++ ByteArray.mk #[(32 : UInt8)] ++ r0) + ByteArray.size (ByteArray.mk #[(32 : UInt8)])) : Int) ≤ (9223372036854775807 : Int) then Option.bind (y20 ([v0, v1, v2, v3, v4, v5, v6, v7, v8, v9, v10, v11].getD (2 * i + 1) 0)) fun r1 =>
   if (↑(ByteArray.size (t ++ ByteArray.mk #[(32 : UInt8)] ++ r0 ++ ByteArray.mk #[(32 : UInt8)]) + ByteArray.size r1) : Int) ≤ (9223372036854775807 : Int) then some (.inl (t ++ ByteArray.mk #[(32 : UInt8)] ++ r0 ++ ByteArray.mk #[(32 : UInt8)] ++ r1, ((i + 1 : Nat) : Int))) else none else none else none else none)
  else (if (↑(ByteArray.size t + ByteArray.size (ByteArray.mk #[(32 : UInt8), (45 : UInt8)])) : Int) ≤ (9223372036854775807 : Int) then some (.inl (t ++ ByteArray.mk #[(32 : UInt8), (45 : UInt8)], ((i + 1 : Nat) : Int))) else none) := by
 have t1 : List.getD [true, true, true, true, true, true, false, false, false, false, false, false, false, false, false, false, false, false] ((0 : Nat) + i * (1 : Nat)) false = true := by
  match i, hi with
  | 0, _ => rfl
  | 1, _ => rfl
  | 2, _ => rfl
  | 3, _ => rfl
  | 4, _ => rfl
  | 5, _ => rfl
 have kk : List.getD [k0, k1, k2, k3, k4, k5, false, false, false, false, false, false, false, false, false, false, false, false] ((0 : Nat) + i * (1 : Nat)) false = [k0, k1, k2, k3, k4, k5].getD i false := by
  match i, hi with
  | 0, _ => rfl
  | 1, _ => rfl
  | 2, _ => rfl
  | 3, _ => rfl
  | 4, _ => rfl
  | 5, _ => rfl
 have t2 : List.getD [false, false, false, false, false, false, true, true, true, true, true, true, true, true, true, true, true, true] ((6 : Nat) + i * (2 : Nat) + Field.offset (Field.mk "Lo" (3 : Nat) (0 : Nat) false "" "" (0 : Nat))) false = true := by
  match i, hi with
  | 0, _ => rfl
  | 1, _ => rfl
  | 2, _ => rfl
  | 3, _ => rfl
  | 4, _ => rfl
  | 5, _ => rfl
 have t3 : List.getD [false, false, false, false, false, false, true, true, true, true, true, true, true, true, true, true, true, true] ((6 : Nat) + i * (2 : Nat) + Field.offset (Field.mk "Hi" (3 : Nat) (1 : Nat) false "" "" (8 : Nat))) false = true := by
  match i, hi with
  | 0, _ => rfl
  | 1, _ => rfl
  | 2, _ => rfl
  | 3, _ => rfl
  | 4, _ => rfl
  | 5, _ => rfl
 have lo : List.getD [(0 : Int), (0 : Int), (0 : Int), (0 : Int), (0 : Int), (0 : Int), v0, v1, v2, v3, v4, v5, v6, v7, v8, v9, v10, v11] ((6 : Nat) + i * (2 : Nat) + Field.offset (Field.mk "Lo" (3 : Nat) (0 : Nat) false "" "" (0 : Nat))) (0 : Int) = [v0, v1, v2, v3, v4, v5, v6, v7, v8, v9, v10, v11].getD (2 * i) 0 := by
  match i, hi with
  | 0, _ => rfl
  | 1, _ => rfl
  | 2, _ => rfl
  | 3, _ => rfl
  | 4, _ => rfl
  | 5, _ => rfl
 have up : List.getD [(0 : Int), (0 : Int), (0 : Int), (0 : Int), (0 : Int), (0 : Int), v0, v1, v2, v3, v4, v5, v6, v7, v8, v9, v10, v11] ((6 : Nat) + i * (2 : Nat) + Field.offset (Field.mk "Hi" (3 : Nat) (1 : Nat) false "" "" (8 : Nat))) (0 : Int) = [v0, v1, v2, v3, v4, v5, v6, v7, v8, v9, v10, v11].getD (2 * i + 1) 0 := by
  match i, hi with
  | 0, _ => rfl
  | 1, _ => rfl
  | 2, _ => rfl
  | 3, _ => rfl
  | 4, _ => rfl
  | 5, _ => rfl
 have c0 : ((i : Int) < (6 : Int)) = True := eq_true (by omega)
 have c1 : ((0 : Int) ≤ (i : Int) ∧ (i : Int) < (↑(6 : Nat) : Int)) = True := eq_true (by omega)
 have w1 : wrap .i64 ((i : Int) + (1 : Int)) = ((i + 1 : Nat) : Int) := by rw [jcd (by omega)]; omega
 unfold y17
 dsimp only
 simp only [Int.toNat_natCast, t1, t2, t3, kk, lo, up, c0, c1, w1, if_true]
theorem mk32 : ByteArray.mk #[(32 : UInt8)] = mkB [32] := rfl
theorem juI : ByteArray.mk #[(32 : UInt8), (45 : UInt8)] = mkB [32, 45] := rfl
theorem joo {n : Int} (h : -9223372036854775808 ≤ n ∧ n ≤ 9223372036854775807) : strconv_Itoa n = some (mkB (itoa n)) := by
 unfold strconv_Itoa
 rw [if_pos h]
 rfl
theorem juJ {W : List ByteArray} {b : Bool} {x y n : Int} (hW : W.length ≤ 1000) (hx : -9223372036854775808 ≤ x ∧ x ≤ 9223372036854775807) (hy : -9223372036854775808 ≤ y ∧ y ≤ 9223372036854775807) :
  (if (!b) = true then (if (List.length W + List.length [ByteArray.mk #[(45 : UInt8)]]) * (16 : Nat) ≤ (140737488355328 : Nat) ∧ List.length W + List.length [ByteArray.mk #[(45 : UInt8)]] ≤ (9223372036854775807 : Nat) then some (.inl (n, W ++ [ByteArray.mk #[(45 : UInt8)]])) else none)
  else Option.bind (strconv_Itoa x) fun r0 => Option.bind (strconv_Itoa y) fun r1 => if (List.length W + List.length [r0, r1]) * (16 : Nat) ≤ (140737488355328 : Nat) ∧ List.length W + List.length [r0, r1] ≤ (9223372036854775807 : Nat) then some (.inl (n, W ++ [r0, r1])) else none) =
  (some (.inl (n, if b = true then W ++ [mkB (itoa x)] ++ [mkB (itoa y)] else W ++ [mkB [45]])) : Option ((Int × List ByteArray) ⊕ List ByteArray)) := by
 cases b with
 | false => rw [if_pos (by rfl), if_pos (by simp only [List.length_cons, List.length_nil]; omega), if_neg Bool.false_ne_true]; rfl
 | true => rw [if_neg (by simp), joo hx, jaJ, joo hy, jaJ, if_pos (by simp only [List.length_cons, List.length_nil]; omega), if_pos rfl]; simp
theorem juK {t : List UInt8} {b : Bool} {x y n : Int} (ht : t.length ≤ 1000000) (hx : -9223372036854775808 ≤ x ∧ x ≤ 9223372036854775807) (hy : -9223372036854775808 ≤ y ∧ y ≤ 9223372036854775807) :
  (if b = true then (if (↑(ByteArray.size (mkB t) + ByteArray.size (ByteArray.mk #[(32 : UInt8)])) : Int) ≤ (9223372036854775807 : Int) then Option.bind (y20 x) fun r0 =>
   if (↑(ByteArray.size (mkB t ++ ByteArray.mk #[(32 : UInt8)]) + ByteArray.size r0) : Int) ≤ (9223372036854775807 : Int) then if (↑(ByteArray.size (mkB t ++ ByteArray.mk #[(32 : UInt8)] ++ r0) + ByteArray.size (ByteArray.mk #[(32 : UInt8)])) : Int) ≤ (9223372036854775807 : Int) then Option.bind (y20 y) fun r1 =>
   if (↑(ByteArray.size (mkB t ++ ByteArray.mk #[(32 : UInt8)] ++ r0 ++ ByteArray.mk #[(32 : UInt8)]) + ByteArray.size r1) : Int) ≤ (9223372036854775807 : Int) then some (.inl (mkB t ++ ByteArray.mk #[(32 : UInt8)] ++ r0 ++ ByteArray.mk #[(32 : UInt8)] ++ r1, n)) else none else none else none else none)
  else (if (↑(ByteArray.size (mkB t) + ByteArray.size (ByteArray.mk #[(32 : UInt8), (45 : UInt8)])) : Int) ≤ (9223372036854775807 : Int) then some (.inl (mkB t ++ ByteArray.mk #[(32 : UInt8), (45 : UInt8)], n)) else none)) =
  (some (.inl (mkB (if b = true then t ++ [32] ++ itoa x ++ [32] ++ itoa y else t ++ [32] ++ [45]), n)) : Option ((ByteArray × Int) ⊕ ByteArray)) := by
 have h1 := itoa_length_le _ hx.1 hx.2
 have h2 := itoa_length_le _ hy.1 hy.2
 have s1 : ∀ a : List UInt8, ByteArray.size (mkB a) = a.length := jbS
 rw [mk32, juI]
 cases b with
 | false =>
  rw [if_neg Bool.false_ne_true, if_neg Bool.false_ne_true, if_pos (by rw [s1, s1]; simp only [List.length_cons, List.length_nil]; omega), jdx]
  simp
 | true =>
  rw [if_pos rfl, if_pos rfl, if_pos (by rw [s1, s1]; simp only [List.length_cons, List.length_nil]; omega), jjH hx, jaJ, jdx,
   if_pos (by rw [s1, s1]; simp only [List.length_append, List.length_cons, List.length_nil]; omega), jdx, if_pos (by rw [s1, s1]; simp only [List.length_append, List.length_cons, List.length_nil]; omega), jjH hy, jaJ, jdx,
   if_pos (by rw [s1, s1]; simp only [List.length_append, List.length_cons, List.length_nil]; omega), jdx]
set_option maxHeartbeats 1000000 in
theorem jrG (hv : ∀ x ∈ [v0, v1, v2, v3, v4, v5, v6, v7, v8, v9, v10, v11], -9223372036854775808 ≤ x ∧ x ≤ 9223372036854775807) : y42 k0 k1 k2 k3 k4 k5 v0 v1 v2 v3 v4 v5 v6 v7 v8 v9 v10 v11 = some (mkB (join (ja5 [k0, k1, k2, k3, k4, k5] [v0, v1, v2, v3, v4, v5, v6, v7, v8, v9, v10, v11] 6) [32])) ∧ y49 k0 k1 k2 k3 k4 k5 v0 v1 v2 v3 v4 v5 v6 v7 v8 v9 v10 v11 = some (mkB (join (ja5 [k0, k1, k2, k3, k4, k5] [v0, v1, v2, v3, v4, v5, v6, v7, v8, v9, v10, v11] 6) [32])) := by
 have hb : ∀ j : Nat, -9223372036854775808 ≤ [v0, v1, v2, v3, v4, v5, v6, v7, v8, v9, v10, v11].getD j 0 ∧ [v0, v1, v2, v3, v4, v5, v6, v7, v8, v9, v10, v11].getD j 0 ≤ 9223372036854775807 := fun j => by
  by_cases hj : j < 12
  ·refine hv _ ?_
   rw [List.getD_eq_getElem?_getD, List.getElem?_eq_getElem (by simpa using hj)]
   exact List.getElem_mem _
  ·rw [List.getD_eq_getElem?_getD, List.getElem?_eq_none (by simp; omega)]
   simp
 have hl : ∀ j : Nat, (ja5 [k0, k1, k2, k3, k4, k5] [v0, v1, v2, v3, v4, v5, v6, v7, v8, v9, v10, v11] j).length ≤ 2 * j := fun j => (jht _ _ j).1
 have hs := jjJ (ks := [k0, k1, k2, k3, k4, k5]) hb
 have stepG : ∀ j : Nat, j < 6 → y21 k0 k1 k2 k3 k4 k5 v0 v1 v2 v3 v4 v5 v6 v7 v8 v9 v10 v11 ((j : Int), (ja5 [k0, k1, k2, k3, k4, k5] [v0, v1, v2, v3, v4, v5, v6, v7, v8, v9, v10, v11] j).map mkB) = some (.inl (((j + 1 : Nat) : Int), (ja5 [k0, k1, k2, k3, k4, k5] [v0, v1, v2, v3, v4, v5, v6, v7, v8, v9, v10, v11] (j + 1)).map mkB)) := by
  intro j hj
  have hlj := hl j
  refine (fgG hj _).trans ((juJ (by rw [List.length_map]; omega) (hb (2 * j)) (hb (2 * j + 1))).trans ?_)
  conv => rhs; unfold ja5
  split <;> simp
 have jc6 : ∀ j : Nat, j < 6 → y17 k0 k1 k2 k3 k4 k5 v0 v1 v2 v3 v4 v5 v6 v7 v8 v9 v10 v11 (mkB (joinTail [32] (ja5 [k0, k1, k2, k3, k4, k5] [v0, v1, v2, v3, v4, v5, v6, v7, v8, v9, v10, v11] j)), (j : Int)) = some (.inl (mkB (joinTail [32] (ja5 [k0, k1, k2, k3, k4, k5] [v0, v1, v2, v3, v4, v5, v6, v7, v8, v9, v10, v11] (j + 1))), ((j + 1 : Nat) : Int))) := by
  intro j hj
  have hsj := hs j
  refine (fgR hj _).trans ((juK (by omega) (hb (2 * j)) (hb (2 * j + 1))).trans ?_)
  conv => rhs; unfold ja5
  by_cases h : [k0, k1, k2, k3, k4, k5].getD j false = true
  ·rw [if_pos h, if_pos h, jbY, jbY]
  ·rw [if_neg h, if_neg h, jbY]
 have hne := (jht [k0, k1, k2, k3, k4, k5] [v0, v1, v2, v3, v4, v5, v6, v7, v8, v9, v10, v11] 6).2 (by omega)
 have hl6 := hl 6
 have hs6 := hs 6
 have ht := jrF hne
 constructor
 ·unfold y42
  have h0 : (((0 : Int), []) : Int × List ByteArray) = (((0 : Nat) : Int), (ja5 [k0, k1, k2, k3, k4, k5] [v0, v1, v2, v3, v4, v5, v6, v7, v8, v9, v10, v11] 0).map mkB) := rfl
  rw [h0, jcO (fun j => ((j : Int), (ja5 [k0, k1, k2, k3, k4, k5] [v0, v1, v2, v3, v4, v5, v6, v7, v8, v9, v10, v11] j).map mkB)) (k := 6) stepG (by unfold y21; rw [if_neg (by simp)]) (by omega), jaJ]
  unfold y48 strings_Join
  have e : ((ja5 [k0, k1, k2, k3, k4, k5] [v0, v1, v2, v3, v4, v5, v6, v7, v8, v9, v10, v11] 6).map mkB).map (·.data.toList) = ja5 [k0, k1, k2, k3, k4, k5] [v0, v1, v2, v3, v4, v5, v6, v7, v8, v9, v10, v11] 6 := by
   rw [List.map_map]
   exact List.map_id _
  have hlj : (join (ja5 [k0, k1, k2, k3, k4, k5] [v0, v1, v2, v3, v4, v5, v6, v7, v8, v9, v10, v11] 6) [32]).length ≤ 300 := by
   rw [ht, List.length_cons] at hs6
   omega
  rw [e, if_pos ⟨by rw [List.length_map]; omega, by show (join _ [32]).length ≤ _; omega⟩]
  rfl
 ·unfold y49
  have h0 : ((ByteArray.mk #[], (0 : Int)) : ByteArray × Int) = (mkB (joinTail [32] (ja5 [k0, k1, k2, k3, k4, k5] [v0, v1, v2, v3, v4, v5, v6, v7, v8, v9, v10, v11] 0)), ((0 : Nat) : Int)) := rfl
  rw [h0, jcO (fun j => (mkB (joinTail [32] (ja5 [k0, k1, k2, k3, k4, k5] [v0, v1, v2, v3, v4, v5, v6, v7, v8, v9, v10, v11] j)), (j : Int))) (k := 6) jc6 (by unfold y17; rw [if_neg (by simp)]) (by omega), jaJ]
  unfold y35
  have hsz : ByteArray.size (mkB (joinTail [32] (ja5 [k0, k1, k2, k3, k4, k5] [v0, v1, v2, v3, v4, v5, v6, v7, v8, v9, v10, v11] 6))) = (join (ja5 [k0, k1, k2, k3, k4, k5] [v0, v1, v2, v3, v4, v5, v6, v7, v8, v9, v10, v11] 6) [32]).length + 1 := by rw [jbS, ht]; rfl
  rw [if_pos (by simp only [Option.getD_some, Option.getD_none]; omega)]
  simp only [Option.getD_none, Int.toNat_natCast]
  rw [extract_eq, hsz, jsz, ht]
  simp [mkB]
end
end Go.Sh
end

section
namespace Go.Sh
open Go Go.Proofs Go.RowKit Go.Sx Go.Sx06 Go.Lib
theorem jko (k0 k1 k2 k3 k4 k5 : Bool) (v0 v1 v2 v3 v4 v5 v6 v7 v8 v9 v10 v11 : Int) (s : ByteArray) (hv : ∀ x ∈ [v0, v1, v2, v3, v4, v5, v6, v7, v8, v9, v10, v11], -9223372036854775808 ≤ x ∧ x ≤ 9223372036854775807) :
  jbF k0 k1 k2 k3 k4 k5 v0 v1 v2 v3 v4 v5 v6 v7 v8 v9 v10 v11 s = some true := by
 unfold jbF
 by_cases hs : (s.size : Int) > 120
 ·rw [if_pos hs]
 ·rw [if_neg hs]
  obtain ⟨h1, h2⟩ := jrG (k0 := k0) (k1 := k1) (k2 := k2) (k3 := k3) (k4 := k4) (k5 := k5) hv
  have g1 : jbc s = some (pfR ((jaT 32 [] s.data.toList).map mkB)) := by
   unfold jbc
   rw [if_pos (by omega)]
  have g2 : jaZ s = some (pfR ((jaT 32 [] s.data.toList).map mkB)) := by
   unfold jaZ
   rw [if_pos (by omega)]
  rw [g1, jaJ, g2, jaJ, h1, jaJ, h2, jaJ, if_pos (by simp [jfO]), if_pos (by simp)]
  simp
end Go.Sh
end

section
namespace Go.Sx
open Go.RowKit Go.ChangeShapes Go.WideShapes
inductive K where
 | i (k : IntKind) | b | f (k : FloatKind) | s
def K.fits : K → D → Prop
 | .i k, .i k' n => k' = k ∧ (Lit.int k n).wf = true
 | .b, .b _ => True
 | .f k, .f k' n => k' = k ∧ (Lit.float k n).wf = true
 | .s, .s x => x.size ≤ maxLen
 | _, _ => False
def jbG : List K → List D → Prop
 | [], [] => True
 | k :: ks, d :: ds => k.fits d ∧ jbG ks ds
 | _, _ => False
theorem jei : ∀ {ks : List K} {ds : List D} {ks' : List K} {ds' : List D}, jbG ks ds → jbG ks' ds' → jbG (ks ++ ks') (ds ++ ds')
 | [], [], _, _, _, h => h
 | _ :: _, _ :: _, _, _, h, h' => ⟨h.1, jei h.2 h'⟩
 | [], _ :: _, _, _, h, _ => h.elim
 | _ :: _, [], _, _, h, _ => h.elim
def je4 (g : TypeId → Option (List K)) (P : Program) : Nat → List Field → Option (List K)
 | _, [] => some []
 | n, f :: fs => match g f.type with
  | none => none
  | some ks => if f.offset = n ∧ P.cellsOf f.type = ks.length then (je4 g P (n + ks.length) fs).map (ks ++ ·) else none
def kinds (P : Program) : Nat → TypeId → Option (List K)
 | 0, _ => none
 | d + 1, t => match P.underlying t with
  | some .bool => some [.b]
  | some (.int k) => some [.i k]
  | some (.float k) => some [.f k]
  | some .string => some [.s]
  | some (.struct fs) => match je4 (kinds P d) P 0 fs.toList with
   | some ks => if P.cellsOf t = ks.length then some ks else none
   | none => none
  | some (.array n e) => match kinds P d e with
   | some ks => if P.cellsOf t = n * ks.length ∧ P.cellsOf e = ks.length then some (List.replicate n ks).flatten else none
   | none => none
  | _ => none
section
variable {H : Type} {enc : TypeId × Value → H} {P : Program} {w : World} {base : Nat} {spare : Nat → Bool} {held : Bool}
theorem jjK {ks : List K} {e : TypeId} {m : Nat} (ih : ∀ cs x, DataW.trod enc P w base spare held m e cs = some x → ∃ ds : List D, cs = ds.map D.val ∧ jbG ks ds) :
  ∀ (n : Nat) (cs : List Value), cs.length = n * ks.length → (∀ i, i < n → ∃ x, DataW.trod enc P w base spare held m e ((cs.drop (i * ks.length)).take ks.length) = some x) → ∃ ds : List D, cs = ds.map D.val ∧ jbG (List.replicate n ks).flatten ds
 | 0, cs, hl, _ => ⟨[], by simpa using hl, trivial⟩
 | n + 1, cs, hl, h => by
  obtain ⟨x, hx⟩ := h 0 (by omega)
  obtain ⟨ds0, h0, h1⟩ := ih _ x hx
  obtain ⟨ds1, h2, h3⟩ := jjK ih n (cs.drop ks.length) (by rw [List.length_drop, hl, Nat.add_mul]; omega) (fun i hi => by
   obtain ⟨y, hy⟩ := h (i + 1) (by omega)
   refine ⟨y, ?_⟩
   rw [List.drop_drop]
   rw [show ks.length + i * ks.length = (i + 1) * ks.length by rw [Nat.add_mul]; omega]
   exact hy)
  refine ⟨ds0 ++ ds1, ?_, jei h1 h3⟩
  rw [List.map_append, ← h0, ← h2]
  simp
theorem jiK {g : TypeId → Option (List K)} {m : Nat} (ih : ∀ t ks cs x, g t = some ks → DataW.trod enc P w base spare held m t cs = some x → ∃ ds : List D, cs = ds.map D.val ∧ jbG ks ds) :
  ∀ (fs : List Field) (n : Nat) (ks : List K) (cs : List Value), je4 g P n fs = some ks → cs.length = n + ks.length → (∀ f ∈ fs, ∃ x, DataW.trod enc P w base spare held m f.type ((cs.drop f.offset).take (P.cellsOf f.type)) = some x) →
   ∃ ds : List D, cs.drop n = ds.map D.val ∧ jbG ks ds
 | [], n, ks, cs, hk, hl, _ => by
  simp only [je4, Option.some.injEq] at hk
  subst hk
  refine ⟨[], ?_, trivial⟩
  simp at hl
  simp [hl]
 | f :: fs, n, ks, cs, hk, hl, h => by
  simp only [je4] at hk
  split at hk
  ·cases hk
  ·rename_i kf hg
   split at hk
   ·rename_i hc
    cases hr : je4 g P (n + kf.length) fs with
    | none => simp [hr] at hk
    | some kr =>
     simp only [hr, Option.map_some, Option.some.injEq] at hk
     subst hk
     obtain ⟨x, hx⟩ := h f List.mem_cons_self
     rw [hc.1, hc.2] at hx
     obtain ⟨ds0, h0, h1⟩ := ih f.type kf _ x hg hx
     obtain ⟨ds1, h2, h3⟩ := jiK ih fs (n + kf.length) kr cs hr (by rw [hl, List.length_append]; omega) (fun f' hf' => h f' (List.mem_cons_of_mem _ hf'))
     refine ⟨ds0 ++ ds1, ?_, jei h1 h3⟩
     rw [List.map_append, ← h0, ← h2, ← List.drop_drop]
     exact (List.take_append_drop _ _).symm
   ·cases hk
theorem jhu : ∀ (d : Nat) (t : TypeId) (ks : List K) (fuel : Nat) (cs : List Value) (x : DataW H × List MemPlace), kinds P d t = some ks → DataW.trod enc P w base spare held fuel t cs = some x →
  ∃ ds : List D, cs = ds.map D.val ∧ jbG ks ds
 | 0, _, _, _, _, _, h, _ => by cases h
 | d + 1, t, ks, fuel, cs, x, hk, hx => by
  unfold kinds at hk
  split at hk
  ·rename_i ht
   cases hk
   obtain ⟨b, rfl, _⟩ := DataW.trod_bool ht hx
   exact ⟨[.b b], rfl, trivial, trivial⟩
  ·rename_i k ht
   cases hk
   obtain ⟨n, rfl, _, hw⟩ := DataW.trod_int ht hx
   exact ⟨[.i k n], rfl, ⟨rfl, hw⟩, trivial⟩
  ·rename_i k ht
   cases hk
   cases fuel with
   | zero => simp [DataW.trod] at hx
   | succ n =>
    rcases cs with _ | ⟨v, _ | ⟨v', r⟩⟩
    ·simp [DataW.trod, ht] at hx
    ·cases v with
     | float k2 n2 =>
      simp only [DataW.trod, ht] at hx
      split at hx
      ·rename_i hh
       exact ⟨[.f k2 n2], rfl, ⟨hh.1, hh.2⟩, trivial⟩
      ·cases hx
     | _ => simp [DataW.trod, ht] at hx
    ·simp [DataW.trod, ht] at hx
  ·rename_i ht
   cases hk
   obtain ⟨z, rfl, _, hw⟩ := DataW.trod_string ht hx
   exact ⟨[.s z], rfl, hw, trivial⟩
  ·rename_i fs ht
   split at hk
   ·rename_i ks' hks
    split at hk
    ·rename_i hc
     cases hk
     obtain ⟨xs, n, rfl, _, hl, hxl, hf⟩ := DataW.trod_struct ht hx
     have := jiK (enc := enc) (w := w) (base := base) (spare := spare) (held := held) (g := kinds P d) (m := n) (fun t ks cs x h1 h2 => jhu d t ks n cs x h1 h2) fs.toList 0 ks cs hks (by rw [hl, hc]; omega) (fun f hfm => by
      obtain ⟨i, hi, hfi⟩ := List.mem_iff_getElem.1 hfm
      have hi' : i < fs.size := by simpa using hi
      have h1 := hf i f (by rw [Array.getElem?_eq_getElem hi']; simpa using hfi)
      exact ⟨xs[i]'(by omega), by rw [h1, List.getElem?_eq_getElem]⟩)
     simpa using this
    ·cases hk
   ·cases hk
  ·rename_i n e ht
   split at hk
   ·rename_i ks' hks
    split at hk
    ·rename_i hc
     cases hk
     obtain ⟨xs, m, rfl, _, hl, hxl, hf⟩ := DataW.trod_array ht hx
     exact jjK (fun cs x h => jhu d e ks' m cs x hks h) n cs (by rw [hl, hc.1]) (fun i hi => by
      have h1 := hf i hi
      rw [hc.2] at h1
      exact ⟨xs[i]'(by omega), by rw [h1, List.getElem?_eq_getElem]⟩)
    ·cases hk
   ·cases hk
  ·cases hk
theorem jpn : ∀ {n : Nat} {r : List D}, jbG (List.replicate n (.i .i64)) r → ∃ l : List Int, r = l.map (D.i .i64) ∧ l.length = n ∧ ∀ x ∈ l, inI x
 | 0, [], _ => ⟨[], rfl, rfl, fun _ h => by cases h⟩
 | n + 1, .i k x :: r, h => by
  obtain ⟨l, h1, h2, h3⟩ := jpn (n := n) h.2
  obtain ⟨rfl, hw⟩ := h.1
  refine ⟨x :: l, by rw [h1]; rfl, by simp [h2], fun y hy => ?_⟩
  rcases List.mem_cons.1 hy with rfl | hy
  ·unfold inI
   simpa [Lit.wf, IntKind.min, IntKind.max, IntKind.signed, IntKind.bits] using hw
  ·exact h3 y hy
 | 0, _ :: _, h => h.elim
 | _ + 1, [], h => h.elim
 | _ + 1, .b _ :: _, h => h.1.elim
 | _ + 1, .f _ _ :: _, h => h.1.elim
 | _ + 1, .s _ :: _, h => h.1.elim
 | _ + 1, .v _ :: _, h => h.1.elim
end
inductive ArgIs (w : World) : Value → A → Prop where
 | d (x : D) : ArgIs w x.val (.d x)
 | s (l : List D) : ArgIs w (.agg (l.map D.val).toArray) (.s l)
 | r (v : Value) (c : Cont) (he : 0 < c.e) (h : ja6 w v c) : ArgIs w v (.r c)
def jdX : Nat → List A → List V
 | _, [] => []
 | n, .d x :: l => .w (.c (.d x)) :: jdX (n + 1) l
 | n, .s x :: l => .w (.a (x.map C.d)) :: jdX (n + 1) l
 | n, .r _ :: l => .w (.c (.o n)) :: jdX (n + 1) l
 | n, .f g :: l => .w (.c (.fn g [])) :: jdX (n + 1) l
inductive ArgsAre (w : World) : List Value → List A → Prop where
 | nil : ArgsAre w [] []
 | cons {v : Value} {a : A} {vs : List Value} {asq : List A} (h : ArgIs w v a) (t : ArgsAre w vs asq) : ArgsAre w (v :: vs) (a :: asq)
section
variable [Globs] {P : Program} {w : World}
theorem juc {vs : List Value} {asq : List A} (h : ArgsAre w vs asq) : ∀ (n : Nat) (ρ : Env), (∀ i v, vs[i]? = some v → ρ (n + i) = v) →
  (jdX n asq).map (V.val ρ) = vs ∧ (∀ x ∈ jdX n asq, V.lt (n + asq.length) x) ∧ (∀ k o, find (jcD n asq) k = some o → n ≤ k ∧ k < n + asq.length ∧ o.lt (n + asq.length) ∧ o.ok ρ (fun k => k < w.heap.size) w k ∧ ∀ b, o.blk (ρ k) ≠ some b) ∧ asq.length = vs.length := by
 induction h with
 | nil => exact fun n ρ _ => ⟨rfl, (fun _ h => by cases h), (fun _ _ h => by cases h), rfl⟩
 | @cons v a vs asq ha hs ih =>
  intro n ρ hρ
  obtain ⟨h1, h2, h3, h4⟩ := ih (n + 1) ρ (fun i v hv => by rw [show n + 1 + i = n + (i + 1) by omega]; exact hρ (i + 1) v (by simpa using hv))
  have h0 : ρ n = v := by have := hρ 0 v rfl; simpa using this
  have up : ∀ x, V.lt (n + 1 + asq.length) x → V.lt (n + (a :: asq).length) x := fun x hx => V.lt_mono (by simp; omega) hx
  have up3 : ∀ k o, find (jcD (n + 1) asq) k = some o → n ≤ k ∧ k < n + (a :: asq).length ∧ o.lt (n + (a :: asq).length) ∧ o.ok ρ (fun k => k < w.heap.size) w k ∧ ∀ b, o.blk (ρ k) ≠ some b := fun k o hf => by
   obtain ⟨p1, p2, p3, p4, p5⟩ := h3 k o hf
   exact ⟨by omega, by simp; omega, O.lt_mono (by simp; omega) p3, p4, p5⟩
  cases ha with
  | d x =>
   refine ⟨by simp only [jdX, List.map_cons, h1]; rfl, fun y hy => ?_, up3, by simp [h4]⟩
   rcases List.mem_cons.1 hy with rfl | hy
   ·trivial
   ·exact up y (h2 y hy)
  | s l =>
   refine ⟨?_, fun y hy => ?_, up3, by simp [h4]⟩
   ·simp only [jdX, List.map_cons, h1]
    congr 1
    simp [V.val, W.val, C.val, Function.comp_def]
   ·rcases List.mem_cons.1 hy with rfl | hy
    ·intro c hc
     obtain ⟨z, _, rfl⟩ := List.mem_map.1 hc
     trivial
    ·exact up y (h2 y hy)
  | r v c he hr =>
   refine ⟨?_, fun y hy => ?_, fun k o hf => ?_, by simp [h4]⟩
   ·simp only [jdX, List.map_cons, h1]
    congr 1
   ·rcases List.mem_cons.1 hy with rfl | hy
    ·show n < n + (asq.length + 1)
     omega
    ·exact up y (h2 y hy)
   ·simp only [jcD, find] at hf
    split at hf
    ·rename_i e
     subst e
     cases hf
     refine ⟨Nat.le_refl _, by simp, trivial, ?_, fun b => by simp [O.blk]⟩
     show ja6 w (ρ n) c ∧ jc1 _ (ρ n)
     rw [h0]
     exact ⟨hr, ja6.lt hr he⟩
    ·exact up3 k o hf
theorem jrH {f : Nat} {qs : List (Option Cont)} {g : List A → Option (Prop × List RV)} {vs : List Value} {ax : List A} {ob : Prop} {b : Bool} {fn : Func} (hok : jaf P f true (jaq qs g)) (hargs : ArgsAre w vs ax)
  (hto : jiW qs (jcD 0 ax) (jdX 0 ax) = some ax) (hg : g ax = some (ob, [.d (.b b)])) (ho : ob) (hb : b = true)
  (hfn : P.funcs[f]? = some fn) (hbody : fn.body = some (fn.body.getD .skip)) (hn : (fn.name == "runtime.NumGoroutine") = false) (hgl : jbK (fun k => k < w.heap.size) w) :
  Calls P f vs.toArray w fun e w' => e = .returned (.bool true) ∧ Below w.heap.size w w' := by
 subst hb
 obtain ⟨h1, h2, h3, h4⟩ := juc hargs 0 (fun i => (vs[i]?).getD undef) (fun i v hv => by simp [hv])
 rw [Nat.zero_add] at h2
 have hh : HRel (fun i => (vs[i]?).getD undef) (fun k => k < w.heap.size) (jcD 0 ax) ax.length w :=
  ⟨fun k o hf => by obtain ⟨_, p2, p3, p4, _⟩ := h3 k o hf; exact ⟨by omega, by simpa using p3, p4⟩, fun k o k' o' b hf _ _ hbk => absurd hbk ((h3 k o hf).2.2.2.2 b), hgl⟩
 have := (hok.sound hfn hbody hn).sound _ (fun k => k < w.heap.size) w (jdX 0 ax) (jcD 0 ax) ax.length (.leaf ⟨ob, jb9 (rvW ax.length [.d (.b true)]), jjW ax.length [.d (.b true)] (jcD 0 ax), jf5 ax.length [.d (.b true)]⟩) (by
  unfold jaq
  rw [hto]
  dsimp only
  rw [hg]) ho h2 hh (fun k hk => hk)
 rw [h1] at this
 refine this.mono ?_
 rintro e w' ⟨ρ', rfl, hl⟩
 exact ⟨rfl, hl.mono rfl⟩
end
section
variable {H : Type} {enc : TypeId × Value → H} {P : Program}
theorem jop {sp : Nat → Bool} (hl : laidOutB P = true) {W W' : World} (hb : Below W.heap.size W W') : ∀ (ts : List TypeId) (vs : List Value) (ds : List (DataW H)) (ps : List MemPlace), (∀ t ∈ ts, P.readableRec t = true ∧ t < P.types.size) →
  DataW.TrodAll enc P W 0 (fun _ => true) true ts vs ds ps → (∀ p ∈ ps, p.block < W.heap.size) → (∀ p ∈ ps, sp p.block = true) → DataW.TrodAll enc P W' 0 sp true ts vs ds ps
 | [], [], [], _, _, h, _, _ => h
 | t :: ts, v :: vs, d :: ds, ps, ht, h, hlt, hs => by
  obtain ⟨p, q, h1, h2, rfl⟩ := h
  have htt := ht t List.mem_cons_self
  exact ⟨p, q, WideElems.Trod_stays hl htt.1 htt.2 h1 (fun x hx => hb.same (hlt x (List.mem_append_left _ hx))) (fun x hx => hs x (List.mem_append_left _ hx)),
   jop hl hb ts vs ds q (fun t ht' => ht t (List.mem_cons_of_mem _ ht')) h2 (fun x hx => hlt x (List.mem_append_right _ hx)) (fun x hx => hs x (List.mem_append_right _ hx)), rfl⟩
 | [], _ :: _, _, _, _, h, _, _ => h.elim
 | _ :: _, [], _, _, _, h, _, _ => h.elim
 | [], [], _ :: _, _, _, h, _, _ => h.elim
 | _ :: _, _ :: _, [], _, _, h, _, _ => h.elim
theorem jtq {f : Func} {s : ChangeSpec} {apart fresh handsOn again : Bool} {W W' : World} {args : Array Value} {ds gs : List (DataW H)} {before : List MemPlace} {tb : TypeId} (hvars : s.vars = []) (hrt : f.resultTypes = #[tb]) (htb : P.underlying tb = some .bool)
  (hres : (s.fn H (ds ++ gs)).results = [.lit (.bool true)]) (hargs : (s.fn H (ds ++ gs)).args = ds) (hsv : (s.fn H (ds ++ gs)).vars = []) (hl : laidOutB P = true) (hread : ∀ t ∈ f.params.toList, P.readableRec t = true ∧ t < P.types.size)
  (hW : DataW.Whole enc P f.params.toList s.vars apart W args.toList ds gs before) (hb : Below W.heap.size W W') : s.post enc P f apart fresh handsOn again W args (.bool true) W' := by
 have hlt : ∀ p ∈ before, p.block < W.heap.size := fun p hp => hW.lt p hp
 have hW' := hW
 obtain ⟨p, q, h1, h2, rfl, hfz, hnd⟩ := hW'
 rw [hvars] at h2
 have hq : q = [] := by
  cases gs with
  | nil => exact h2
  | cons _ _ => exact h2.elim
 subst hq
 rw [List.append_nil] at hlt hfz hnd
 have hA : ∀ sp : Nat → Bool, (∀ x ∈ p, sp x.block = true) → DataW.TrodAll enc P W' 0 sp true f.params.toList args.toList ds p := fun sp hs => jop hl hb _ _ _ _ hread h1 hlt hs
 have hR : ∀ (b : Nat) (sp : Nat → Bool) (hd : Bool), DataW.TrodAll enc P W' b sp hd [tb] [.bool true] [.lit (.bool true)] [] := fun b sp hd => ⟨[], [], ⟨1, by simp [DataW.trod, htb, Value.cells]⟩, rfl, rfl⟩
 have hrl : (Value.bool true).resultList f.resultTypes.size = [.bool true] := by rw [hrt]; rfl
 have hrt' : f.resultTypes.toList = [tb] := by rw [hrt]
 refine ⟨ds, gs, p ++ [], [], p, [], hW, ?_, ?_, ?_, World.keptBut_mono (fun x hx => ⟨hx, .inr (.inl (by simpa using hx))⟩) (hb.frame (·∈ p ++ [])), fun _ => ⟨fun j t r hj hr => ?_, ?_⟩⟩
 ·rw [hrl, hrt', hres]; exact hR _ _ _
 ·rw [hargs]; exact hA _ (fun x hx => by simpa using hlt x hx)
 ·rw [hvars, hsv]; rfl
 ·rw [hrt] at hj
  rw [hrl] at hr
  cases j with
  | zero =>
   simp at hj hr
   subst hj; subst hr
   exact okWide_bool_mk htb _
  | succ j => simp at hj
 ·refine ⟨[.lit (.bool true)] ++ ds, [], p, ⟨p, [], ?_, by rw [hvars]; rfl, by simp, ?_, ?_⟩, fun x hx _ => by simpa using hx⟩
  ·rw [hrl, hrt']
   exact ⟨[], p, ⟨1, by simp [DataW.trod, htb, Value.cells]⟩, hA _ (fun _ _ => rfl), rfl⟩
  ·intro b off hp
   rw [hb.frozen (hlt _ hp)]
   exact hfz b off hp
  ·exact hnd
end
section
variable {H : Type} {enc : TypeId × Value → H} {P : Program} {w : World} {base : Nat} {spare : Nat → Bool} {held : Bool} {r : Reach} {b0 : Nat}
theorem jud {t : TypeId} {d : Nat} {ks : List K} {v : Value} {x : DataW H} {p : List MemPlace} (ht : jbH P t = some true) (hk : kinds P d t = some ks)
  (hval : Value.okWide P w r b0 t v) (h : DataW.Trod enc P w base spare held t v x p) : ∃ ds : List D, ArgIs w v (.s ds) ∧ jbG ks ds := by
 obtain ⟨fuel, hx⟩ := h
 obtain ⟨ds, h1, h2⟩ := jhu d t ks fuel _ _ hk hx
 have hv : ∃ cs, v = .agg cs := by
  unfold Value.okWide at hval
  cases hU : P.underlying t with
  | none => simp [jbH, hU] at ht
  | some u =>
   rw [hU] at hval
   cases u with
   | struct fs => obtain ⟨cs, h, _⟩ := hval; exact ⟨cs, h⟩
   | array n e => obtain ⟨cs, h, _⟩ := hval; exact ⟨cs, h⟩
   | _ => simp [jbH, hU] at ht
 obtain ⟨cs, rfl⟩ := hv
 have : cs = (ds.map D.val).toArray := by
  apply Array.ext'
  simpa [Value.cells] using h1
 subst this
 exact ⟨ds, .s ds, h2⟩
end
end Go.Sx
end

section
namespace Go.Sx
open Go.RowKit Go.ChangeShapes Go.WideShapes
inductive K2 where
 | d (k : K)
 | s (ks : List K)
inductive T1 where
 | d (x : D)
 | r (c : Cont)
inductive Cell2 (w : World) : K2 → Value → T1 → Prop where
 | d (k : K) (x : D) (h : k.fits x) : Cell2 w (.d k) x.val (.d x)
 | s (ks : List K) (v : Value) (rows : List (List D)) (h0 : 0 < ks.length) (h : ∀ r ∈ rows, jbG ks r) (hr : ja6 w v (.lits ks.length rows)) : Cell2 w (.s ks) v (.r (.lits ks.length rows))
inductive Cells2 (w : World) : List K2 → List Value → List T1 → Prop where
 | nil : Cells2 w [] [] []
 | cons {k : K2} {v : Value} {t : T1} {ks : List K2} {vs : List Value} {ts : List T1} (h : Cell2 w k v t) (r : Cells2 w ks vs ts) : Cells2 w (k :: ks) (v :: vs) (t :: ts)
theorem Cells2.append {w : World} {ks ks' : List K2} {vs vs' : List Value} {ts ts' : List T1} (h : Cells2 w ks vs ts) (h' : Cells2 w ks' vs' ts') : Cells2 w (ks ++ ks') (vs ++ vs') (ts ++ ts') := by
 induction h with
 | nil => exact h'
 | cons h r ih => exact .cons h ih
section
variable {H : Type} {enc : TypeId × Value → H} {P : Program} {w : World} {base : Nat} {spare : Nat → Bool} {held : Bool}
end
section
variable [Globs]
structure TOK (w : World) (n : Nat) (ρ ρ' : Env) (vals : List Value) (cs : List C) (hp : Hp) (n' : Nat) : Prop where
 agree : jai n ρ ρ'
 le : n ≤ n'
 val : cs.map (C.val ρ') = vals
 lt : ∀ c ∈ cs, C.lt n' c
 heap : ∀ k o, find hp k = some o → n ≤ k ∧ k < n' ∧ ∃ c, o = .ext c ∧ ja6 w (ρ' k) c ∧ 0 < c.e
theorem TOK.append {w : World} {n n1 n2 : Nat} {ρ ρ1 ρ2 : Env} {a b : List Value} {ca cb : List C} {ha hb : Hp} (h1 : TOK w n ρ ρ1 a ca ha n1) (h2 : TOK w n1 ρ1 ρ2 b cb hb n2) : TOK w n ρ ρ2 (a ++ b) (ca ++ cb) (hb ++ ha) n2 := by
 refine ⟨h1.agree.trans h2.agree h1.le, Nat.le_trans h1.le h2.le, ?_, ?_, ?_⟩
 ·rw [List.map_append, h2.val, ← h1.val]
  congr 1
  exact List.map_congr_left fun c hc => C.val_agree h2.agree (h1.lt c hc)
 ·intro c hc
  rcases List.mem_append.1 hc with hc | hc
  ·exact C.lt_mono h2.le (h1.lt c hc)
  ·exact h2.lt c hc
 ·intro k o hf
  rw [jaA] at hf
  cases hg : find hb k with
  | some o2 =>
   rw [hg] at hf
   cases hf
   obtain ⟨q1, q2, q3⟩ := h2.heap k o hg
   exact ⟨Nat.le_trans h1.le q1, q2, q3⟩
  | none =>
   rw [hg] at hf
   obtain ⟨q1, q2, c, q3, q4, q5⟩ := h1.heap k o hf
   exact ⟨q1, Nat.lt_of_lt_of_le q2 h2.le, c, q3, by rw [h2.agree k q2]; exact q4, q5⟩
end
end Go.Sx
end

section
namespace Go.Sx
open Go.RowKit Go.ChangeShapes Go.WideShapes
section
variable {P : Program} {w : World}
theorem jcR : ∀ {l : List (String × DataW Unit)} {ps : List MemPlace} {n : String} {d : DataW Unit}, DataW.LaidVars P w l ps → (n, d) ∈ l →
  ∃ g t cs fuel p, P.globalNamed n = some g ∧ (P.globals[g]?).map (·.type) = some t ∧ w.var? P n = some cs ∧ DataW.trod (fun _ => ()) P w 0 (fun _ => true) false fuel t cs.toList = some (d, p)
 | (n', d') :: r, ps, n, d, h, hm => by
  obtain ⟨g, t, cs, fuel, p, q, h1, h2, h3, h4, h5, _⟩ := h
  rcases List.mem_cons.1 hm with e | hm
  ·cases e
   exact ⟨g, t, cs, fuel, p, h1, h2, h3, h4⟩
  ·exact jcR h5 hm
variable {enc : TypeId × Value → Unit} {base : Nat} {spare : Nat → Bool} {held : Bool} {fuel : Nat}
theorem joq {α : Type} {l : List α} {i : Nat} (h : i < l.length) : (l.drop i).take 1 = [l[i]] := by
 rw [List.drop_eq_getElem_cons h]
 rfl
theorem jfR {t e n : Nat} {k : IntKind} {l : List Int} {cs : List Value} {p : List MemPlace} (hu : P.underlying t = some (.array n e)) (he : P.underlying e = some (.int k)) (hc : P.cellsOf e = 1) (hct : P.cellsOf t = n) (hl : l.length = n)
  (h : DataW.trod enc P w base spare held fuel t cs = some (.agg (l.map fun x => .lit (.int k x)), p)) : cs = (Cont.ints k l).flat.map D.val := by
 obtain ⟨xs, m, _, hx, hlen, hn, hel⟩ := DataW.trod_array hu h
 have hx1 : l.map (fun x => DataW.lit (H := Unit) (.int k x)) = xs.map (·.1) := by
  have := congrArg Prod.fst hx
  simpa using this
 have hf : (Cont.ints k l).flat.map D.val = l.map fun x => Value.int k x := by
  simp only [Cont.flat, List.map_flatMap, List.map_cons, List.map_nil, D.val]
  rw [← List.flatMap_singleton' (l.map fun x => Value.int k x), List.flatMap_map]
 rw [hf]
 apply List.ext_getElem
 ·rw [hlen, hct, List.length_map, hl]
 ·intro i h1 h2
  have hi : i < n := by rw [hlen, hct] at h1; exact h1
  have h3 := hel i hi
  rw [hc, Nat.mul_one, joq h1] at h3
  have hxi : i < xs.length := by omega
  rw [List.getElem?_eq_getElem hxi] at h3
  obtain ⟨a, ha, hb, _⟩ := DataW.trod_int he h3
  have h4 : (l.map (fun x => DataW.lit (H := Unit) (.int k x)))[i]? = (xs.map (·.1))[i]? := by rw [hx1]
  rw [List.getElem?_map, List.getElem?_map, List.getElem?_eq_getElem hxi, List.getElem?_eq_getElem (show i < l.length by omega), hb] at h4
  simp only [Option.map_some, Option.some.injEq] at h4
  have e1 : l[i] = a := by cases h4; rfl
  have e2 : cs[i] = .int k a := by simpa using ha
  rw [e2, List.getElem_map, e1]
theorem jqB {t e n a b c : Nat} {fs : Array Field} {l : List (List Int)} {cs : List Value} {p : List MemPlace} (hu : P.underlying t = some (.array n e)) (he : P.underlying e = some (.struct fs))
  (hfs : fs.toList.map (fun f => (f.type, f.offset)) = [(a, 0), (b, 1), (c, 2)]) (ha : P.underlying a = some (.int .i64)) (hb : P.underlying b = some (.int .i64)) (hc : P.underlying c = some (.int .i64)) (hca : P.cellsOf a = 1) (hcb : P.cellsOf b = 1) (hcc : P.cellsOf c = 1)
  (hce : P.cellsOf e = 3) (hct : P.cellsOf t = 3 * n) (hl : l.length = n)
  (h : DataW.trod enc P w base spare held fuel t cs = some (.agg (l.map fun x => .agg [.lit (.int .i64 (x.getD 0 0)), .lit (.int .i64 (x.getD 1 0)), .lit (.int .i64 (x.getD 2 0))]), p)) : cs = (Cont.recs 3 l).flat.map D.val := by
 obtain ⟨xs, m, _, hx, hlen, hn, hel⟩ := DataW.trod_array hu h
 have hx1 : l.map (fun x => DataW.agg (H := Unit) [.lit (.int .i64 (x.getD 0 0)), .lit (.int .i64 (x.getD 1 0)), .lit (.int .i64 (x.getD 2 0))]) = xs.map (·.1) := by
  have := congrArg Prod.fst hx
  simpa using this
 have hrow : ∀ i, i < n → (cs.drop (i * 3)).take 3 = [Value.int .i64 ((l.getD i []).getD 0 0), .int .i64 ((l.getD i []).getD 1 0), .int .i64 ((l.getD i []).getD 2 0)] := by
  intro i hi
  have h3 := hel i hi
  rw [hce] at h3
  have hxi : i < xs.length := by omega
  have hli : i < l.length := by omega
  rw [List.getElem?_eq_getElem hxi] at h3
  have h4 : (l.map (fun x => DataW.agg (H := Unit) [.lit (.int .i64 (x.getD 0 0)), .lit (.int .i64 (x.getD 1 0)), .lit (.int .i64 (x.getD 2 0))]))[i]? = (xs.map (·.1))[i]? := by rw [hx1]
  rw [List.getElem?_map, List.getElem?_map, List.getElem?_eq_getElem hxi, List.getElem?_eq_getElem hli] at h4
  simp only [Option.map_some, Option.some.injEq] at h4
  have hgl : l.getD i [] = l[i] := by simp [List.getD, hli]
  rw [hgl]
  obtain ⟨ys, m2, _, hy, hyl, hyn, hye⟩ := DataW.trod_struct he h3
  rw [hce] at hyl
  have hy1 : xs[i].1 = .agg (ys.map (·.1)) := by rw [hy]
  rw [hy1] at h4
  have h5 : [DataW.lit (H := Unit) (.int .i64 (l[i].getD 0 0)), .lit (.int .i64 (l[i].getD 1 0)), .lit (.int .i64 (l[i].getD 2 0))] = ys.map (·.1) := by
   rw [DataW.agg.injEq] at h4
   exact h4
  have hfl : fs.size = 3 := by
   have := congrArg List.length hfs
   simpa using this
  have field : ∀ (j : Nat) (tj : Nat), j < 3 → (fs.toList.map (fun f => (f.type, f.offset)))[j]? = some (tj, j) → P.underlying tj = some (.int .i64) → P.cellsOf tj = 1 → ∃ v, ((cs.drop (i * 3)).take 3)[j]? = some (Value.int .i64 v) ∧ (ys.map (·.1))[j]? = some (.lit (.int .i64 v)) := by
   intro j tj hj hf htj hcj
   rw [List.getElem?_map] at hf
   cases hfj : fs.toList[j]? with
   | none => rw [hfj] at hf; cases hf
   | some f =>
    rw [hfj] at hf
    simp only [Option.map_some, Option.some.injEq, Prod.mk.injEq] at hf
    obtain ⟨e1, e2⟩ := hf
    have h6 := hye j f (by simpa using hfj)
    rw [e1, e2, hcj, joq (by rw [hyl]; exact hj)] at h6
    have hyj : j < ys.length := by omega
    rw [List.getElem?_eq_getElem hyj] at h6
    obtain ⟨v, hv1, hv2, _⟩ := DataW.trod_int htj h6
    refine ⟨v, ?_, ?_⟩
    ·rw [List.getElem?_eq_getElem (by rw [hyl]; exact hj)]
     simpa using hv1
    ·rw [List.getElem?_map, List.getElem?_eq_getElem hyj, hv2]
     rfl
  obtain ⟨v0, a0, b0⟩ := field 0 a (by omega) (by rw [hfs]; rfl) ha hca
  obtain ⟨v1, a1, b1⟩ := field 1 b (by omega) (by rw [hfs]; rfl) hb hcb
  obtain ⟨v2, a2, b2⟩ := field 2 c (by omega) (by rw [hfs]; rfl) hc hcc
  rw [← h5] at b0 b1 b2
  have e0 : l[i].getD 0 0 = v0 := by simpa using b0
  have e1 : l[i].getD 1 0 = v1 := by simpa using b1
  have e2 : l[i].getD 2 0 = v2 := by simpa using b2
  rw [e0, e1, e2]
  generalize (cs.drop (i * 3)).take 3 = L at *
  match L, hyl with
  | [x, y, z], _ =>
   simp only [List.getElem?_cons_zero, List.getElem?_cons_succ, Option.some.injEq] at a0 a1 a2
   rw [a0, a1, a2]
 apply List.ext_getElem?
 intro j
 have hfl := (Cont.recs 3 l).flat_length
 have hn3 : (Cont.recs 3 l).n * (Cont.recs 3 l).e = n * 3 := by simp [Cont.n, Cont.e, hl]
 by_cases hj : j < n * 3
 ·have hi : j / 3 < n := by omega
  have h7 := hrow (j / 3) hi
  have h8 := (Cont.recs 3 l).flat_get (i := j / 3) (j := j % 3) (by simpa [Cont.n, hl] using hi) (by simp only [Cont.e]; omega)
  have e9 : j / 3 * (Cont.recs 3 l).e + j % 3 = j := by simp only [Cont.e]; omega
  rw [e9] at h8
  rw [List.getElem?_map, h8]
  have h10 : cs[j]? = ((cs.drop (j / 3 * 3)).take 3)[j % 3]? := by
   rw [List.getElem?_take, if_pos (by omega), List.getElem?_drop]
   congr 1
   omega
  rw [h10, h7]
  have hm : j % 3 = 0 ∨ j % 3 = 1 ∨ j % 3 = 2 := by omega
  rcases hm with h | h | h <;> rw [h] <;> rfl
 ·rw [List.getElem?_eq_none (by rw [hlen, hct]; omega), List.getElem?_eq_none (by rw [List.length_map, hfl, hn3]; omega)]
theorem jiL {n : String} {g : Nat} {cs : Array Value} {c : Cont} (hg : P.globalNamed n = some g) (hv : w.var? P n = some cs) (hc : cs.toList = c.flat.map D.val) :
  g < w.heap.size ∧ (∀ j x, c.flat[j]? = some x → w.cell? ⟨g, j, none⟩ = some x.val) ∧ ∃ cs t f, w.heap[g]? = some (.cells cs t f) ∧ cs.size = c.flat.length := by
 have hcell := World.var?_cell hg hv
 have hsz : cs.size = c.flat.length := by
  have := congrArg List.length hc
  simpa using this
 simp only [World.var?, hg, Option.bind_some] at hv
 split at hv
 ·rename_i cs' t f hh
  cases hv
  refine ⟨(Array.getElem?_eq_some_iff.1 hh).1, fun j x hj => ?_, cs, t, f, hh, hsz⟩
  rw [hcell j]
  have : cs.toList[j]? = some x.val := by rw [hc, List.getElem?_map, hj]; rfl
  simpa using this
 ·cases hv
end
end Go.Sx
end

section
namespace Go
open Go.RowKit Go.ChangeShapes Go.WideShapes
section
variable {H : Type} {enc : TypeId × Value → H}
theorem jjo {a : Assume} {C : Checked} {os : Os} {f : FuncId} {fn : Func} {s : ChangeSpec} {conds : List PathCond} {apart fresh handsOn again : Bool} {X : World → Array Value → Prop}
  (hX : ∀ (w w' : World) (args : Array Value), w.heap = w'.heap → X w args → X w' args)
  (own : ownKnob C.prog.godebug = none) (started : os.Started) (noInit : C.prog.inits.idxOf? f = none) (hfn : C.prog.funcs[f]? = some fn)
  (witness : ∃ (w : World) (tape : Tape) (i : Input), w.os = os ∧ (w.forCall tape i).Shaped C.prog ∧ i.vars = [] ∧ Input.okWide C.prog (w.forCall tape i) .any w.heap.size f i ∧
   ((s.pre enc C.prog fn conds apart (w.forCall tape i).memory i.args ∧ X (w.forCall tape i).memory i.args) ∧ sizedMet enc C.prog fn (OpenSpec.ofChange s) apart (w.forCall tape i).memory i.args) ∧ a.holds C.prog (lone (Frame.enter C.prog f i.args .normal) [] (w.forCall tape i)))
  (contract : ∀ (W : World) (base : Nat) (args : Array Value) (ds gs : List (DataW H)) (before : List MemPlace),
   (∀ (j : Nat) t v, fn.params[j]? = some t → args[j]? = some v → Value.okWide C.prog W .any base t v) →
   DataW.Whole enc C.prog fn.params.toList s.vars apart W args.toList ds gs before →
   (DataW.weightsEach C.prog (fn.params.toList ++ s.plain.varTypes C.prog) (ds ++ gs)).all (·≤ reachBytes) = true → X W args → W.ShapedOpen C.prog →
   Calls C.prog f args W fun e W' => ∃ v, e = .returned v ∧ s.post enc C.prog fn apart fresh handsOn again W args v W') :
  ReturnsInHanded a C os f .any (fun w args => (s.pre enc C.prog fn conds apart w args ∧ X w args) ∧ sizedMet enc C.prog fn (OpenSpec.ofChange s) apart w args) (s.post enc C.prog fn apart fresh handsOn again) := by
 refine returnsInHanded_of_calls own started noInit witness ?_
 intro w tape i _ hsh _ hok hpre hholds
 obtain ⟨_, _, _, fn', hfn', _, _, _, _, hval⟩ := hok
 have e : fn' = fn := Option.some.inj (hfn'.symm.trans hfn)
 subst e
 obtain ⟨⟨⟨ds, gs, before, hw, hc⟩, hx⟩, hz⟩ := hpre
 have hw' := DataW.Whole.of_heap (w' := w.forCall tape i) (by rfl) hw
 refine (contract (w.forCall tape i) w.heap.size i.args ds gs before hval hw' (hz.weights hw) (hX _ _ _ (by rfl) hx) hsh).mono fun e W' ⟨v, he, hp⟩ => ?_
 subst he
 exact ChangeSpec.post_blind hp
end
end Go
namespace Go.Proofs.YtcklfboglnfepaaGreatDoor
open Go Go.Proofs Go.RowKit Go.Sx
set_option maxRecDepth 100000
theorem jpo {H : Type} {enc : TypeId × Value → H} {P : Program} {w : World} {base fuel : Nat} {spare : Nat → Bool} {held : Bool} {t : TypeId} {cs : List Value} {x : DataW H × List MemPlace} (ht : ∃ i, P.underlying t = some (.interface i))
  (h : DataW.trod enc P w base spare held fuel t cs = some x) : cs = [.nilIface] ∨ ∃ u v, cs = [.iface u v] := by
 obtain ⟨i, ht⟩ := ht
 cases fuel with
 | zero => simp [DataW.trod] at h
 | succ n =>
  unfold DataW.trod at h
  rw [ht] at h
  split at h <;> simp_all
theorem jtr {W : World} {laid : List (String × DataW Unit)} (hp : (laid.all fun x => x.2.handleName?.isNone) = true)
  (hm : ∀ x ∈ [("strconv.ErrRange", Rows.laid_strconv_ErrRange), ("strconv.ErrSyntax", Rows.laid_strconv_ErrSyntax), ("internal/strconv.uint64pow10", Rows.laid_internal_strconv_uint64pow10 (H := Unit)), ("shoebox/figure.powers", Rows.laid_shoebox_figure_powers), ("shoebox/figure.slopes", Rows.laid_shoebox_figure_slopes), ("shoebox/figure.tenths", Rows.laid_shoebox_figure_tenths), ("shoebox/figure.decayKinds", Rows.laid_shoebox_figure_decayKinds)], x ∈ laid)
  (h : laidMetH Tryz.prog laid W) (hs : W.ShapedOpen Tryz.prog) : jbK (fun k => k < W.heap.size) W := by
 rw [MakeChecks.laidMetH_plain _ _ _ hp] at h
 obtain ⟨ps, hl, _, _⟩ := h
 have t0 : (Tryz.prog.globals[0]?).map (·.type) = some 141 := by kernel_rfl
 have t1 : (Tryz.prog.globals[1]?).map (·.type) = some 159 := by kernel_rfl
 have t3 : (Tryz.prog.globals[3]?).map (·.type) = some 169 := by kernel_rfl
 have t7 : (Tryz.prog.globals[7]?).map (·.type) = some 198 := by kernel_rfl
 have t11 : (Tryz.prog.globals[11]?).map (·.type) = some 227 := by kernel_rfl
 have t9 : (Tryz.prog.globals[9]?).map (·.type) = some 174 := by kernel_rfl
 have t10 : (Tryz.prog.globals[10]?).map (·.type) = some 174 := by kernel_rfl
 have hif : ∃ i, Tryz.prog.underlying 174 = some (.interface i) := ⟨_, Tryz.underlying174⟩
 refine ⟨fun g c hg => ?_, fun g p hg => ?_⟩
 case refine_1 =>
  have hg : tabZ g = some c := hg
  unfold tabZ at hg
  split at hg
  ·cases hg
   obtain ⟨g, t, cs, fuel, p, h1, h2, h3, h4⟩ := jcR hl (hm ("shoebox/figure.decayKinds", Rows.laid_shoebox_figure_decayKinds) (by simp))
   obtain rfl := Option.some.inj ((show Tryz.prog.globalNamed "shoebox/figure.decayKinds" = some 0 by kernel_rfl).symm.trans h1)
   obtain rfl := Option.some.inj (t0.symm.trans h2)
   have hc := jfR (n := 3) (e := 3) (k := .i64) (l := jqZ) (by kernel_rfl) (by kernel_rfl) (by kernel_rfl) (by kernel_rfl) rfl h4
   exact jiL h1 h3 hc
  ·cases hg
   obtain ⟨g, t, cs, fuel, p, h1, h2, h3, h4⟩ := jcR hl (hm ("shoebox/figure.slopes", Rows.laid_shoebox_figure_slopes) (by simp))
   obtain rfl := Option.some.inj ((show Tryz.prog.globalNamed "shoebox/figure.slopes" = some 1 by kernel_rfl).symm.trans h1)
   obtain rfl := Option.some.inj (t1.symm.trans h2)
   have hu : ∃ fs, Tryz.prog.underlying 158 = some (.struct fs) ∧ fs.toList.map (fun f => (f.type, f.offset)) = [(3, 0), (3, 1), (3, 2)] := by
    have u := Tryz.underlying158
    exact ⟨_, u, by kernel_rfl⟩
   obtain ⟨fs, u2, u3⟩ := hu
   have hc := jqB (n := 3) (l := jbd) (e := 158) (by kernel_rfl) u2 u3 (by kernel_rfl) (by kernel_rfl) (by kernel_rfl) (by kernel_rfl) (by kernel_rfl) (by kernel_rfl) (by kernel_rfl) (by kernel_rfl) rfl h4
   exact jiL h1 h3 hc
  ·cases hg
   obtain ⟨g, t, cs, fuel, p, h1, h2, h3, h4⟩ := jcR hl (hm ("shoebox/figure.powers", Rows.laid_shoebox_figure_powers) (by simp))
   obtain rfl := Option.some.inj ((show Tryz.prog.globalNamed "shoebox/figure.powers" = some 3 by kernel_rfl).symm.trans h1)
   obtain rfl := Option.some.inj (t3.symm.trans h2)
   have hc := jfR (n := 13) (l := jas) (e := 134) (k := .u64) (by kernel_rfl) (by kernel_rfl) (by kernel_rfl) (by kernel_rfl) rfl h4
   exact jiL h1 h3 hc
  ·cases hg
   obtain ⟨g, t, cs, fuel, p, h1, h2, h3, h4⟩ := jcR hl (hm ("shoebox/figure.tenths", Rows.laid_shoebox_figure_tenths) (by simp))
   obtain rfl := Option.some.inj ((show Tryz.prog.globalNamed "shoebox/figure.tenths" = some 7 by kernel_rfl).symm.trans h1)
   obtain rfl := Option.some.inj (t7.symm.trans h2)
   have hc := jfR (n := 10) (l := jbX) (e := 134) (k := .u64) (by kernel_rfl) (by kernel_rfl) (by kernel_rfl) (by kernel_rfl) rfl h4
   exact jiL h1 h3 hc
  ·cases hg
   obtain ⟨g, t, cs, fuel, p, h1, h2, h3, h4⟩ := jcR hl (hm ("internal/strconv.uint64pow10", Rows.laid_internal_strconv_uint64pow10) (by simp))
   obtain rfl := Option.some.inj ((show Tryz.prog.globalNamed "internal/strconv.uint64pow10" = some 11 by kernel_rfl).symm.trans h1)
   obtain rfl := Option.some.inj (t11.symm.trans h2)
   have hc := jfR (n := 20) (l := jq0) (e := 134) (k := .u64) (by kernel_rfl) (by kernel_rfl) (by kernel_rfl) (by kernel_rfl) rfl h4
   exact jiL h1 h3 hc
  ·cases hg
 case refine_2 =>
  have hg : jpV g = some p := hg
  unfold jpV at hg
  split at hg
  ·cases hg
   obtain ⟨m, hc⟩ := cell_of_shapedOpen_int (g := 8) (t := 3) (k := .i64) (zero := #[.int .i64 0]) hs (of_decide_eq_true (by kernel_rfl)) (by kernel_rfl) rfl (by kernel_rfl) (by kernel_rfl) (by kernel_rfl)
   exact ⟨World.block_lt_of_cell? W _ hc, _, hc, m, rfl⟩
  ·cases hg
   obtain ⟨g, t, cs, fuel, p, h1, h2, h3, h4⟩ := jcR hl (hm ("strconv.ErrSyntax", Rows.laid_strconv_ErrSyntax) (by simp))
   obtain rfl := Option.some.inj ((show Tryz.prog.globalNamed "strconv.ErrSyntax" = some 9 by kernel_rfl).symm.trans h1)
   obtain rfl := Option.some.inj (t9.symm.trans h2)
   have hcell := World.var?_cell h1 h3
   rcases jpo hif h4 with e | ⟨u, v, e⟩
   ·have hc : W.cell? ⟨9, 0, none⟩ = some .nilIface := by rw [hcell 0, ← Array.getElem?_toList, e]; rfl
    exact ⟨World.block_lt_of_cell? W _ hc, _, hc, .inl rfl⟩
   ·have hc : W.cell? ⟨9, 0, none⟩ = some (.iface u v) := by rw [hcell 0, ← Array.getElem?_toList, e]; rfl
    exact ⟨World.block_lt_of_cell? W _ hc, _, hc, .inr ⟨u, v, rfl⟩⟩
  ·cases hg
   obtain ⟨g, t, cs, fuel, p, h1, h2, h3, h4⟩ := jcR hl (hm ("strconv.ErrRange", Rows.laid_strconv_ErrRange) (by simp))
   obtain rfl := Option.some.inj ((show Tryz.prog.globalNamed "strconv.ErrRange" = some 10 by kernel_rfl).symm.trans h1)
   obtain rfl := Option.some.inj (t10.symm.trans h2)
   have hcell := World.var?_cell h1 h3
   rcases jpo hif h4 with e | ⟨u, v, e⟩
   ·have hc : W.cell? ⟨10, 0, none⟩ = some .nilIface := by rw [hcell 0, ← Array.getElem?_toList, e]; rfl
    exact ⟨World.block_lt_of_cell? W _ hc, _, hc, .inl rfl⟩
   ·have hc : W.cell? ⟨10, 0, none⟩ = some (.iface u v) := by rw [hcell 0, ← Array.getElem?_toList, e]; rfl
    exact ⟨World.block_lt_of_cell? W _ hc, _, hc, .inr ⟨u, v, rfl⟩⟩
  ·cases hg
end Go.Proofs.YtcklfboglnfepaaGreatDoor
end
