/- Part 5 of the proof of FigureSheetsCard: the executor, the mirrors of the functions, the plain facts. -/
import Derived.Test.YtcklfboglnfepaaGreatDoorPD
set_option maxRecDepth 100000
set_option linter.unusedSectionVars false
set_option linter.unusedSimpArgs false
set_option linter.unusedVariables false
section
namespace Go.Sh
open Go Go.Proofs Go.RowKit Go.Sx
open Go.IntKind (wrap)
def jfz:List (Option Cont):=[none]
def y71 (x_:Int):Option Int :=
 if x_≥4294967296 then
  if Int.fdiv x_ ((2:Int)^min (32:Nat) (IntKind.bits .u64))≥65536 then
  if Int.fdiv (Int.fdiv x_ ((2:Int)^min (32:Nat) (IntKind.bits .u64))) ((2:Int)^min (16:Nat) (IntKind.bits .u64))≥256 then
   if 0≤wrap .u8 (Int.fdiv (Int.fdiv (Int.fdiv x_ ((2:Int)^min (32:Nat) (IntKind.bits .u64))) ((2:Int)^min (16:Nat) (IntKind.bits .u64))) ((2:Int)^min (8:Nat) (IntKind.bits .u64)))∧wrap .u8 (Int.fdiv (Int.fdiv (Int.fdiv x_ ((2:Int)^min (32:Nat) (IntKind.bits .u64))) ((2:Int)^min (16:Nat) (IntKind.bits .u64))) ((2:Int)^min (8:Nat) (IntKind.bits .u64)))<(↑(ByteArray.size jba):Int)then
   some (wrap .i64 (wrap .i64 (wrap .i64 ((32:Int)+16)+8)+wrap .i64 (↑(UInt8.toNat (Array.getD (ByteArray.data jba) (Int.toNat (wrap .u8 (Int.fdiv (Int.fdiv (Int.fdiv x_ ((2:Int)^min (32:Nat) (IntKind.bits .u64))) ((2:Int)^min (16:Nat) (IntKind.bits .u64))) ((2:Int)^min (8:Nat) (IntKind.bits .u64))))) (0:UInt8))):Int)))
   else none
  else
   if 0≤wrap .u8 (Int.fdiv (Int.fdiv x_ ((2:Int)^min (32:Nat) (IntKind.bits .u64))) ((2:Int)^min (16:Nat) (IntKind.bits .u64)))∧wrap .u8 (Int.fdiv (Int.fdiv x_ ((2:Int)^min (32:Nat) (IntKind.bits .u64))) ((2:Int)^min (16:Nat) (IntKind.bits .u64)))<(↑(ByteArray.size jba):Int)then
   some (wrap .i64 (wrap .i64 ((32:Int)+16)+wrap .i64 (↑(UInt8.toNat (Array.getD (ByteArray.data jba) (Int.toNat (wrap .u8 (Int.fdiv (Int.fdiv x_ ((2:Int)^min (32:Nat) (IntKind.bits .u64))) ((2:Int)^min (16:Nat) (IntKind.bits .u64))))) (0:UInt8))):Int)))
   else none
  else
  if Int.fdiv x_ ((2:Int)^min (32:Nat) (IntKind.bits .u64))≥256 then
   if 0≤wrap .u8 (Int.fdiv (Int.fdiv x_ ((2:Int)^min (32:Nat) (IntKind.bits .u64))) ((2:Int)^min (8:Nat) (IntKind.bits .u64)))∧wrap .u8 (Int.fdiv (Int.fdiv x_ ((2:Int)^min (32:Nat) (IntKind.bits .u64))) ((2:Int)^min (8:Nat) (IntKind.bits .u64)))<(↑(ByteArray.size jba):Int)then
   some (wrap .i64 (wrap .i64 ((32:Int)+8)+wrap .i64 (↑(UInt8.toNat (Array.getD (ByteArray.data jba) (Int.toNat (wrap .u8 (Int.fdiv (Int.fdiv x_ ((2:Int)^min (32:Nat) (IntKind.bits .u64))) ((2:Int)^min (8:Nat) (IntKind.bits .u64))))) (0:UInt8))):Int)))
   else none
  else
   if 0≤wrap .u8 (Int.fdiv x_ ((2:Int)^min (32:Nat) (IntKind.bits .u64)))∧wrap .u8 (Int.fdiv x_ ((2:Int)^min (32:Nat) (IntKind.bits .u64)))<(↑(ByteArray.size jba):Int)then
   some (wrap .i64 (32+wrap .i64 (↑(UInt8.toNat (Array.getD (ByteArray.data jba) (Int.toNat (wrap .u8 (Int.fdiv x_ ((2:Int)^min (32:Nat) (IntKind.bits .u64))))) (0:UInt8))):Int)))
   else none
 else
  if x_≥65536 then
  if Int.fdiv x_ ((2:Int)^min (16:Nat) (IntKind.bits .u64))≥256 then
   if 0≤wrap .u8 (Int.fdiv (Int.fdiv x_ ((2:Int)^min (16:Nat) (IntKind.bits .u64))) ((2:Int)^min (8:Nat) (IntKind.bits .u64)))∧wrap .u8 (Int.fdiv (Int.fdiv x_ ((2:Int)^min (16:Nat) (IntKind.bits .u64))) ((2:Int)^min (8:Nat) (IntKind.bits .u64)))<(↑(ByteArray.size jba):Int)then
   some (wrap .i64 (wrap .i64 (wrap .i64 ((0:Int)+16)+8)+wrap .i64 (↑(UInt8.toNat (Array.getD (ByteArray.data jba) (Int.toNat (wrap .u8 (Int.fdiv (Int.fdiv x_ ((2:Int)^min (16:Nat) (IntKind.bits .u64))) ((2:Int)^min (8:Nat) (IntKind.bits .u64))))) (0:UInt8))):Int)))
   else none
  else
   if 0≤wrap .u8 (Int.fdiv x_ ((2:Int)^min (16:Nat) (IntKind.bits .u64)))∧wrap .u8 (Int.fdiv x_ ((2:Int)^min (16:Nat) (IntKind.bits .u64)))<(↑(ByteArray.size jba):Int)then
   some (wrap .i64 (wrap .i64 ((0:Int)+16)+wrap .i64 (↑(UInt8.toNat (Array.getD (ByteArray.data jba) (Int.toNat (wrap .u8 (Int.fdiv x_ ((2:Int)^min (16:Nat) (IntKind.bits .u64))))) (0:UInt8))):Int)))
   else none
  else
  if x_≥256 then
   if 0≤wrap .u8 (Int.fdiv x_ ((2:Int)^min (8:Nat) (IntKind.bits .u64)))∧wrap .u8 (Int.fdiv x_ ((2:Int)^min (8:Nat) (IntKind.bits .u64)))<(↑(ByteArray.size jba):Int)then
   some (wrap .i64 (wrap .i64 ((0:Int)+8)+wrap .i64 (↑(UInt8.toNat (Array.getD (ByteArray.data jba) (Int.toNat (wrap .u8 (Int.fdiv x_ ((2:Int)^min (8:Nat) (IntKind.bits .u64))))) (0:UInt8))):Int)))
   else none
  else
   if 0≤wrap .u8 x_∧wrap .u8 x_<(↑(ByteArray.size jba):Int)then
   some (wrap .i64 (0+wrap .i64 (↑(UInt8.toNat (Array.getD (ByteArray.data jba) (Int.toNat (wrap .u8 x_)) (0:UInt8))):Int)))
   else none
def y170:List A→Option (Prop × List RV)
 |[.d (.i .u64 x_)]=>some (ok (y71 x_),[.d (.i .i64 ((val (y71 x_))))])
 |_=>none
abbrev sp_166:jab→jab:=jas 166 true (jaq jfz y170)
abbrev jdo (x_:Int):=(Int.fdiv x_ ((2:Int)^min (32:Nat) (IntKind.bits .u64)))
abbrev jc1  := ((2:Int)^min (16:Nat) (IntKind.bits .u64))
abbrev jdx  := ((2:Int)^min (8:Nat) (IntKind.bits .u64))
theorem jkE (x_ r:Int) (h:Option.bind (y71 x_) some=some r):ja6 Tryz.f166 (sp0) (fun _ _ _=>none) [.d (.i .u64 x_)] [.d (.i .i64 r)]:=by
 refine Eq.mp (by kernel_rfl:(
 Br (decide (x_≥4294967296))
  ((Ob ((0:Int)≤32) ∧
 Br (decide (Int.fdiv x_ ((2:Int)^min (32:Nat) (IntKind.bits .u64))≥65536))
  ((Ob ((0:Int)≤16) ∧
 Br (decide (Int.fdiv (jdo x_) (jc1)≥256))
  ((Ob ((0:Int)≤8) ∧
 (Ob True ∧
 (Ob (0≤wrap .u8 (Int.fdiv (Int.fdiv (jdo x_) (jc1)) (jdx))∧wrap .u8 (Int.fdiv (Int.fdiv (jdo x_) (jc1)) (jdx))<(↑(ByteArray.size jba):Int)) ∧
 (Ob True ∧
 (Ob True ∧
 (Ob (wrap .i64 (wrap .i64 (wrap .i64 ((32:Int)+16)+8)+wrap .i64 (↑(UInt8.toNat (Array.getD (ByteArray.data jba) (Int.toNat (wrap .u8 (Int.fdiv (Int.fdiv (jdo x_) (jc1)) (jdx)))) (0:UInt8))):Int))=r) ∧
 True)))))))
  ((Ob True ∧
 (Ob (0≤wrap .u8 (Int.fdiv (jdo x_) (jc1))∧wrap .u8 (Int.fdiv (jdo x_) (jc1))<(↑(ByteArray.size jba):Int)) ∧
 (Ob True ∧
 (Ob True ∧
 (Ob (wrap .i64 (wrap .i64 ((32:Int)+16)+wrap .i64 (↑(UInt8.toNat (Array.getD (ByteArray.data jba) (Int.toNat (wrap .u8 (Int.fdiv (jdo x_) (jc1)))) (0:UInt8))):Int))=r) ∧
 True))))))))
 (Br (decide (Int.fdiv x_ ((2:Int)^min (32:Nat) (IntKind.bits .u64))≥256))
  ((Ob ((0:Int)≤8) ∧
 (Ob True ∧
 (Ob (0≤wrap .u8 (Int.fdiv (jdo x_) (jdx))∧wrap .u8 (Int.fdiv (jdo x_) (jdx))<(↑(ByteArray.size jba):Int)) ∧
 (Ob True ∧
 (Ob True ∧
 (Ob (wrap .i64 (wrap .i64 ((32:Int)+8)+wrap .i64 (↑(UInt8.toNat (Array.getD (ByteArray.data jba) (Int.toNat (wrap .u8 (Int.fdiv (jdo x_) (jdx)))) (0:UInt8))):Int))=r) ∧
 True)))))))
  ((Ob True ∧
 (Ob (0≤wrap .u8 (jdo x_)∧wrap .u8 (jdo x_)<(↑(ByteArray.size jba):Int)) ∧
 (Ob True ∧
 (Ob True ∧
 (Ob (wrap .i64 (32+wrap .i64 (↑(UInt8.toNat (Array.getD (ByteArray.data jba) (Int.toNat (wrap .u8 (jdo x_))) (0:UInt8))):Int))=r) ∧
 True)))))))))
 (Br (decide (x_≥65536))
  ((Ob ((0:Int)≤16) ∧
 Br (decide (Int.fdiv x_ (jc1)≥256))
  ((Ob ((0:Int)≤8) ∧
 (Ob True ∧
 (Ob (0≤wrap .u8 (Int.fdiv (Int.fdiv x_ (jc1)) (jdx))∧wrap .u8 (Int.fdiv (Int.fdiv x_ (jc1)) (jdx))<(↑(ByteArray.size jba):Int)) ∧
 (Ob True ∧
 (Ob True ∧
 (Ob (wrap .i64 (wrap .i64 (wrap .i64 ((0:Int)+16)+8)+wrap .i64 (↑(UInt8.toNat (Array.getD (ByteArray.data jba) (Int.toNat (wrap .u8 (Int.fdiv (Int.fdiv x_ (jc1)) (jdx)))) (0:UInt8))):Int))=r) ∧
 True)))))))
  ((Ob True ∧
 (Ob (0≤wrap .u8 (Int.fdiv x_ (jc1))∧wrap .u8 (Int.fdiv x_ (jc1))<(↑(ByteArray.size jba):Int)) ∧
 (Ob True ∧
 (Ob True ∧
 (Ob (wrap .i64 (wrap .i64 ((0:Int)+16)+wrap .i64 (↑(UInt8.toNat (Array.getD (ByteArray.data jba) (Int.toNat (wrap .u8 (Int.fdiv x_ (jc1)))) (0:UInt8))):Int))=r) ∧
 True))))))))
 (Br (decide (x_≥256))
  ((Ob ((0:Int)≤8) ∧
 (Ob True ∧
 (Ob (0≤wrap .u8 (Int.fdiv x_ (jdx))∧wrap .u8 (Int.fdiv x_ (jdx))<(↑(ByteArray.size jba):Int)) ∧
 (Ob True ∧
 (Ob True ∧
 (Ob (wrap .i64 (wrap .i64 ((0:Int)+8)+wrap .i64 (↑(UInt8.toNat (Array.getD (ByteArray.data jba) (Int.toNat (wrap .u8 (Int.fdiv x_ (jdx)))) (0:UInt8))):Int))=r) ∧
 True)))))))
  ((Ob True ∧
 (Ob (0≤wrap .u8 x_∧wrap .u8 x_<(↑(ByteArray.size jba):Int)) ∧
 (Ob True ∧
 (Ob True ∧
 (Ob (wrap .i64 (0+wrap .i64 (↑(UInt8.toNat (Array.getD (ByteArray.data jba) (Int.toNat (wrap .u8 x_)) (0:UInt8))):Int))=r) ∧
 True)))))))))=_) ?_
 refine jaT h (fun h=>?_) (fun h=>?_)
 ·refine jf9 (p:=(0:Int)≤32) (by decide) ?_
  refine jaT h (fun h=>?_) (fun h=>?_)
  ·refine jf9 (p:=(0:Int)≤16) (by decide) ?_
   refine jaT h (fun h=>?_) (fun h=>?_)
   ·refine jf9 (p:=(0:Int)≤8) (by decide) ?_
    refine jad ?_
    refine jat h fun h=>?_
    refine jad ?_
    refine jad ?_
    exact rcs h
   ·refine jad ?_
    refine jat h fun h=>?_
    refine jad ?_
    refine jad ?_
    exact rcs h
  ·refine jaT h (fun h=>?_) (fun h=>?_)
   ·refine jf9 (p:=(0:Int)≤8) (by decide) ?_
    refine jad ?_
    refine jat h fun h=>?_
    refine jad ?_
    refine jad ?_
    exact rcs h
   ·refine jad ?_
    refine jat h fun h=>?_
    refine jad ?_
    refine jad ?_
    exact rcs h
 ·refine jaT h (fun h=>?_) (fun h=>?_)
  ·refine jf9 (p:=(0:Int)≤16) (by decide) ?_
   refine jaT h (fun h=>?_) (fun h=>?_)
   ·refine jf9 (p:=(0:Int)≤8) (by decide) ?_
    refine jad ?_
    refine jat h fun h=>?_
    refine jad ?_
    refine jad ?_
    exact rcs h
   ·refine jad ?_
    refine jat h fun h=>?_
    refine jad ?_
    refine jad ?_
    exact rcs h
  ·refine jaT h (fun h=>?_) (fun h=>?_)
   ·refine jf9 (p:=(0:Int)≤8) (by decide) ?_
    refine jad ?_
    refine jat h fun h=>?_
    refine jad ?_
    refine jad ?_
    exact rcs h
   ·refine jad ?_
    refine jat h fun h=>?_
    refine jad ?_
    refine jad ?_
    exact rcs h
theorem jkF:jah Tryz.prog 166 true (jaq jfz y170):=by
 refine jaw (sp:=sp0) (fn:=Tryz.f166) (body:=jai Tryz.f166) mixed jak Tryz.func166 (by kernel_rfl) (by kernel_rfl) fun as_ ob rs h ho=>?_
 unfold y170 at h
 split at h
 ·rename_i x_
  cases h
  exact⟨Nat.le_of_ble_eq_true rfl,_,_,jkE x_ _ (jaj ho)⟩
 ·cases h
theorem sp_166_ok {sp:jab} (h:jac Tryz.prog sp):jac Tryz.prog (sp_166 sp):=jag jkF h
def y140:List (Option Cont):=[none]
def y10 (x_:Int):Option Int :=
 Option.bind (y71 x_) fun r0 =>
 some (wrap .i64 (64-r0))
def y115:List A→Option (Prop × List RV)
 |[.d (.i .u64 x_)]=>some (ok (y10 x_),[.d (.i .i64 ((val (y10 x_))))])
 |_=>none
abbrev sp_150:jab→jab:=jas 150 true (jaq y140 y115)
theorem y217 (x_ r:Int) (h:Option.bind (y10 x_) some=some r):ja6 Tryz.f150 ((sp_166 sp0)) (fun _ _ _=>none) [.d (.i .u64 x_)] [.d (.i .i64 r)]:=by
 refine Eq.mp (by kernel_rfl:(
 (Ob (ok (y71 x_)) ∧
 (Ob True ∧
 (Ob (wrap .i64 (64-val (y71 x_))=r) ∧
 True))))=_) ?_
 refine jav h fun h=>?_
 refine jad ?_
 exact rcs h
theorem y218:jah Tryz.prog 150 true (jaq y140 y115):=by
 refine jaw (sp:=(sp_166 sp0)) (fn:=Tryz.f150) (body:=jai Tryz.f150) mixed (sp_166_ok jak) Tryz.func150 (by kernel_rfl) (by kernel_rfl) fun as_ ob rs h ho=>?_
 unfold y115 at h
 split at h
 ·rename_i x_
  cases h
  exact⟨Nat.le_of_ble_eq_true rfl,_,_,y217 x_ _ (jaj ho)⟩
 ·cases h
theorem sp_150_ok {sp:jab} (h:jac Tryz.prog sp):jac Tryz.prog (sp_150 sp):=jag y218 h
def jfA:List (Option Cont):=[none,none,none]
def y46 (lo y_ r0:Int) (x0:(Int × Int)):Option ((Int × Int) ⊕ Int) :=
 if x0.1≥4294967296 then
  if wrap .u64 (x0.2+Int.fdiv (wrap .u64 (y_*2^min (Int.toNat (wrap .u64 r0)) (IntKind.bits .u64))) ((2:Int)^min (32:Nat) (IntKind.bits .u64)))≥4294967296 then
  some (.inr (wrap .u64 (x0.1-1)))
  else
  some (.inl ((wrap .u64 (x0.1-1),wrap .u64 (x0.2+Int.fdiv (wrap .u64 (y_*2^min (Int.toNat (wrap .u64 r0)) (IntKind.bits .u64))) ((2:Int)^min (32:Nat) (IntKind.bits .u64))))))
 else
  if wrap .u64 (x0.1*wrap .u64 (↑(BitVec.toNat (BitVec.ofInt (IntKind.bits .u64) (wrap .u64 (y_*2^min (Int.toNat (wrap .u64 r0)) (IntKind.bits .u64))) &&& BitVec.ofInt (IntKind.bits .u64) (4294967295:Int))):Int))>wrap .u64 (wrap .u64 (4294967296*x0.2)+Int.fdiv (wrap .u64 (lo*2^min (Int.toNat (wrap .u64 r0)) (IntKind.bits .u64))) ((2:Int)^min (32:Nat) (IntKind.bits .u64)))then
  if wrap .u64 (x0.2+Int.fdiv (wrap .u64 (y_*2^min (Int.toNat (wrap .u64 r0)) (IntKind.bits .u64))) ((2:Int)^min (32:Nat) (IntKind.bits .u64)))≥4294967296 then
   some (.inr (wrap .u64 (x0.1-1)))
  else
   some (.inl ((wrap .u64 (x0.1-1),wrap .u64 (x0.2+Int.fdiv (wrap .u64 (y_*2^min (Int.toNat (wrap .u64 r0)) (IntKind.bits .u64))) ((2:Int)^min (32:Nat) (IntKind.bits .u64))))))
  else
  some (.inr x0.1)
def y84 (lo y_ r0:Int) (x1:(Int × Int)):Option ((Int × Int) ⊕ Int) :=
 if x1.2≥4294967296 then
  if wrap .u64 (x1.1+Int.fdiv (wrap .u64 (y_*2^min (Int.toNat (wrap .u64 r0)) (IntKind.bits .u64))) ((2:Int)^min (32:Nat) (IntKind.bits .u64)))≥4294967296 then
  some (.inr (wrap .u64 (x1.2-1)))
  else
  some (.inl ((wrap .u64 (x1.1+Int.fdiv (wrap .u64 (y_*2^min (Int.toNat (wrap .u64 r0)) (IntKind.bits .u64))) ((2:Int)^min (32:Nat) (IntKind.bits .u64))),wrap .u64 (x1.2-1))))
 else
  if wrap .u64 (x1.2*wrap .u64 (↑(BitVec.toNat (BitVec.ofInt (IntKind.bits .u64) (wrap .u64 (y_*2^min (Int.toNat (wrap .u64 r0)) (IntKind.bits .u64))) &&& BitVec.ofInt (IntKind.bits .u64) (4294967295:Int))):Int))>wrap .u64 (wrap .u64 (4294967296*x1.1)+wrap .u64 (↑(BitVec.toNat (BitVec.ofInt (IntKind.bits .u64) (wrap .u64 (lo*2^min (Int.toNat (wrap .u64 r0)) (IntKind.bits .u64))) &&& BitVec.ofInt (IntKind.bits .u64) (4294967295:Int))):Int))then
  if wrap .u64 (x1.1+Int.fdiv (wrap .u64 (y_*2^min (Int.toNat (wrap .u64 r0)) (IntKind.bits .u64))) ((2:Int)^min (32:Nat) (IntKind.bits .u64)))≥4294967296 then
   some (.inr (wrap .u64 (x1.2-1)))
  else
   some (.inl ((wrap .u64 (x1.1+Int.fdiv (wrap .u64 (y_*2^min (Int.toNat (wrap .u64 r0)) (IntKind.bits .u64))) ((2:Int)^min (32:Nat) (IntKind.bits .u64))),wrap .u64 (x1.2-1))))
  else
  some (.inr x1.2)
def y20 (hi lo y_ u10 r0 u62:Int):Option (Int × Int) :=
 if 0≤wrap .u64 r0 then
  some ((wrap .u64 (wrap .u64 (u10*4294967296)+u62),Int.fdiv (wrap .u64 (wrap .u64 (wrap .u64 (wrap .u64 (wrap .u64 (wrap .u64 (wrap .u64 (↑(BitVec.toNat (BitVec.ofInt (IntKind.bits .u64) (wrap .u64 (hi*2^min (Int.toNat (wrap .u64 r0)) (IntKind.bits .u64))) ||| BitVec.ofInt (IntKind.bits .u64) (Int.fdiv lo ((2:Int)^min (Int.toNat (wrap .u64 (64-wrap .u64 r0))) (IntKind.bits .u64))))):Int)*4294967296)+Int.fdiv (wrap .u64 (lo*2^min (Int.toNat (wrap .u64 r0)) (IntKind.bits .u64))) ((2:Int)^min (32:Nat) (IntKind.bits .u64)))-wrap .u64 (u10*wrap .u64 (y_*2^min (Int.toNat (wrap .u64 r0)) (IntKind.bits .u64))))*4294967296)+wrap .u64 (↑(BitVec.toNat (BitVec.ofInt (IntKind.bits .u64) (wrap .u64 (lo*2^min (Int.toNat (wrap .u64 r0)) (IntKind.bits .u64))) &&& BitVec.ofInt (IntKind.bits .u64) (4294967295:Int))):Int))-wrap .u64 (u62*wrap .u64 (y_*2^min (Int.toNat (wrap .u64 r0)) (IntKind.bits .u64))))) ((2:Int)^min (Int.toNat (wrap .u64 r0)) (IntKind.bits .u64))))
 else none
def y67 (hi lo y_ r0 u10:Int):Option (Int × Int) :=
 if Int.fdiv (wrap .u64 (y_*2^min (Int.toNat (wrap .u64 r0)) (IntKind.bits .u64))) ((2:Int)^min (32:Nat) (IntKind.bits .u64))≠(0:Int)then
  Option.bind (jae (y84 lo y_ r0) big ((wrap .u64 (wrap .u64 (wrap .u64 (wrap .u64 (wrap .u64 (↑(BitVec.toNat (BitVec.ofInt (IntKind.bits .u64) (wrap .u64 (hi*2^min (Int.toNat (wrap .u64 r0)) (IntKind.bits .u64))) ||| BitVec.ofInt (IntKind.bits .u64) (Int.fdiv lo ((2:Int)^min (Int.toNat (wrap .u64 (64-wrap .u64 r0))) (IntKind.bits .u64))))):Int)*4294967296)+Int.fdiv (wrap .u64 (lo*2^min (Int.toNat (wrap .u64 r0)) (IntKind.bits .u64))) ((2:Int)^min (32:Nat) (IntKind.bits .u64)))-wrap .u64 (u10*wrap .u64 (y_*2^min (Int.toNat (wrap .u64 r0)) (IntKind.bits .u64))))-wrap .u64 (wrap .u64 (Int.tdiv (wrap .u64 (wrap .u64 (wrap .u64 (wrap .u64 (↑(BitVec.toNat (BitVec.ofInt (IntKind.bits .u64) (wrap .u64 (hi*2^min (Int.toNat (wrap .u64 r0)) (IntKind.bits .u64))) ||| BitVec.ofInt (IntKind.bits .u64) (Int.fdiv lo ((2:Int)^min (Int.toNat (wrap .u64 (64-wrap .u64 r0))) (IntKind.bits .u64))))):Int)*4294967296)+Int.fdiv (wrap .u64 (lo*2^min (Int.toNat (wrap .u64 r0)) (IntKind.bits .u64))) ((2:Int)^min (32:Nat) (IntKind.bits .u64)))-wrap .u64 (u10*wrap .u64 (y_*2^min (Int.toNat (wrap .u64 r0)) (IntKind.bits .u64))))) (Int.fdiv (wrap .u64 (y_*2^min (Int.toNat (wrap .u64 r0)) (IntKind.bits .u64))) ((2:Int)^min (32:Nat) (IntKind.bits .u64))))*Int.fdiv (wrap .u64 (y_*2^min (Int.toNat (wrap .u64 r0)) (IntKind.bits .u64))) ((2:Int)^min (32:Nat) (IntKind.bits .u64)))),wrap .u64 (Int.tdiv (wrap .u64 (wrap .u64 (wrap .u64 (wrap .u64 (↑(BitVec.toNat (BitVec.ofInt (IntKind.bits .u64) (wrap .u64 (hi*2^min (Int.toNat (wrap .u64 r0)) (IntKind.bits .u64))) ||| BitVec.ofInt (IntKind.bits .u64) (Int.fdiv lo ((2:Int)^min (Int.toNat (wrap .u64 (64-wrap .u64 r0))) (IntKind.bits .u64))))):Int)*4294967296)+Int.fdiv (wrap .u64 (lo*2^min (Int.toNat (wrap .u64 r0)) (IntKind.bits .u64))) ((2:Int)^min (32:Nat) (IntKind.bits .u64)))-wrap .u64 (u10*wrap .u64 (y_*2^min (Int.toNat (wrap .u64 r0)) (IntKind.bits .u64))))) (Int.fdiv (wrap .u64 (y_*2^min (Int.toNat (wrap .u64 r0)) (IntKind.bits .u64))) ((2:Int)^min (32:Nat) (IntKind.bits .u64))))))) (y20 hi lo y_ u10 r0)
 else none
def y72 (hi lo y_:Int):Option (Int × Int) :=
 if(y_==0)=true then
  none   else
  if y_≤hi then
  none    else
  if(hi==0)=true then
   if y_≠(0:Int)then
   if y_≠(0:Int)then
    some ((wrap .u64 (Int.tdiv lo y_),Int.tmod lo y_))
   else none
   else none
  else
   Option.bind (y10 y_) fun r0 =>
   if 0≤wrap .u64 r0 then
   if 0≤wrap .u64 r0 then
    if 0≤wrap .u64 (64-wrap .u64 r0)then
    if 0≤wrap .u64 r0 then
     if Int.fdiv (wrap .u64 (y_*2^min (Int.toNat (wrap .u64 r0)) (IntKind.bits .u64))) ((2:Int)^min (32:Nat) (IntKind.bits .u64))≠(0:Int)then
     Option.bind (jae (y46 lo y_ r0) big ((wrap .u64 (Int.tdiv (wrap .u64 (↑(BitVec.toNat (BitVec.ofInt (IntKind.bits .u64) (wrap .u64 (hi*2^min (Int.toNat (wrap .u64 r0)) (IntKind.bits .u64))) ||| BitVec.ofInt (IntKind.bits .u64) (Int.fdiv lo ((2:Int)^min (Int.toNat (wrap .u64 (64-wrap .u64 r0))) (IntKind.bits .u64))))):Int)) (Int.fdiv (wrap .u64 (y_*2^min (Int.toNat (wrap .u64 r0)) (IntKind.bits .u64))) ((2:Int)^min (32:Nat) (IntKind.bits .u64)))),wrap .u64 (wrap .u64 (↑(BitVec.toNat (BitVec.ofInt (IntKind.bits .u64) (wrap .u64 (hi*2^min (Int.toNat (wrap .u64 r0)) (IntKind.bits .u64))) ||| BitVec.ofInt (IntKind.bits .u64) (Int.fdiv lo ((2:Int)^min (Int.toNat (wrap .u64 (64-wrap .u64 r0))) (IntKind.bits .u64))))):Int)-wrap .u64 (wrap .u64 (Int.tdiv (wrap .u64 (↑(BitVec.toNat (BitVec.ofInt (IntKind.bits .u64) (wrap .u64 (hi*2^min (Int.toNat (wrap .u64 r0)) (IntKind.bits .u64))) ||| BitVec.ofInt (IntKind.bits .u64) (Int.fdiv lo ((2:Int)^min (Int.toNat (wrap .u64 (64-wrap .u64 r0))) (IntKind.bits .u64))))):Int)) (Int.fdiv (wrap .u64 (y_*2^min (Int.toNat (wrap .u64 r0)) (IntKind.bits .u64))) ((2:Int)^min (32:Nat) (IntKind.bits .u64))))*Int.fdiv (wrap .u64 (y_*2^min (Int.toNat (wrap .u64 r0)) (IntKind.bits .u64))) ((2:Int)^min (32:Nat) (IntKind.bits .u64))))))) (y67 hi lo y_ r0)
     else none
    else none
    else none
   else none
   else none
def y171:List A→Option (Prop × List RV)
 |[.d (.i .u64 hi),.d (.i .u64 lo),.d (.i .u64 y_)]=>some (ok (y72 hi lo y_),[.d (.i .u64 ((val (y72 hi lo y_)).1)),.d (.i .u64 ((val (y72 hi lo y_)).2))])
 |_=>none
abbrev sp_127:jab→jab:=jas 127 true (jaq jfA y171)
private abbrev e0 (hi lo y_:Int):Int:=wrap .u64 (wrap .u64 (↑(BitVec.toNat (BitVec.ofInt (IntKind.bits .u64) (wrap .u64 (hi*2^min (Int.toNat (wrap .u64 (val (y10 y_)))) (IntKind.bits .u64))) ||| BitVec.ofInt (IntKind.bits .u64) (Int.fdiv lo ((2:Int)^min (Int.toNat (wrap .u64 (64-wrap .u64 (val (y10 y_))))) (IntKind.bits .u64))))):Int)*4294967296)+Int.fdiv (wrap .u64 (lo*2^min (Int.toNat (wrap .u64 (val (y10 y_)))) (IntKind.bits .u64))) ((2:Int)^min (32:Nat) (IntKind.bits .u64))
private abbrev e1 (y_:Int):Int:=wrap .u64 (y_*2^min (Int.toNat (wrap .u64 (val (y10 y_)))) (IntKind.bits .u64))
private abbrev e2 (y_:Int):Int:=wrap .u64 (val (y10 y_))
private abbrev e3  : Int:=(2:Int)^min (32:Nat) (IntKind.bits .u64)
private abbrev e4 (lo y_:Int):Int:=wrap .u64 (lo*2^min (Int.toNat (e2 y_)) (IntKind.bits .u64))
private abbrev e5 (y_:Int):Int:=val (y10 y_)
private abbrev e6 (lo y_:Int):Int:=Int.fdiv lo ((2:Int)^min (Int.toNat (wrap .u64 (64-wrap .u64 (e5 y_)))) (IntKind.bits .u64))
private abbrev e7 (hi y_:Int):Int:=wrap .u64 (hi*2^min (Int.toNat (e2 y_)) (IntKind.bits .u64))
private abbrev e8 (hi lo y_:Int):Int:=wrap .u64 (↑(BitVec.toNat (BitVec.ofInt (IntKind.bits .u64) (e7 hi y_) ||| BitVec.ofInt (IntKind.bits .u64) (e6 lo y_))):Int)
private abbrev e9 (y_:Int):Int:=(2:Int)^min (Int.toNat (e2 y_)) (IntKind.bits .u64)
abbrev jn3 (lo y_:Int):=(↑(BitVec.toNat (BitVec.ofInt (IntKind.bits .u64) (e4 lo y_) &&& BitVec.ofInt (IntKind.bits .u64) (4294967295:Int))):Int)
abbrev jcw (y_:Int):=(y_*2^min (Int.toNat (e2 y_)) (IntKind.bits .u64))
abbrev jqV (y_:Int):=(↑(BitVec.toNat (BitVec.ofInt (IntKind.bits .u64) (e1 y_) &&& BitVec.ofInt (IntKind.bits .u64) (4294967295:Int))):Int)
abbrev jla (hi lo y_:Int) (v1:Int × (Int × Int) × Nat):=(wrap .u64 (wrap .u64 (wrap .u64 (wrap .u64 (wrap .u64 (e0 hi lo y_)-wrap .u64 (v1.1*wrap .u64 (jcw y_)))*4294967296)+wrap .u64 (jn3 lo y_))-wrap .u64 (wrap .u64 (v1.2.1.2-1)*wrap .u64 (jcw y_))))
abbrev jlb (hi lo y_:Int) (v1 v2:Int × (Int × Int) × Nat):=(wrap .u64 (wrap .u64 (e0 hi lo y_)-wrap .u64 (v1.1*wrap .u64 (jcw y_)))=wrap .u64 (wrap .u64 (e0 hi lo y_)-wrap .u64 (v2.1*wrap .u64 (jcw y_))))
abbrev jgS (hi lo y_:Int) (v0:(Int × Int) × Nat):=(wrap .u64 (e0 hi lo y_)-wrap .u64 (wrap .u64 (v0.1.1-1)*wrap .u64 (jcw y_)))
abbrev jiN (hi lo y_:Int):=(↑(BitVec.toNat (BitVec.ofInt (IntKind.bits .u64) (e7 hi y_) ||| BitVec.ofInt (IntKind.bits .u64) (e6 lo y_))):Int)
abbrev jdy (lo y_:Int):=(wrap .u64 (jn3 lo y_)=wrap .u64 (jn3 lo y_))
abbrev jdz (y_:Int):=(wrap .u64 (jcw y_)=wrap .u64 (jcw y_))
abbrev jdA (y_:Int):=(wrap .u64 (jqV y_)=wrap .u64 (jqV y_))
abbrev jcP (y_:Int):=(wrap .u64 (e5 y_)=wrap .u64 (e5 y_))
abbrev jsw (hi lo y_:Int) (v1:Int × (Int × Int) × Nat):=(wrap .u64 (wrap .u64 (wrap .u64 (wrap .u64 (wrap .u64 (e0 hi lo y_)-wrap .u64 (v1.1*wrap .u64 (jcw y_)))*4294967296)+wrap .u64 (jn3 lo y_))-wrap .u64 (v1.2.1.2*wrap .u64 (jcw y_))))
abbrev jcQ (y_:Int):=(Int.fdiv (e1 y_) (e3 )=Int.fdiv (e1 y_) (e3 ))
abbrev jhM (v1:Int × (Int × Int) × Nat):=(wrap .u64 (v1.1*4294967296)+wrap .u64 (v1.2.1.2-1))
abbrev jcR (y_:Int):=(0≤wrap .u64 (e5 y_))
abbrev jhN (y_:Int) (v1:Int × (Int × Int) × Nat):=(decide (wrap .u64 (v1.2.1.1+Int.fdiv (e1 y_) (e3 ))≥4294967296))
abbrev jsx (lo y_:Int) (v1:Int × (Int × Int) × Nat):=(decide (wrap .u64 (v1.2.1.2*wrap .u64 (jqV y_))>wrap .u64 (wrap .u64 (4294967296*v1.2.1.1)+wrap .u64 (jn3 lo y_))))
abbrev jcS (lo y_:Int):=(y84 lo y_ (e5 y_))
theorem jkG (hi lo y_:Int) (r:Int × Int) (h:Option.bind (y72 hi lo y_) some=some r):ja6 Tryz.f127 ((sp_150 sp0)) (fun gs id _=>match id with
 |0=>some ⟨(Int × Int) × Nat,fun z=>⟨[(2,.w (.c (.d (.i .u64 (e1 y_))))),(8,.w (.c (.d (.i .u64 (e2 y_))))),(9,.w (.c (.d (.i .u64 (Int.fdiv (e1 y_) (e3 )))))),(10,.w (.c (.d (.i .u64 (wrap .u64 (↑(BitVec.toNat (BitVec.ofInt (IntKind.bits .u64) (e1 y_) &&& BitVec.ofInt (IntKind.bits .u64) (4294967295:Int))):Int)))))),(11,.w (.c (.d (.i .u64 (e8 hi lo y_))))),(13,.w (.c (.d (.i .u64 (Int.fdiv (e4 lo y_) (e3 )))))),(14,.w (.c (.d (.i .u64 (wrap .u64 (↑(BitVec.toNat (BitVec.ofInt (IntKind.bits .u64) (e4 lo y_) &&& BitVec.ofInt (IntKind.bits .u64) (4294967295:Int))):Int)))))),(15,.w (.c (.d (.i .u64 (Prod.fst (Prod.fst z)))))),(16,.w (.c (.d (.i .u64 (Prod.snd (Prod.fst z))))))],[],3⟩,fun z=>Option.bind (jae (y46 lo y_ (e5 y_)) (Prod.snd z) (Prod.fst z)) (fun y0=>Option.bind (y67 hi lo y_ (e5 y_) y0) some)=some r,fun z=>Prod.snd z⟩
 |2=>some ⟨Int × (Int × Int) × Nat,fun z=>⟨[(2,.w (.c (.d (.i .u64 (e1 y_))))),(8,.w (.c (.d (.i .u64 (e2 y_))))),(9,.w (.c (.d (.i .u64 (Int.fdiv (e1 y_) (e3 )))))),(10,.w (.c (.d (.i .u64 (wrap .u64 (↑(BitVec.toNat (BitVec.ofInt (IntKind.bits .u64) (e1 y_) &&& BitVec.ofInt (IntKind.bits .u64) (4294967295:Int))):Int)))))),(14,.w (.c (.d (.i .u64 (wrap .u64 (↑(BitVec.toNat (BitVec.ofInt (IntKind.bits .u64) (e4 lo y_) &&& BitVec.ofInt (IntKind.bits .u64) (4294967295:Int))):Int)))))),(15,.w (.c (.d (.i .u64 (Prod.fst z))))),(16,.w (.c (.d (.i .u64 (Prod.fst (Prod.fst (Prod.snd z))))))),(17,.w (.c (.d (.i .u64 (wrap .u64 (wrap .u64 (e0 hi lo y_)-wrap .u64 (Prod.fst z*wrap .u64 (y_*2^min (Int.toNat (e2 y_)) (IntKind.bits .u64))))))))),(18,.w (.c (.d (.i .u64 (Prod.snd (Prod.fst (Prod.snd z)))))))],[],3⟩,fun z=>Option.bind (jae (y84 lo y_ (e5 y_)) (Prod.snd (Prod.snd z)) (Prod.fst (Prod.snd z))) (fun y0=>Option.bind (y20 hi lo y_ (Prod.fst z) (e5 y_) y0) some)=some r,fun z=>Prod.snd (Prod.snd z)⟩
 |_=>none) [.d (.i .u64 hi),.d (.i .u64 lo),.d (.i .u64 y_)] [.d (.i .u64 r.1),.d (.i .u64 r.2)]:=by
 refine Eq.mp (by kernel_rfl:(
 Br (y_==0)
  (False)
 (Br (decide (y_≤hi))
  (False)
 (Br (hi==0)
  ((Ob (y_≠(0:Int)) ∧
 (Ob (y_≠(0:Int)) ∧
 (Ob True ∧
 (Ob True ∧
 (Ob (wrap .u64 (Int.tdiv lo y_)=r.1) ∧
 (Ob (Int.tmod lo y_=r.2) ∧
 True)))))))
  ((Ob (ok (y10 y_)) ∧
 (Ob True ∧
 (Ob (jcR y_) ∧
 (Ob ((0:Int)≤32) ∧
 (Ob (jcR y_) ∧
 (Ob (0≤wrap .u64 (64-wrap .u64 (e5 y_))) ∧
 (Ob (jcR y_) ∧
 (Ob ((0:Int)≤32) ∧
 (Ob (Int.fdiv (e1 y_) (e3 )≠(0:Int)) ∧
  ((∃(v0:(Int × Int) × Nat),(Ob ((Option.bind (jae (y46 lo y_ (e5 y_)) v0.2 v0.1) fun y0=>Option.bind (y67 hi lo y_ (e5 y_) y0) some)=some r) ∧
 (Ob (jdz y_) ∧
 (Ob (jcP y_) ∧
 (Ob (jcQ y_) ∧
 (Ob (jdA y_) ∧
 (Ob (wrap .u64 (jiN hi lo y_)=wrap .u64 (jiN hi lo y_)) ∧
 (Ob (Int.fdiv (e4 lo y_) (e3 )=Int.fdiv (e4 lo y_) (e3 )) ∧
 (Ob (jdy lo y_) ∧
 (Ob (wrap .u64 (Int.tdiv (e8 hi lo y_) (Int.fdiv (e1 y_) (e3 )))=v0.1.1) ∧
 (Ob (wrap .u64 (wrap .u64 (jiN hi lo y_)-wrap .u64 (wrap .u64 (Int.tdiv (e8 hi lo y_) (Int.fdiv (e1 y_) (e3 )))*Int.fdiv (e1 y_) (e3 )))=v0.1.2) ∧
 True))))))))))) ∧
  (∀(v0:(Int × Int) × Nat),((Option.bind (jae (y46 lo y_ (e5 y_)) v0.2 v0.1) fun y0=>Option.bind (y67 hi lo y_ (e5 y_) y0) some)=some r →
 Br (decide (v0.1.1≥4294967296))
 (Br (decide (wrap .u64 (v0.1.2+Int.fdiv (e1 y_) (e3 ))≥4294967296))
  ((Ob (Int.fdiv (e1 y_) (e3 )≠(0:Int)) ∧
  ((∃(v1:Int × (Int × Int) × Nat),(Ob ((Option.bind (jae (jcS lo y_) v1.2.2 v1.2.1) fun y0=>Option.bind (y20 hi lo y_ v1.1 (e5 y_) y0) some)=some r) ∧
 (Ob (jdz y_) ∧
 (Ob (jcP y_) ∧
 (Ob (jcQ y_) ∧
 (Ob (jdA y_) ∧
 (Ob (jdy lo y_) ∧
 (Ob (wrap .u64 (v0.1.1-1)=v1.1) ∧
 (Ob (wrap .u64 (wrap .u64 (jgS hi lo y_ v0)-wrap .u64 (wrap .u64 (Int.tdiv (wrap .u64 (jgS hi lo y_ v0)) (Int.fdiv (e1 y_) (e3 )))*Int.fdiv (e1 y_) (e3 )))=v1.2.1.1) ∧
 (Ob (wrap .u64 (jgS hi lo y_ v0)=wrap .u64 (wrap .u64 (e0 hi lo y_)-wrap .u64 (v1.1*wrap .u64 (jcw y_)))) ∧
 (Ob (wrap .u64 (Int.tdiv (wrap .u64 (jgS hi lo y_ v0)) (Int.fdiv (e1 y_) (e3 )))=v1.2.1.2) ∧
 True))))))))))) ∧
  (∀(v1:Int × (Int × Int) × Nat),((Option.bind (jae (jcS lo y_) v1.2.2 v1.2.1) fun y0=>Option.bind (y20 hi lo y_ v1.1 (e5 y_) y0) some)=some r →
 Br (decide (v1.2.1.2≥4294967296))
 (Br (jhN y_ v1)
  ((Ob (jcR y_) ∧
 (Ob True ∧
 (Ob True ∧
 (Ob (wrap .u64 (jhM v1)=r.1) ∧
 (Ob (Int.fdiv (jla hi lo y_ v1) (e9 y_)=r.2) ∧
 True))))))
  ((∃(v2:Int × (Int × Int) × Nat),(Ob ((Option.bind (jae (jcS lo y_) v2.2.2 v2.2.1) fun y0=>Option.bind (y20 hi lo y_ v2.1 (e5 y_) y0) some)=some r) ∧
 (Ob (v2.2.2<v1.2.2) ∧
 (Ob (jdz y_) ∧
 (Ob (jcP y_) ∧
 (Ob (jcQ y_) ∧
 (Ob (jdA y_) ∧
 (Ob (jdy lo y_) ∧
 (Ob (v1.1=v2.1) ∧
 (Ob (wrap .u64 (v1.2.1.1+Int.fdiv (e1 y_) (e3 ))=v2.2.1.1) ∧
 (Ob (jlb hi lo y_ v1 v2) ∧
 (Ob (wrap .u64 (v1.2.1.2-1)=v2.2.1.2) ∧
 True))))))))))))))
 (Br (jsx lo y_ v1)
 (Br (jhN y_ v1)
  ((Ob (jcR y_) ∧
 (Ob True ∧
 (Ob True ∧
 (Ob (wrap .u64 (jhM v1)=r.1) ∧
 (Ob (Int.fdiv (jla hi lo y_ v1) (e9 y_)=r.2) ∧
 True))))))
  ((∃(v2:Int × (Int × Int) × Nat),(Ob ((Option.bind (jae (jcS lo y_) v2.2.2 v2.2.1) fun y0=>Option.bind (y20 hi lo y_ v2.1 (e5 y_) y0) some)=some r) ∧
 (Ob (v2.2.2<v1.2.2) ∧
 (Ob (jdz y_) ∧
 (Ob (jcP y_) ∧
 (Ob (jcQ y_) ∧
 (Ob (jdA y_) ∧
 (Ob (jdy lo y_) ∧
 (Ob (v1.1=v2.1) ∧
 (Ob (wrap .u64 (v1.2.1.1+Int.fdiv (e1 y_) (e3 ))=v2.2.1.1) ∧
 (Ob (jlb hi lo y_ v1 v2) ∧
 (Ob (wrap .u64 (v1.2.1.2-1)=v2.2.1.2) ∧
 True))))))))))))))
  ((Ob (jcR y_) ∧
 (Ob True ∧
 (Ob True ∧
 (Ob (wrap .u64 (wrap .u64 (v1.1*4294967296)+v1.2.1.2)=r.1) ∧
 (Ob (Int.fdiv (jsw hi lo y_ v1) (e9 y_)=r.2) ∧
 True))))))))))))
  ((∃(v1a:(Int × Int) × Nat),(Ob ((Option.bind (jae (y46 lo y_ (e5 y_)) v1a.2 v1a.1) fun y0=>Option.bind (y67 hi lo y_ (e5 y_) y0) some)=some r) ∧
 (Ob (v1a.2<v0.2) ∧
 (Ob (jdz y_) ∧
 (Ob (jcP y_) ∧
 (Ob (jcQ y_) ∧
 (Ob (jdA y_) ∧
 (Ob (wrap .u64 (jiN hi lo y_)=wrap .u64 (jiN hi lo y_)) ∧
 (Ob (Int.fdiv (e4 lo y_) (e3 )=Int.fdiv (e4 lo y_) (e3 )) ∧
 (Ob (jdy lo y_) ∧
 (Ob (wrap .u64 (v0.1.1-1)=v1a.1.1) ∧
 (Ob (wrap .u64 (v0.1.2+Int.fdiv (e1 y_) (e3 ))=v1a.1.2) ∧
 True))))))))))))))
 (Br (decide (wrap .u64 (v0.1.1*wrap .u64 (jqV y_))>wrap .u64 (wrap .u64 (4294967296*v0.1.2)+Int.fdiv (e4 lo y_) (e3 ))))
 (Br (decide (wrap .u64 (v0.1.2+Int.fdiv (e1 y_) (e3 ))≥4294967296))
  ((Ob (Int.fdiv (e1 y_) (e3 )≠(0:Int)) ∧
  ((∃(v1:Int × (Int × Int) × Nat),(Ob ((Option.bind (jae (jcS lo y_) v1.2.2 v1.2.1) fun y0=>Option.bind (y20 hi lo y_ v1.1 (e5 y_) y0) some)=some r) ∧
 (Ob (jdz y_) ∧
 (Ob (jcP y_) ∧
 (Ob (jcQ y_) ∧
 (Ob (jdA y_) ∧
 (Ob (jdy lo y_) ∧
 (Ob (wrap .u64 (v0.1.1-1)=v1.1) ∧
 (Ob (wrap .u64 (wrap .u64 (jgS hi lo y_ v0)-wrap .u64 (wrap .u64 (Int.tdiv (wrap .u64 (jgS hi lo y_ v0)) (Int.fdiv (e1 y_) (e3 )))*Int.fdiv (e1 y_) (e3 )))=v1.2.1.1) ∧
 (Ob (wrap .u64 (jgS hi lo y_ v0)=wrap .u64 (wrap .u64 (e0 hi lo y_)-wrap .u64 (v1.1*wrap .u64 (jcw y_)))) ∧
 (Ob (wrap .u64 (Int.tdiv (wrap .u64 (jgS hi lo y_ v0)) (Int.fdiv (e1 y_) (e3 )))=v1.2.1.2) ∧
 True))))))))))) ∧
  (∀(v1:Int × (Int × Int) × Nat),((Option.bind (jae (jcS lo y_) v1.2.2 v1.2.1) fun y0=>Option.bind (y20 hi lo y_ v1.1 (e5 y_) y0) some)=some r →
 Br (decide (v1.2.1.2≥4294967296))
 (Br (jhN y_ v1)
  ((Ob (jcR y_) ∧
 (Ob True ∧
 (Ob True ∧
 (Ob (wrap .u64 (jhM v1)=r.1) ∧
 (Ob (Int.fdiv (jla hi lo y_ v1) (e9 y_)=r.2) ∧
 True))))))
  ((∃(v2:Int × (Int × Int) × Nat),(Ob ((Option.bind (jae (jcS lo y_) v2.2.2 v2.2.1) fun y0=>Option.bind (y20 hi lo y_ v2.1 (e5 y_) y0) some)=some r) ∧
 (Ob (v2.2.2<v1.2.2) ∧
 (Ob (jdz y_) ∧
 (Ob (jcP y_) ∧
 (Ob (jcQ y_) ∧
 (Ob (jdA y_) ∧
 (Ob (jdy lo y_) ∧
 (Ob (v1.1=v2.1) ∧
 (Ob (wrap .u64 (v1.2.1.1+Int.fdiv (e1 y_) (e3 ))=v2.2.1.1) ∧
 (Ob (jlb hi lo y_ v1 v2) ∧
 (Ob (wrap .u64 (v1.2.1.2-1)=v2.2.1.2) ∧
 True))))))))))))))
 (Br (jsx lo y_ v1)
 (Br (jhN y_ v1)
  ((Ob (jcR y_) ∧
 (Ob True ∧
 (Ob True ∧
 (Ob (wrap .u64 (jhM v1)=r.1) ∧
 (Ob (Int.fdiv (jla hi lo y_ v1) (e9 y_)=r.2) ∧
 True))))))
  ((∃(v2:Int × (Int × Int) × Nat),(Ob ((Option.bind (jae (jcS lo y_) v2.2.2 v2.2.1) fun y0=>Option.bind (y20 hi lo y_ v2.1 (e5 y_) y0) some)=some r) ∧
 (Ob (v2.2.2<v1.2.2) ∧
 (Ob (jdz y_) ∧
 (Ob (jcP y_) ∧
 (Ob (jcQ y_) ∧
 (Ob (jdA y_) ∧
 (Ob (jdy lo y_) ∧
 (Ob (v1.1=v2.1) ∧
 (Ob (wrap .u64 (v1.2.1.1+Int.fdiv (e1 y_) (e3 ))=v2.2.1.1) ∧
 (Ob (jlb hi lo y_ v1 v2) ∧
 (Ob (wrap .u64 (v1.2.1.2-1)=v2.2.1.2) ∧
 True))))))))))))))
  ((Ob (jcR y_) ∧
 (Ob True ∧
 (Ob True ∧
 (Ob (wrap .u64 (wrap .u64 (v1.1*4294967296)+v1.2.1.2)=r.1) ∧
 (Ob (Int.fdiv (jsw hi lo y_ v1) (e9 y_)=r.2) ∧
 True))))))))))))
  ((∃(v1a:(Int × Int) × Nat),(Ob ((Option.bind (jae (y46 lo y_ (e5 y_)) v1a.2 v1a.1) fun y0=>Option.bind (y67 hi lo y_ (e5 y_) y0) some)=some r) ∧
 (Ob (v1a.2<v0.2) ∧
 (Ob (jdz y_) ∧
 (Ob (jcP y_) ∧
 (Ob (jcQ y_) ∧
 (Ob (jdA y_) ∧
 (Ob (wrap .u64 (jiN hi lo y_)=wrap .u64 (jiN hi lo y_)) ∧
 (Ob (Int.fdiv (e4 lo y_) (e3 )=Int.fdiv (e4 lo y_) (e3 )) ∧
 (Ob (jdy lo y_) ∧
 (Ob (wrap .u64 (v0.1.1-1)=v1a.1.1) ∧
 (Ob (wrap .u64 (v0.1.2+Int.fdiv (e1 y_) (e3 ))=v1a.1.2) ∧
 True))))))))))))))
  ((Ob (Int.fdiv (e1 y_) (e3 )≠(0:Int)) ∧
  ((∃(v1:Int × (Int × Int) × Nat),(Ob ((Option.bind (jae (jcS lo y_) v1.2.2 v1.2.1) fun y0=>Option.bind (y20 hi lo y_ v1.1 (e5 y_) y0) some)=some r) ∧
 (Ob (jdz y_) ∧
 (Ob (jcP y_) ∧
 (Ob (jcQ y_) ∧
 (Ob (jdA y_) ∧
 (Ob (jdy lo y_) ∧
 (Ob (v0.1.1=v1.1) ∧
 (Ob (wrap .u64 (wrap .u64 (wrap .u64 (e0 hi lo y_)-wrap .u64 (v0.1.1*wrap .u64 (jcw y_)))-wrap .u64 (wrap .u64 (Int.tdiv (wrap .u64 (wrap .u64 (e0 hi lo y_)-wrap .u64 (v0.1.1*wrap .u64 (jcw y_)))) (Int.fdiv (e1 y_) (e3 )))*Int.fdiv (e1 y_) (e3 )))=v1.2.1.1) ∧
 (Ob (wrap .u64 (wrap .u64 (e0 hi lo y_)-wrap .u64 (v0.1.1*wrap .u64 (jcw y_)))=wrap .u64 (wrap .u64 (e0 hi lo y_)-wrap .u64 (v1.1*wrap .u64 (jcw y_)))) ∧
 (Ob (wrap .u64 (Int.tdiv (wrap .u64 (wrap .u64 (e0 hi lo y_)-wrap .u64 (v0.1.1*wrap .u64 (jcw y_)))) (Int.fdiv (e1 y_) (e3 )))=v1.2.1.2) ∧
 True))))))))))) ∧
  (∀(v1:Int × (Int × Int) × Nat),((Option.bind (jae (jcS lo y_) v1.2.2 v1.2.1) fun y0=>Option.bind (y20 hi lo y_ v1.1 (e5 y_) y0) some)=some r →
 Br (decide (v1.2.1.2≥4294967296))
 (Br (jhN y_ v1)
  ((Ob (jcR y_) ∧
 (Ob True ∧
 (Ob True ∧
 (Ob (wrap .u64 (jhM v1)=r.1) ∧
 (Ob (Int.fdiv (jla hi lo y_ v1) (e9 y_)=r.2) ∧
 True))))))
  ((∃(v2:Int × (Int × Int) × Nat),(Ob ((Option.bind (jae (jcS lo y_) v2.2.2 v2.2.1) fun y0=>Option.bind (y20 hi lo y_ v2.1 (e5 y_) y0) some)=some r) ∧
 (Ob (v2.2.2<v1.2.2) ∧
 (Ob (jdz y_) ∧
 (Ob (jcP y_) ∧
 (Ob (jcQ y_) ∧
 (Ob (jdA y_) ∧
 (Ob (jdy lo y_) ∧
 (Ob (v1.1=v2.1) ∧
 (Ob (wrap .u64 (v1.2.1.1+Int.fdiv (e1 y_) (e3 ))=v2.2.1.1) ∧
 (Ob (jlb hi lo y_ v1 v2) ∧
 (Ob (wrap .u64 (v1.2.1.2-1)=v2.2.1.2) ∧
 True))))))))))))))
 (Br (jsx lo y_ v1)
 (Br (jhN y_ v1)
  ((Ob (jcR y_) ∧
 (Ob True ∧
 (Ob True ∧
 (Ob (wrap .u64 (jhM v1)=r.1) ∧
 (Ob (Int.fdiv (jla hi lo y_ v1) (e9 y_)=r.2) ∧
 True))))))
  ((∃(v2:Int × (Int × Int) × Nat),(Ob ((Option.bind (jae (jcS lo y_) v2.2.2 v2.2.1) fun y0=>Option.bind (y20 hi lo y_ v2.1 (e5 y_) y0) some)=some r) ∧
 (Ob (v2.2.2<v1.2.2) ∧
 (Ob (jdz y_) ∧
 (Ob (jcP y_) ∧
 (Ob (jcQ y_) ∧
 (Ob (jdA y_) ∧
 (Ob (jdy lo y_) ∧
 (Ob (v1.1=v2.1) ∧
 (Ob (wrap .u64 (v1.2.1.1+Int.fdiv (e1 y_) (e3 ))=v2.2.1.1) ∧
 (Ob (jlb hi lo y_ v1 v2) ∧
 (Ob (wrap .u64 (v1.2.1.2-1)=v2.2.1.2) ∧
 True))))))))))))))
  ((Ob (jcR y_) ∧
 (Ob True ∧
 (Ob True ∧
 (Ob (wrap .u64 (wrap .u64 (v1.1*4294967296)+v1.2.1.2)=r.1) ∧
 (Ob (Int.fdiv (jsw hi lo y_ v1) (e9 y_)=r.2) ∧
 True)))))))))))))))))))))))))))))=_) ?_
 refine jaV h (fun h=>?_) (fun h=>?_)
 ·exact nomatch h
 ·refine jaT h (fun h=>?_) (fun h=>?_)
  ·exact nomatch h
  ·refine jaV h (fun h=>?_) (fun h=>?_)
   ·refine jat h fun h=>?_
    refine jat h fun h=>?_
    refine jad ?_
    refine jad ?_
    exact rcs h
   ·refine jav h fun h=>?_
    refine jad ?_
    refine jat h fun h=>?_
    refine jf9 (p:=(0:Int)≤32) (by decide) ?_
    refine jat h fun h=>?_
    refine jat h fun h=>?_
    refine jat h fun h=>?_
    refine jf9 (p:=(0:Int)≤32) (by decide) ?_
    refine jat h fun h=>?_
    refine⟨⟨((wrap .u64 (Int.tdiv (e8 hi lo y_) (Int.fdiv (e1 y_) (e3 ))),wrap .u64 (wrap .u64 (↑(BitVec.toNat (BitVec.ofInt (IntKind.bits .u64) (e7 hi y_) ||| BitVec.ofInt (IntKind.bits .u64) (e6 lo y_))):Int)-wrap .u64 (wrap .u64 (Int.tdiv (e8 hi lo y_) (Int.fdiv (e1 y_) (e3 )))*Int.fdiv (e1 y_) (e3 )))),big),⟨jbe h⟩,(by repeat' constructor)⟩,fun z1 hz1=>?_⟩
    obtain⟨k1,hm1,h⟩:=jaU hz1
    refine jaT h (fun h=>?_) (fun h=>?_)
    ·refine jaT h (fun h=>?_) (fun h=>?_)
     ·have h:=jaC h
      refine jat h fun h=>?_
      refine⟨⟨(wrap .u64 ((Prod.fst z1).1-1),(wrap .u64 (wrap .u64 (wrap .u64 (e0 hi lo y_)-wrap .u64 (wrap .u64 ((Prod.fst z1).1-1)*wrap .u64 (y_*2^min (Int.toNat (e2 y_)) (IntKind.bits .u64))))-wrap .u64 (wrap .u64 (Int.tdiv (wrap .u64 (wrap .u64 (e0 hi lo y_)-wrap .u64 (wrap .u64 ((Prod.fst z1).1-1)*wrap .u64 (y_*2^min (Int.toNat (e2 y_)) (IntKind.bits .u64))))) (Int.fdiv (e1 y_) (e3 )))*Int.fdiv (e1 y_) (e3 ))),wrap .u64 (Int.tdiv (wrap .u64 (wrap .u64 (e0 hi lo y_)-wrap .u64 (wrap .u64 ((Prod.fst z1).1-1)*wrap .u64 (y_*2^min (Int.toNat (e2 y_)) (IntKind.bits .u64))))) (Int.fdiv (e1 y_) (e3 )))),big),⟨jbe h⟩,(by repeat' constructor)⟩,fun z2 hz2=>?_⟩
      obtain⟨k2,hm2,h⟩:=jaU hz2
      refine jaT h (fun h=>?_) (fun h=>?_)
      ·refine jaT h (fun h=>?_) (fun h=>?_)
       ·have h:=jaC h
        refine jat h fun h=>?_
        refine jad ?_
        refine jad ?_
        exact rcs h
       ·exact⟨(Prod.fst z2,_,k2),⟨jaQ h⟩,⟨ja0 hm2.symm⟩,(by repeat' constructor)⟩
      ·refine jaT h (fun h=>?_) (fun h=>?_)
       ·refine jaT h (fun h=>?_) (fun h=>?_)
        ·have h:=jaC h
         refine jat h fun h=>?_
         refine jad ?_
         refine jad ?_
         exact rcs h
        ·exact⟨(Prod.fst z2,_,k2),⟨jaQ h⟩,⟨ja0 hm2.symm⟩,(by repeat' constructor)⟩
       ·have h:=jaC h
        refine jat h fun h=>?_
        refine jad ?_
        refine jad ?_
        exact rcs h
     ·exact⟨(_,k1),⟨jaQ h⟩,⟨ja0 hm1.symm⟩,(by repeat' constructor)⟩
    ·refine jaT h (fun h=>?_) (fun h=>?_)
     ·refine jaT h (fun h=>?_) (fun h=>?_)
      ·have h:=jaC h
       refine jat h fun h=>?_
       refine⟨⟨(wrap .u64 ((Prod.fst z1).1-1),(wrap .u64 (wrap .u64 (wrap .u64 (e0 hi lo y_)-wrap .u64 (wrap .u64 ((Prod.fst z1).1-1)*wrap .u64 (y_*2^min (Int.toNat (e2 y_)) (IntKind.bits .u64))))-wrap .u64 (wrap .u64 (Int.tdiv (wrap .u64 (wrap .u64 (e0 hi lo y_)-wrap .u64 (wrap .u64 ((Prod.fst z1).1-1)*wrap .u64 (y_*2^min (Int.toNat (e2 y_)) (IntKind.bits .u64))))) (Int.fdiv (e1 y_) (e3 )))*Int.fdiv (e1 y_) (e3 ))),wrap .u64 (Int.tdiv (wrap .u64 (wrap .u64 (e0 hi lo y_)-wrap .u64 (wrap .u64 ((Prod.fst z1).1-1)*wrap .u64 (y_*2^min (Int.toNat (e2 y_)) (IntKind.bits .u64))))) (Int.fdiv (e1 y_) (e3 )))),big),⟨jbe h⟩,(by repeat' constructor)⟩,fun z3 hz3=>?_⟩
       obtain⟨k3,hm3,h⟩:=jaU hz3
       refine jaT h (fun h=>?_) (fun h=>?_)
       ·refine jaT h (fun h=>?_) (fun h=>?_)
        ·have h:=jaC h
         refine jat h fun h=>?_
         refine jad ?_
         refine jad ?_
         exact rcs h
        ·exact⟨(Prod.fst z3,_,k3),⟨jaQ h⟩,⟨ja0 hm3.symm⟩,(by repeat' constructor)⟩
       ·refine jaT h (fun h=>?_) (fun h=>?_)
        ·refine jaT h (fun h=>?_) (fun h=>?_)
         ·have h:=jaC h
          refine jat h fun h=>?_
          refine jad ?_
          refine jad ?_
          exact rcs h
         ·exact⟨(Prod.fst z3,_,k3),⟨jaQ h⟩,⟨ja0 hm3.symm⟩,(by repeat' constructor)⟩
        ·have h:=jaC h
         refine jat h fun h=>?_
         refine jad ?_
         refine jad ?_
         exact rcs h
      ·exact⟨(_,k1),⟨jaQ h⟩,⟨ja0 hm1.symm⟩,(by repeat' constructor)⟩
     ·have h:=jaC h
      refine jat h fun h=>?_
      refine⟨⟨((Prod.fst z1).1,(wrap .u64 (wrap .u64 (wrap .u64 (e0 hi lo y_)-wrap .u64 ((Prod.fst z1).1*wrap .u64 (y_*2^min (Int.toNat (e2 y_)) (IntKind.bits .u64))))-wrap .u64 (wrap .u64 (Int.tdiv (wrap .u64 (wrap .u64 (e0 hi lo y_)-wrap .u64 ((Prod.fst z1).1*wrap .u64 (y_*2^min (Int.toNat (e2 y_)) (IntKind.bits .u64))))) (Int.fdiv (e1 y_) (e3 )))*Int.fdiv (e1 y_) (e3 ))),wrap .u64 (Int.tdiv (wrap .u64 (wrap .u64 (e0 hi lo y_)-wrap .u64 ((Prod.fst z1).1*wrap .u64 (y_*2^min (Int.toNat (e2 y_)) (IntKind.bits .u64))))) (Int.fdiv (e1 y_) (e3 )))),big),⟨jbe h⟩,(by repeat' constructor)⟩,fun z4 hz4=>?_⟩
      obtain⟨k4,hm4,h⟩:=jaU hz4
      refine jaT h (fun h=>?_) (fun h=>?_)
      ·refine jaT h (fun h=>?_) (fun h=>?_)
       ·have h:=jaC h
        refine jat h fun h=>?_
        refine jad ?_
        refine jad ?_
        exact rcs h
       ·exact⟨(Prod.fst z4,_,k4),⟨jaQ h⟩,⟨ja0 hm4.symm⟩,(by repeat' constructor)⟩
      ·refine jaT h (fun h=>?_) (fun h=>?_)
       ·refine jaT h (fun h=>?_) (fun h=>?_)
        ·have h:=jaC h
         refine jat h fun h=>?_
         refine jad ?_
         refine jad ?_
         exact rcs h
        ·exact⟨(Prod.fst z4,_,k4),⟨jaQ h⟩,⟨ja0 hm4.symm⟩,(by repeat' constructor)⟩
       ·have h:=jaC h
        refine jat h fun h=>?_
        refine jad ?_
        refine jad ?_
        exact rcs h
theorem jkH:jah Tryz.prog 127 true (jaq jfA y171):=by
 refine jaw (sp:=(sp_150 sp0)) (fn:=Tryz.f127) (body:=jai Tryz.f127) mixed (sp_150_ok jak) Tryz.func127 (by kernel_rfl) (by kernel_rfl) fun as_ ob rs h ho=>?_
 unfold y171 at h
 split at h
 ·rename_i hi lo y_
  cases h
  exact⟨Nat.le_of_ble_eq_true rfl,_,_,jkG hi lo y_ _ (jaj ho)⟩
 ·cases h
theorem sp_127_ok {sp:jab} (h:jac Tryz.prog sp):jac Tryz.prog (sp_127 sp):=jag jkH h
def y154:List SV:=[.c (.d),.c (.d),.c (.p [.p [.d,.r (.floats .f32 []),.d,.d,.r (.recs 2 []),.r (.recs 2 [])]])]
def y21 (u66 u67 u18:Int) (u19:List Nat) (u20 u21:Int) (u22 u23:List (List Int)):Option (Int × Bool) :=
 Option.bind (y6 (wrap .u64 u66) (1000000:Int)) fun r0 =>
 Option.bind (y72 (wrap .u64 (wrap .u64 (wrap .u64 (Int.fdiv (wrap .u64 u66) ((2:Int)^min (32:Nat) (IntKind.bits .u64))*Int.fdiv (1000000:Int) ((2:Int)^min (32:Nat) (IntKind.bits .u64)))+Int.fdiv (wrap .u64 (wrap .u64 (Int.fdiv (wrap .u64 u66) ((2:Int)^min (32:Nat) (IntKind.bits .u64))*wrap .u64 (↑(BitVec.toNat (BitVec.ofInt (IntKind.bits .u64) (1000000:Int) &&& BitVec.ofInt (IntKind.bits .u64) (4294967295:Int))):Int))+Int.fdiv (wrap .u64 (wrap .u64 (↑(BitVec.toNat (BitVec.ofInt (IntKind.bits .u64) (wrap .u64 u66) &&& BitVec.ofInt (IntKind.bits .u64) (4294967295:Int))):Int)*wrap .u64 (↑(BitVec.toNat (BitVec.ofInt (IntKind.bits .u64) (1000000:Int) &&& BitVec.ofInt (IntKind.bits .u64) (4294967295:Int))):Int))) ((2:Int)^min (32:Nat) (IntKind.bits .u64)))) ((2:Int)^min (32:Nat) (IntKind.bits .u64)))+Int.fdiv (wrap .u64 (wrap .u64 (↑(BitVec.toNat (BitVec.ofInt (IntKind.bits .u64) (wrap .u64 (wrap .u64 (Int.fdiv (wrap .u64 u66) ((2:Int)^min (32:Nat) (IntKind.bits .u64))*wrap .u64 (↑(BitVec.toNat (BitVec.ofInt (IntKind.bits .u64) (1000000:Int) &&& BitVec.ofInt (IntKind.bits .u64) (4294967295:Int))):Int))+Int.fdiv (wrap .u64 (wrap .u64 (↑(BitVec.toNat (BitVec.ofInt (IntKind.bits .u64) (wrap .u64 u66) &&& BitVec.ofInt (IntKind.bits .u64) (4294967295:Int))):Int)*wrap .u64 (↑(BitVec.toNat (BitVec.ofInt (IntKind.bits .u64) (1000000:Int) &&& BitVec.ofInt (IntKind.bits .u64) (4294967295:Int))):Int))) ((2:Int)^min (32:Nat) (IntKind.bits .u64)))) &&& BitVec.ofInt (IntKind.bits .u64) (4294967295:Int))):Int)+wrap .u64 (wrap .u64 (↑(BitVec.toNat (BitVec.ofInt (IntKind.bits .u64) (wrap .u64 u66) &&& BitVec.ofInt (IntKind.bits .u64) (4294967295:Int))):Int)*Int.fdiv (1000000:Int) ((2:Int)^min (32:Nat) (IntKind.bits .u64))))) ((2:Int)^min (32:Nat) (IntKind.bits .u64)))) (wrap .u64 (wrap .u64 u66*1000000)) (wrap .u64 (wrap .i64 (u67*u18)))) fun r1 =>
 some ((wrap .i64 r1.1,decide (r1.2>0)))
def y155:List Lf→Option GT
 |[.d (.i .i64 u66),.d (.i .i64 u67),.d (.i .i64 u18),.r (.floats .f32 u19),.d (.i .i64 u20),.d (.i .i64 u21),.r (.recs 2 u22),.r (.recs 2 u23)]=>some (.leaf (ok (y21 u66 u67 u18 u19 u20 u21 u22 u23)) [.c (.d (.i .i64 ((val (y21 u66 u67 u18 u19 u20 u21 u22 u23)).1))),.c (.d (.b ((val (y21 u66 u67 u18 u19 u20 u21 u22 u23)).2)))])
 |_=>none
abbrev sp_125:jab→jab:=jas 125 true (jal y154 y155)
abbrev jvo (u66 u67 u18:Int):=(y72 (wrap .u64 (wrap .u64 (wrap .u64 (Int.fdiv (wrap .u64 u66) ((2:Int)^min (32:Nat) (IntKind.bits .u64))*Int.fdiv (1000000:Int) ((2:Int)^min (32:Nat) (IntKind.bits .u64)))+Int.fdiv (wrap .u64 (wrap .u64 (Int.fdiv (wrap .u64 u66) ((2:Int)^min (32:Nat) (IntKind.bits .u64))*wrap .u64 (↑(BitVec.toNat (BitVec.ofInt (IntKind.bits .u64) (1000000:Int) &&& BitVec.ofInt (IntKind.bits .u64) (4294967295:Int))):Int))+Int.fdiv (wrap .u64 (wrap .u64 (↑(BitVec.toNat (BitVec.ofInt (IntKind.bits .u64) (wrap .u64 u66) &&& BitVec.ofInt (IntKind.bits .u64) (4294967295:Int))):Int)*wrap .u64 (↑(BitVec.toNat (BitVec.ofInt (IntKind.bits .u64) (1000000:Int) &&& BitVec.ofInt (IntKind.bits .u64) (4294967295:Int))):Int))) ((2:Int)^min (32:Nat) (IntKind.bits .u64)))) ((2:Int)^min (32:Nat) (IntKind.bits .u64)))+Int.fdiv (wrap .u64 (wrap .u64 (↑(BitVec.toNat (BitVec.ofInt (IntKind.bits .u64) (wrap .u64 (wrap .u64 (Int.fdiv (wrap .u64 u66) ((2:Int)^min (32:Nat) (IntKind.bits .u64))*wrap .u64 (↑(BitVec.toNat (BitVec.ofInt (IntKind.bits .u64) (1000000:Int) &&& BitVec.ofInt (IntKind.bits .u64) (4294967295:Int))):Int))+Int.fdiv (wrap .u64 (wrap .u64 (↑(BitVec.toNat (BitVec.ofInt (IntKind.bits .u64) (wrap .u64 u66) &&& BitVec.ofInt (IntKind.bits .u64) (4294967295:Int))):Int)*wrap .u64 (↑(BitVec.toNat (BitVec.ofInt (IntKind.bits .u64) (1000000:Int) &&& BitVec.ofInt (IntKind.bits .u64) (4294967295:Int))):Int))) ((2:Int)^min (32:Nat) (IntKind.bits .u64)))) &&& BitVec.ofInt (IntKind.bits .u64) (4294967295:Int))):Int)+wrap .u64 (wrap .u64 (↑(BitVec.toNat (BitVec.ofInt (IntKind.bits .u64) (wrap .u64 u66) &&& BitVec.ofInt (IntKind.bits .u64) (4294967295:Int))):Int)*Int.fdiv (1000000:Int) ((2:Int)^min (32:Nat) (IntKind.bits .u64))))) ((2:Int)^min (32:Nat) (IntKind.bits .u64)))) (wrap .u64 (wrap .u64 u66*1000000)) (wrap .u64 (wrap .i64 (u67*u18))))
theorem jjj (u66 u67 u18:Int) (u19:List Nat) (u20 u21:Int) (u22 u23:List (List Int)) (r:Int × Bool) (h:Option.bind (y21 u66 u67 u18 u19 u20 u21 u22 u23) some=some r):jaY Tryz.f125 ((sp_126 (sp_127 sp0))) (fun _ _ _=>none) (jaO y154 [.d (.i .i64 u66),.d (.i .i64 u67),.d (.i .i64 u18),.r (.floats .f32 u19),.d (.i .i64 u20),.d (.i .i64 u21),.r (.recs 2 u22),.r (.recs 2 u23)]) [.c (.d (.i .i64 r.1)),.c (.d (.b r.2))]:=by
 refine Eq.mp (by kernel_rfl:(
 (Ob True ∧
 (Ob (ok (y6 (wrap .u64 u66) (1000000:Int))) ∧
 (Ob True ∧
 (Ob True ∧
 (Ob True ∧
 (Ob (ok (jvo u66 u67 u18)) ∧
 (Ob True ∧
 (Ob True ∧
 (Ob True ∧
 (Ob (wrap .i64 (val (jvo u66 u67 u18)).1=r.1) ∧
 (Ob (decide ((val (jvo u66 u67 u18)).2>0)=r.2) ∧
 True))))))))))))=_) ?_
 refine jad ?_
 refine jav h fun h=>?_
 refine jad ?_
 refine jad ?_
 refine jad ?_
 refine jav h fun h=>?_
 refine jad ?_
 refine jad ?_
 refine jad ?_
 exact rcs h
theorem jjk:jah Tryz.prog 125 true (jal y154 y155):=by
 refine jau (sp:=(sp_126 (sp_127 sp0))) (fn:=Tryz.f125) (body:=jai Tryz.f125) mixed (sp_126_ok (sp_127_ok jak)) Tryz.func125 (by kernel_rfl) (by kernel_rfl) fun ls t h ho b hb=>?_
 unfold y155 at h
 split at h
 ·rename_i u66 u67 u18 u19 u20 u21 u22 u23
  cases h
  obtain rfl:=jaD hb
  exact⟨Nat.le_of_ble_eq_true (by kernel_rfl),_,_,jjj u66 u67 u18 u19 u20 u21 u22 u23 _ (jaj ho)⟩
 ·cases h
theorem sp_125_ok {sp:jab} (h:jac Tryz.prog sp):jac Tryz.prog (sp_125 sp):=jag jjk h
end Go.Sh
end

section
namespace Go.Sh
open Go Go.Proofs Go.RowKit Go.Sx
open Go.IntKind (wrap)
def y183:List SV:=[.c (.p [.d,.r (.floats .f32 []),.d,.d,.r (.recs 2 []),.r (.recs 2 [])])]
def y61 (u9:List (List Int)) (x0:(Int × Int × Int)):Option ((Int × Int × Int) ⊕ (Int × Int)) :=
 if x0.1<(↑(List.length u9):Int)then
  if 0≤x0.1∧x0.1<(↑(List.length u9):Int)then
  if Int.toNat x0.1<List.length u9 then
   Option.bind (jc9 x0.2.1 x0.2.2 (wrap .i64 (x0.1*List.getD (List.getD u9 (Int.toNat x0.1) []) 0 (0:Int))) (wrap .i64 (x0.1*List.getD (List.getD u9 (Int.toNat x0.1) []) 1 (0:Int)))) fun r0 =>
   some (.inl ((wrap .i64 (x0.1+1),wrap .i64 (x0.2.1+wrap .i64 (x0.1*List.getD (List.getD u9 (Int.toNat x0.1) []) 0 (0:Int))),wrap .i64 (x0.2.2+wrap .i64 (x0.1*List.getD (List.getD u9 (Int.toNat x0.1) []) 1 (0:Int))))))
  else none
  else none
 else
  some (.inr (x0.2.1,x0.2.2))
def y89 (u11:Int) (u12:List Nat) (u13 u14:Int) (u9 u15:List (List Int)) (u10:Int × Int):Option (Int × Int × Int) :=
 if(0:Int)≤0∧0<(↑(List.length u15):Int)then
  if 0<List.length u15 then
  Option.bind (y21 u10.1 (List.getD (List.getD u15 (0:Nat) []) 1 (0:Int)) u11 u12 u13 u14 u9 u15) fun r1 =>
  if(0:Int)≤0∧0<(↑(List.length u15):Int)then
   if 0<List.length u15 then
   Option.bind (y21 u10.2 (List.getD (List.getD u15 (0:Nat) []) 0 (0:Int)) u11 u12 u13 u14 u9 u15) fun r2 =>
   if(r2.2)=true then
    Option.bind (jbh (wrap .i64 (wrap .i64 ((↑(List.length u9):Int)-1)*1000000)) u11) fun r3 =>
    some ((r1.1,if r3<wrap .i64 (r2.1+1)then r3 else wrap .i64 (r2.1+1),0))
   else
    Option.bind (jbh (wrap .i64 (wrap .i64 ((↑(List.length u9):Int)-1)*1000000)) u11) fun r3 =>
    some ((r1.1,if r3<r2.1 then r3 else r2.1,0))
   else none
  else none
  else none
 else none
def y2 (u11:Int) (u12:List Nat) (u13 u14:Int) (u9 u15:List (List Int)):Option (Int × Int × Int) :=
 if(u14 != 0)=true then
  some (((0:Int),0,23))
 else
  if(0:Int)≤0∧0<(↑(List.length u15):Int)then
  if 0<List.length u15 then
   if(List.getD (List.getD u15 (0:Nat) []) 0 (0:Int)==0)=true then
   some (((0:Int),0,11))
   else
   Option.bind (jae (y61 u9) big (((0:Int),0,0))) (y89 u11 u12 u13 u14 u9 u15)
  else none
  else none
def y184:List Lf→Option GT
 |[.d (.i .i64 u11),.r (.floats .f32 u12),.d (.i .i64 u13),.d (.i .i64 u14),.r (.recs 2 u9),.r (.recs 2 u15)]=>some (.leaf (ok (y2 u11 u12 u13 u14 u9 u15)) [.s [.d (.i .i64 ((val (y2 u11 u12 u13 u14 u9 u15)).1)),.d (.i .i64 ((val (y2 u11 u12 u13 u14 u9 u15)).2.1))],.c (.d (.i .i64 ((val (y2 u11 u12 u13 u14 u9 u15)).2.2)))])
 |_=>none
abbrev sp_82:jab→jab:=jas 82 true (jal y183 y184)
abbrev jlc (u9:List (List Int)):=(wrap .i64 (wrap .i64 ((↑(List.length u9):Int)-1)*1000000))
abbrev jld (u15:List (List Int)):=(List.getD (List.getD u15 (0:Nat) []) 0 (0:Int))
theorem jlw (u11:Int) (u12:List Nat) (u13 u14:Int) (u9 u15:List (List Int)) (r:Int × Int × Int) (h:Option.bind (y2 u11 u12 u13 u14 u9 u15) some=some r):jaY Tryz.f82 ((sp_117 (sp_125 (sp_119 sp0)))) (fun gs id _=>match id with
 |1=>some ⟨(Int × Int × Int) × Nat,fun z=>⟨[(1,.w (.c (.p 4 0 1 0))),(2,.w (.c (.p 5 0 1 0))),(4,.w (.c (.p 6 0 1 0))),(33,.w (.c (.o 1))),(34,.w (.c (.d (.i .i64 ((↑(List.length u9):Int)))))),(35,.w (.c (.d (.i .i64 (Prod.fst (Prod.fst z))))))],[(4,.box 105 [.p 3 0 1 0]),(5,.box 30 [.d (.i .i64 0),.d (.i .i64 0)]),(6,.box 30 [.d (.i .i64 (Prod.fst (Prod.snd (Prod.fst z)))),.d (.i .i64 (Prod.snd (Prod.snd (Prod.fst z))))]),(1,.ext (.recs 2 u9)),(3,.ebox [.d (.i .i64 u11),.o 0,.d (.i .i64 u13),.d (.i .i64 u14),.o 1,.o 2]),(0,.ext (.floats .f32 u12)),(2,.ext (.recs 2 u15))],7⟩,fun z=>Option.bind (jae (y61 u9) (Prod.snd z) (Prod.fst z)) (fun y0=>Option.bind (y89 u11 u12 u13 u14 u9 u15 y0) some)=some r,fun z=>Prod.snd z⟩
 |_=>none) (jaO y183 [.d (.i .i64 u11),.r (.floats .f32 u12),.d (.i .i64 u13),.d (.i .i64 u14),.r (.recs 2 u9),.r (.recs 2 u15)]) [.s [.d (.i .i64 r.1),.d (.i .i64 r.2.1)],.c (.d (.i .i64 r.2.2))]:=by
 refine Eq.mp (by kernel_rfl:(
 (Ob True ∧
 Br (u14 != 0)
  ((Ob True ∧
 (Ob True ∧
 (Ob ((0:Int)=r.1) ∧
 (Ob ((0:Int)=r.2.1) ∧
 (Ob ((23:Int)=r.2.2) ∧
 True))))))
  ((Ob True ∧
 (Ob ((0:Int)≤0∧0<(↑(List.length u15):Int)) ∧
 (Ob (0<List.length u15) ∧
 Br (List.getD (List.getD u15 (0:Nat) []) 0 (0:Int)==0)
  ((Ob True ∧
 (Ob True ∧
 (Ob ((0:Int)=r.1) ∧
 (Ob ((0:Int)=r.2.1) ∧
 (Ob ((11:Int)=r.2.2) ∧
 True))))))
  ((Ob True ∧
  ((∃(v0:(Int × Int × Int) × Nat),(Ob ((Option.bind (jae (y61 u9) v0.2 v0.1) fun y0=>Option.bind (y89 u11 u12 u13 u14 u9 u15 y0) some)=some r) ∧
 (Ob (0=0) ∧
 (Ob (0=0) ∧
 (Ob (0=0) ∧
 (Ob ((↑(List.length u9):Int)=(↑(List.length u9):Int)) ∧
 (Ob ((0:Int)=v0.1.1) ∧
 (Ob (0=0) ∧
 (Ob ((0:Int)=(0:Int)) ∧
 (Ob ((0:Int)=(0:Int)) ∧
 (Ob ((0:Int)=v0.1.2.1) ∧
 (Ob ((0:Int)=v0.1.2.2) ∧
 (Ob (u9=u9) ∧
 (Ob (u11=u11) ∧
 (Ob (u13=u13) ∧
 (Ob (u14=u14) ∧
 (Ob (u12=u12) ∧
 (Ob (u15=u15) ∧
 True)))))))))))))))))) ∧
  (∀(v0:(Int × Int × Int) × Nat),((Option.bind (jae (y61 u9) v0.2 v0.1) fun y0=>Option.bind (y89 u11 u12 u13 u14 u9 u15 y0) some)=some r →
 Br (decide (v0.1.1<(↑(List.length u9):Int)))
  ((Ob (0≤v0.1.1∧v0.1.1<(↑(List.length u9):Int)) ∧
 (Ob (Int.toNat v0.1.1<List.length u9) ∧
 (Ob (ok (jc9 v0.1.2.1 v0.1.2.2 (wrap .i64 (v0.1.1*List.getD (List.getD u9 (Int.toNat v0.1.1) []) 0 (0:Int))) (wrap .i64 (v0.1.1*List.getD (List.getD u9 (Int.toNat v0.1.1) []) 1 (0:Int))))) ∧
  (∃(v1:(Int × Int × Int) × Nat),(Ob ((Option.bind (jae (y61 u9) v1.2 v1.1) fun y0=>Option.bind (y89 u11 u12 u13 u14 u9 u15 y0) some)=some r) ∧
 (Ob (v1.2<v0.2) ∧
 (Ob (0=0) ∧
 (Ob (0=0) ∧
 (Ob (0=0) ∧
 (Ob ((↑(List.length u9):Int)=(↑(List.length u9):Int)) ∧
 (Ob (wrap .i64 (v0.1.1+1)=v1.1.1) ∧
 (Ob (0=0) ∧
 (Ob ((0:Int)=(0:Int)) ∧
 (Ob ((0:Int)=(0:Int)) ∧
 (Ob (wrap .i64 (v0.1.2.1+wrap .i64 (v0.1.1*List.getD (List.getD u9 (Int.toNat v0.1.1) []) 0 (0:Int)))=v1.1.2.1) ∧
 (Ob (wrap .i64 (v0.1.2.2+wrap .i64 (v0.1.1*List.getD (List.getD u9 (Int.toNat v0.1.1) []) 1 (0:Int)))=v1.1.2.2) ∧
 (Ob (u9=u9) ∧
 (Ob (u11=u11) ∧
 (Ob (u13=u13) ∧
 (Ob (u14=u14) ∧
 (Ob (u12=u12) ∧
 (Ob (u15=u15) ∧
 True)))))))))))))))))))))))
  ((Ob True ∧
 (Ob ((0:Int)≤0∧0<(↑(List.length u15):Int)) ∧
 (Ob (0<List.length u15) ∧
 (Ob (ok (y21 v0.1.2.1 (List.getD (List.getD u15 (0:Nat) []) 1 (0:Int)) u11 u12 u13 u14 u9 u15)) ∧
 (Ob True ∧
 (Ob ((0:Int)≤0∧0<(↑(List.length u15):Int)) ∧
 (Ob (0<List.length u15) ∧
 (Ob (ok (y21 v0.1.2.2 (jld u15) u11 u12 u13 u14 u9 u15)) ∧
 Br ((val (y21 v0.1.2.2 (jld u15) u11 u12 u13 u14 u9 u15)).2)
  ((Ob True ∧
 (Ob True ∧
 (Ob (ok (jbh (jlc u9) u11)) ∧
 (Ob True ∧
 (Ob True ∧
 (Ob ((val (y21 v0.1.2.1 (List.getD (List.getD u15 (0:Nat) []) 1 (0:Int)) u11 u12 u13 u14 u9 u15)).1=r.1) ∧
 (Ob ((if val (jbh (jlc u9) u11)<wrap .i64 ((val (y21 v0.1.2.2 (jld u15) u11 u12 u13 u14 u9 u15)).1+1)then val (jbh (jlc u9) u11)else wrap .i64 ((val (y21 v0.1.2.2 (jld u15) u11 u12 u13 u14 u9 u15)).1+1))=r.2.1) ∧
 (Ob ((0:Int)=r.2.2) ∧
 True)))))))))
  ((Ob True ∧
 (Ob True ∧
 (Ob (ok (jbh (jlc u9) u11)) ∧
 (Ob True ∧
 (Ob True ∧
 (Ob ((val (y21 v0.1.2.1 (List.getD (List.getD u15 (0:Nat) []) 1 (0:Int)) u11 u12 u13 u14 u9 u15)).1=r.1) ∧
 (Ob ((if val (jbh (jlc u9) u11)<(val (y21 v0.1.2.2 (jld u15) u11 u12 u13 u14 u9 u15)).1 then val (jbh (jlc u9) u11)else(val (y21 v0.1.2.2 (jld u15) u11 u12 u13 u14 u9 u15)).1)=r.2.1) ∧
 (Ob ((0:Int)=r.2.2) ∧
 True)))))))))))))))))))))))))))))=_) ?_
 refine jad ?_
 refine jaV h (fun h=>?_) (fun h=>?_)
 ·refine jad ?_
  refine jad ?_
  exact rcs h
 ·refine jad ?_
  refine jat h fun h=>?_
  refine jat h fun h=>?_
  refine jaV h (fun h=>?_) (fun h=>?_)
  ·refine jad ?_
   refine jad ?_
   exact rcs h
  ·refine jad ?_
   refine⟨⟨(((0:Int),0,0),big),⟨jbe h⟩,(by repeat' constructor)⟩,fun z4 hz4=>?_⟩
   obtain⟨k4,hm4,h⟩:=jaU hz4
   refine jaT h (fun h=>?_) (fun h=>?_)
   ·refine jat h fun h=>?_
    refine jat h fun h=>?_
    refine jav h fun h=>?_
    exact⟨(_,k4),⟨jaQ h⟩,⟨ja0 hm4.symm⟩,(by repeat' constructor)⟩
   ·have h:=jaC h
    refine jad ?_
    refine jat h fun h=>?_
    refine jat h fun h=>?_
    refine jav h fun h=>?_
    refine jad ?_
    refine jat h fun h=>?_
    refine jat h fun h=>?_
    refine jav h fun h=>?_
    refine jaV h (fun h=>?_) (fun h=>?_)
    ·refine jad ?_
     refine jad ?_
     refine jav h fun h=>?_
     refine jad ?_
     refine jad ?_
     exact rcs h
    ·refine jad ?_
     refine jad ?_
     refine jav h fun h=>?_
     refine jad ?_
     refine jad ?_
     exact rcs h
theorem jlx:jah Tryz.prog 82 true (jal y183 y184):=by
 refine jau (sp:=(sp_117 (sp_125 (sp_119 sp0)))) (fn:=Tryz.f82) (body:=jai Tryz.f82) mixed (sp_117_ok (sp_125_ok (sp_119_ok jak))) Tryz.func82 (by kernel_rfl) (by kernel_rfl) fun ls t h ho b hb=>?_
 unfold y184 at h
 split at h
 ·rename_i u11 u12 u13 u14 u9 u15
  cases h
  obtain rfl:=jaD hb
  exact⟨Nat.le_of_ble_eq_true (by kernel_rfl),_,_,jlw u11 u12 u13 u14 u9 u15 _ (jaj ho)⟩
 ·cases h
theorem sp_82_ok {sp:jab} (h:jac Tryz.prog sp):jac Tryz.prog (sp_82 sp):=jag jlx h
end Go.Sh
end

section
namespace Go.Sh
open Go Go.Proofs Go.RowKit Go.Sx
open Go.IntKind (wrap)
def jeG:List SV:=[.a [.d,.r (.floats .f32 []),.d,.d]]
def y57 (u4:Int) (u0:List Nat) (u6 u5:Int):Option (List (List Int) × Int) :=
 if((val (jao u4 u0 u6 u5)).1 != 0)=true then
  Option.bind (jao u4 u0 u6 u5) fun r0 =>
  if(r0.1 != 0)=true then
  some ([],r0.1)
  else
  none   else
  Option.bind (jao u4 u0 u6 u5) fun r0 =>
  if 0≤(↑(List.length r0.2.1):Int)∧(↑(List.length r0.2.1):Int)≤(↑(List.length r0.2.1):Int)∧(↑(List.length r0.2.1):Int)≤(↑(List.length r0.2.2):Int)then
  some ((List.take (Int.toNat (↑(List.length r0.2.1):Int)-0) (List.drop (0:Nat) r0.2.2),0))
  else none
def jeH:List Lf→Option GT
 |[.d (.i .i64 u4),.r (.floats .f32 u0),.d (.i .i64 u6),.d (.i .i64 u5)]=>some (.leaf (ok (y57 u4 u0 u6 u5)) [.c (.rrow (.recs 2 ((val (y57 u4 u0 u6 u5)).1))),.c (.d (.i .i64 ((val (y57 u4 u0 u6 u5)).2)))])
 |_=>none
abbrev sp_54:jab→jab:=jas 54 true (jal jeG jeH)
theorem jn4 (u4:Int) (u0:List Nat) (u6 u5:Int) (r:List (List Int) × Int) (h:Option.bind (y57 u4 u0 u6 u5) some=some r):jaY Tryz.f54 ((sp_67 sp0)) (fun _ _ _=>none) (jaO jeG [.d (.i .i64 u4),.r (.floats .f32 u0),.d (.i .i64 u6),.d (.i .i64 u5)]) [.c (.rrow (.recs 2 r.1)),.c (.d (.i .i64 r.2))]:=by
 refine Eq.mp (by kernel_rfl:(
 Br ((val (jao u4 u0 u6 u5)).1 != 0)
  ((Ob (ok (jao u4 u0 u6 u5)) ∧
 Br ((val (jao u4 u0 u6 u5)).1 != 0)
  ((Ob True ∧
 (Ob True ∧
 (Ob (List.length r.1=(0:Nat)) ∧
 (Ob ((val (jao u4 u0 u6 u5)).1=r.2) ∧
 True)))))
  (False)))
  ((Ob (ok (jao u4 u0 u6 u5)) ∧
 (Ob (0≤(↑(List.length (val (jao u4 u0 u6 u5)).2.1):Int)∧(↑(List.length (val (jao u4 u0 u6 u5)).2.1):Int)≤(↑(List.length (val (jao u4 u0 u6 u5)).2.1):Int)∧(↑(List.length (val (jao u4 u0 u6 u5)).2.1):Int)≤(↑(List.length (val (jao u4 u0 u6 u5)).2.2):Int)) ∧
 (Ob True ∧
 (Ob True ∧
 (Ob (List.take (Int.toNat (↑(List.length (val (jao u4 u0 u6 u5)).2.1):Int)-0) (List.drop (0:Nat) (val (jao u4 u0 u6 u5)).2.2)=r.1) ∧
 (Ob ((0:Int)=r.2) ∧
 True))))))))=_) ?_
 refine jaV h (fun h=>?_) (fun h=>?_)
 ·refine jav h fun h=>?_
  refine jaV h (fun h=>?_) (fun h=>?_)
  ·refine jad ?_
   refine jad ?_
   exact jam h (fun e=>by subst e; exact(by repeat' constructor))
  ·exact nomatch h
 ·refine jav h fun h=>?_
  refine jat h fun h=>?_
  refine jad ?_
  refine jad ?_
  exact jam h (fun e=>by subst e; exact(by repeat' constructor))
theorem jn5:jah Tryz.prog 54 true (jal jeG jeH):=by
 refine jau (sp:=(sp_67 sp0)) (fn:=Tryz.f54) (body:=jai Tryz.f54) mixed (sp_67_ok jak) Tryz.func54 (by kernel_rfl) (by kernel_rfl) fun ls t h ho b hb=>?_
 unfold jeH at h
 split at h
 ·rename_i u4 u0 u6 u5
  cases h
  obtain rfl:=jaD hb
  exact⟨Nat.le_of_ble_eq_true (by kernel_rfl),_,_,jn4 u4 u0 u6 u5 _ (jaj ho)⟩
 ·cases h
theorem sp_54_ok {sp:jab} (h:jac Tryz.prog sp):jac Tryz.prog (sp_54 sp):=jag jn5 h
def jmE:List SV:=[.a [.d,.r (.floats .f32 [])]]
def je8 (r0:List (List Int) × Int) (x0:(Int × List Int)):Option ((Int × List Int) ⊕ (List Int)) :=
 if x0.1<(↑(List.length r0.1):Int)then
  if 0≤x0.1∧x0.1<(↑(List.length r0.1):Int)then
  if Int.toNat x0.1<List.length r0.1 then
   if(List.length x0.2+List.length [List.getD (List.getD r0.1 (Int.toNat x0.1) []) 0 (0:Int)])*8≤140737488355328∧List.length x0.2+List.length [List.getD (List.getD r0.1 (Int.toNat x0.1) []) 0 (0:Int)]≤9223372036854775807 then
   some (.inl ((wrap .i64 (x0.1+1),x0.2++[List.getD (List.getD r0.1 (Int.toNat x0.1) []) 0 (0:Int)])))
   else none
  else none
  else none
 else
  some (.inr x0.2)
def je9 (r0:List (List Int) × Int) (u10:List Int):Option (List Int × Int) :=
 some (u10,r0.2)
def jhO (u17:Int) (u16:List Nat):Option (List Int × Int) :=
 Option.bind (y57 u17 u16 (0:Int) (0:Int)) fun r0 =>
 Option.bind (jae (je8 r0) big (((0:Int),[]))) (je9 r0)
def jmF:List Lf→Option GT
 |[.d (.i .i64 u17),.r (.floats .f32 u16)]=>some (.leaf (ok (jhO u17 u16)) [.c (.row 3 (.ints .i64 ((val (jhO u17 u16)).1))),.c (.d (.i .i64 ((val (jhO u17 u16)).2)))])
 |_=>none
abbrev sp_53:jab→jab:=jas 53 true (jal jmE jmF)
abbrev jbU (u17:Int) (u16:List Nat):=(val (y57 u17 u16 (0:Int) (0:Int)))
theorem jwB (u17:Int) (u16:List Nat) (r:List Int × Int) (h:Option.bind (jhO u17 u16) some=some r):jaY Tryz.f53 ((sp_54 sp0)) (fun gs id _=>match id with
 |0=>some ⟨(Int × List Int) × Nat,fun z=>⟨[(5,.w (.c (.d (.i .i64 ((val (y57 u17 u16 (0:Int) (0:Int))).2))))),(6,.w (.c (.o 1))),(15,.w (.c (.o 2))),(16,.w (.c (.d (.i .i64 ((↑(List.length (val (y57 u17 u16 (0:Int) (0:Int))).1):Int)))))),(17,.w (.c (.d (.i .i64 (Prod.fst (Prod.fst z))))))],[(1,.row 3 (.ints .i64 (Prod.snd (Prod.fst z)))),(2,.rrow (.recs 2 ((val (y57 u17 u16 (0:Int) (0:Int))).1)))],3⟩,fun z=>Option.bind (jae (je8 (val (y57 u17 u16 (0:Int) (0:Int)))) (Prod.snd z) (Prod.fst z)) (fun y0=>Option.bind (je9 (val (y57 u17 u16 (0:Int) (0:Int))) y0) some)=some r,fun z=>Prod.snd z⟩
 |_=>none) (jaO jmE [.d (.i .i64 u17),.r (.floats .f32 u16)]) [.c (.row 3 (.ints .i64 r.1)),.c (.d (.i .i64 r.2))]:=by
 refine Eq.mp (by kernel_rfl:(
 (Ob (ok (y57 u17 u16 (0:Int) (0:Int))) ∧
  ((∃(v0:(Int × List Int) × Nat),(Ob ((Option.bind (jae (je8 (jbU u17 u16)) v0.2 v0.1) fun y0=>Option.bind (je9 (jbU u17 u16) y0) some)=some r) ∧
 (Ob ((jbU u17 u16).2=(jbU u17 u16).2) ∧
 (Ob ((↑(List.length (jbU u17 u16).1):Int)=(↑(List.length (jbU u17 u16).1):Int)) ∧
 (Ob ((0:Int)=v0.1.1) ∧
 (Ob (List.length v0.1.2=(0:Nat)) ∧
 (Ob ((jbU u17 u16).1=(jbU u17 u16).1) ∧
 True))))))) ∧
  (∀(v0:(Int × List Int) × Nat),((Option.bind (jae (je8 (jbU u17 u16)) v0.2 v0.1) fun y0=>Option.bind (je9 (jbU u17 u16) y0) some)=some r →
 Br (decide (v0.1.1<(↑(List.length (jbU u17 u16).1):Int)))
  ((Ob (0≤v0.1.1∧v0.1.1<(↑(List.length (jbU u17 u16).1):Int)) ∧
 (Ob (Int.toNat v0.1.1<List.length (jbU u17 u16).1) ∧
 (Ob ((List.length v0.1.2+List.length [List.getD (List.getD (jbU u17 u16).1 (Int.toNat v0.1.1) []) 0 (0:Int)])*8≤140737488355328∧List.length v0.1.2+List.length [List.getD (List.getD (jbU u17 u16).1 (Int.toNat v0.1.1) []) 0 (0:Int)]≤9223372036854775807) ∧
  (∃(v1:(Int × List Int) × Nat),(Ob ((Option.bind (jae (je8 (jbU u17 u16)) v1.2 v1.1) fun y0=>Option.bind (je9 (jbU u17 u16) y0) some)=some r) ∧
 (Ob (v1.2<v0.2) ∧
 (Ob ((jbU u17 u16).2=(jbU u17 u16).2) ∧
 (Ob ((↑(List.length (jbU u17 u16).1):Int)=(↑(List.length (jbU u17 u16).1):Int)) ∧
 (Ob (wrap .i64 (v0.1.1+1)=v1.1.1) ∧
 (Ob (v0.1.2++[List.getD (List.getD (jbU u17 u16).1 (Int.toNat v0.1.1) []) 0 (0:Int)]=v1.1.2) ∧
 (Ob ((jbU u17 u16).1=(jbU u17 u16).1) ∧
 True))))))))))))
  ((Ob True ∧
 (Ob True ∧
 (Ob (v0.1.2=r.1) ∧
 (Ob ((jbU u17 u16).2=r.2) ∧
 True))))))))))=_) ?_
 refine jav h fun h=>?_
 refine⟨⟨(((0:Int),[]),big),⟨jbe h⟩,(by repeat' constructor)⟩,fun z1 hz1=>?_⟩
 obtain⟨k1,hm1,h⟩:=jaU hz1
 refine jaT h (fun h=>?_) (fun h=>?_)
 ·refine jat h fun h=>?_
  refine jat h fun h=>?_
  refine jat h fun h=>?_
  exact⟨(_,k1),⟨jaQ h⟩,⟨ja0 hm1.symm⟩,(by repeat' constructor)⟩
 ·have h:=jaC h
  refine jad ?_
  refine jad ?_
  exact jam h (fun e=>by subst e; exact(by repeat' constructor))
theorem jwC:jah Tryz.prog 53 true (jal jmE jmF):=by
 refine jau (sp:=(sp_54 sp0)) (fn:=Tryz.f53) (body:=jai Tryz.f53) mixed (sp_54_ok jak) Tryz.func53 (by kernel_rfl) (by kernel_rfl) fun ls t h ho b hb=>?_
 unfold jmF at h
 split at h
 ·rename_i u17 u16
  cases h
  obtain rfl:=jaD hb
  exact⟨Nat.le_of_ble_eq_true (by kernel_rfl),_,_,jwB u17 u16 _ (jaj ho)⟩
 ·cases h
theorem sp_53_ok {sp:jab} (h:jac Tryz.prog sp):jac Tryz.prog (sp_53 sp):=jag jwC h
end Go.Sh
end

section
namespace Go.Sh
open Go Go.Proofs Go.RowKit Go.Sx
theorem jqW:((0:Int)≤0∧(0:Int)<6):=by decide
theorem jiO:((0:Int)≤1∧(1:Int)<6):=by decide
theorem jdp:((0:Int)≤2∧(2:Int)<6):=by decide
theorem jaF:(true=true):=by decide
theorem jaG:(true=true∧true=true):=by decide
theorem jbD:((0:Int)≤3∧(3:Int)<6):=by decide
theorem jaR:((0:Int)≤4∧(4:Int)<6):=by decide
theorem jar:((0:Int)≤5∧(5:Int)<6):=by decide
def y201:List SV:=[.c (.p [.p [.d,.r (.floats .f32 []),.d,.d,.r (.recs 2 []),.r (.recs 2 [])]])]
def y15 (u18:Int) (u19:List Nat) (u20 u21:Int) (u22 u23:List (List Int)):Option (Int × Int × Int) :=
 Option.bind (y44 u18 u19 u20 u21 u22 u23 (80000:Int)) fun r0 =>
 some (r0.1,r0.2.1,r0.2.2)
def y202:List Lf→Option GT
 |[.d (.i .i64 u18),.r (.floats .f32 u19),.d (.i .i64 u20),.d (.i .i64 u21),.r (.recs 2 u22),.r (.recs 2 u23)]=>some (.leaf (ok (y15 u18 u19 u20 u21 u22 u23)) [.s [.d (.i .i64 ((val (y15 u18 u19 u20 u21 u22 u23)).1)),.d (.i .i64 ((val (y15 u18 u19 u20 u21 u22 u23)).2.1))],.c (.d (.i .i64 ((val (y15 u18 u19 u20 u21 u22 u23)).2.2)))])
 |_=>none
abbrev sp_102:jab→jab:=jas 102 true (jal y201 y202)
def jn6 (u18:Int) (u19:List Nat) (u20 u21:Int) (u22 u23:List (List Int)):T (Int × Int × Int) :=
 .obT
 (.call (y44 u18 u19 u20 u21 u22 u23 (80000:Int)) fun r0 =>
 .obT
 (.obT
 (.rc ((r0.1,r0.2.1,r0.2.2)))))
theorem jmG (u18:Int) (u19:List Nat) (u20 u21:Int) (u22 u23:List (List Int)) (r:Int × Int × Int) (h:Option.bind (y15 u18 u19 u20 u21 u22 u23) some=some r):jaY Tryz.f102 ((sp_78 sp0)) (fun _ _ _=>none) (jaO y201 [.d (.i .i64 u18),.r (.floats .f32 u19),.d (.i .i64 u20),.d (.i .i64 u21),.r (.recs 2 u22),.r (.recs 2 u23)]) [.s [.d (.i .i64 r.1),.d (.i .i64 r.2.1)],.c (.d (.i .i64 r.2.2))] :=
 T.vc (t:=jn6 u18 u19 u20 u21 u22 u23) (by kernel_rfl) (by kernel_rfl) h
theorem jmH:jah Tryz.prog 102 true (jal y201 y202):=by
 refine jau (sp:=(sp_78 sp0)) (fn:=Tryz.f102) (body:=jai Tryz.f102) mixed (sp_78_ok jak) Tryz.func102 (by kernel_rfl) (by kernel_rfl) fun ls t h ho b hb=>?_
 unfold y202 at h
 split at h
 ·rename_i u18 u19 u20 u21 u22 u23
  cases h
  obtain rfl:=jaD hb
  exact⟨Nat.le_of_ble_eq_true (by kernel_rfl),_,_,jmG u18 u19 u20 u21 u22 u23 _ (jaj ho)⟩
 ·cases h
theorem sp_102_ok {sp:jab} (h:jac Tryz.prog sp):jac Tryz.prog (sp_102 sp):=jag jmH h
def y203:List SV:=[.c (.p [.p [.d,.r (.floats .f32 []),.d,.d,.r (.recs 2 []),.r (.recs 2 [])]])]
def y4 (u18:Int) (u19:List Nat) (u20 u21:Int) (u22 u23:List (List Int)):Option (Int × Int × Int) :=
 Option.bind (y45 u18 u19 u20 u21 u22 u23 (50000:Int)) fun r0 =>
 some (r0.1,r0.2.1,r0.2.2)
def y204:List Lf→Option GT
 |[.d (.i .i64 u18),.r (.floats .f32 u19),.d (.i .i64 u20),.d (.i .i64 u21),.r (.recs 2 u22),.r (.recs 2 u23)]=>some (.leaf (ok (y4 u18 u19 u20 u21 u22 u23)) [.s [.d (.i .i64 ((val (y4 u18 u19 u20 u21 u22 u23)).1)),.d (.i .i64 ((val (y4 u18 u19 u20 u21 u22 u23)).2.1))],.c (.d (.i .i64 ((val (y4 u18 u19 u20 u21 u22 u23)).2.2)))])
 |_=>none
abbrev sp_103:jab→jab:=jas 103 true (jal y203 y204)
def jn7 (u18:Int) (u19:List Nat) (u20 u21:Int) (u22 u23:List (List Int)):T (Int × Int × Int) :=
 .obT
 (.call (y45 u18 u19 u20 u21 u22 u23 (50000:Int)) fun r0 =>
 .obT
 (.obT
 (.rc ((r0.1,r0.2.1,r0.2.2)))))
theorem jmI (u18:Int) (u19:List Nat) (u20 u21:Int) (u22 u23:List (List Int)) (r:Int × Int × Int) (h:Option.bind (y4 u18 u19 u20 u21 u22 u23) some=some r):jaY Tryz.f103 ((sp_98 sp0)) (fun _ _ _=>none) (jaO y203 [.d (.i .i64 u18),.r (.floats .f32 u19),.d (.i .i64 u20),.d (.i .i64 u21),.r (.recs 2 u22),.r (.recs 2 u23)]) [.s [.d (.i .i64 r.1),.d (.i .i64 r.2.1)],.c (.d (.i .i64 r.2.2))] :=
 T.vc (t:=jn7 u18 u19 u20 u21 u22 u23) (by kernel_rfl) (by kernel_rfl) h
theorem jmJ:jah Tryz.prog 103 true (jal y203 y204):=by
 refine jau (sp:=(sp_98 sp0)) (fn:=Tryz.f103) (body:=jai Tryz.f103) mixed (sp_98_ok jak) Tryz.func103 (by kernel_rfl) (by kernel_rfl) fun ls t h ho b hb=>?_
 unfold y204 at h
 split at h
 ·rename_i u18 u19 u20 u21 u22 u23
  cases h
  obtain rfl:=jaD hb
  exact⟨Nat.le_of_ble_eq_true (by kernel_rfl),_,_,jmI u18 u19 u20 u21 u22 u23 _ (jaj ho)⟩
 ·cases h
theorem sp_103_ok {sp:jab} (h:jac Tryz.prog sp):jac Tryz.prog (sp_103 sp):=jag jmJ h
def y205:List SV:=[.c (.p [.p [.d,.r (.floats .f32 []),.d,.d,.r (.recs 2 []),.r (.recs 2 [])]]),.c (.p [.d])]
def y22 (u18:Int) (u19:List Nat) (u20 u21:Int) (u22 u23:List (List Int)) (v1_:Int):Option (Int × Int × Int) :=
 Option.bind (y34 u18 u19 u20 u21 u22 u23 v1_) fun r0 =>
 some (r0.1,r0.2.1,r0.2.2)
def y206:List Lf→Option GT
 |[.d (.i .i64 u18),.r (.floats .f32 u19),.d (.i .i64 u20),.d (.i .i64 u21),.r (.recs 2 u22),.r (.recs 2 u23),.d (.i .i64 v1_)]=>some (.leaf (ok (y22 u18 u19 u20 u21 u22 u23 v1_)) [.s [.d (.i .i64 ((val (y22 u18 u19 u20 u21 u22 u23 v1_)).1)),.d (.i .i64 ((val (y22 u18 u19 u20 u21 u22 u23 v1_)).2.1))],.c (.d (.i .i64 ((val (y22 u18 u19 u20 u21 u22 u23 v1_)).2.2)))])
 |_=>none
abbrev sp_104:jab→jab:=jas 104 true (jal y205 y206)
def jn8 (u18:Int) (u19:List Nat) (u20 u21:Int) (u22 u23:List (List Int)) (v1_:Int):T (Int × Int × Int) :=
 .obT
 (.obT
 (.call (y34 u18 u19 u20 u21 u22 u23 v1_) fun r0 =>
 .obT
 (.obT
 (.rc ((r0.1,r0.2.1,r0.2.2))))))
theorem jmK (u18:Int) (u19:List Nat) (u20 u21:Int) (u22 u23:List (List Int)) (v1_:Int) (r:Int × Int × Int) (h:Option.bind (y22 u18 u19 u20 u21 u22 u23 v1_) some=some r):jaY Tryz.f104 ((sp_69 sp0)) (fun _ _ _=>none) (jaO y205 [.d (.i .i64 u18),.r (.floats .f32 u19),.d (.i .i64 u20),.d (.i .i64 u21),.r (.recs 2 u22),.r (.recs 2 u23),.d (.i .i64 v1_)]) [.s [.d (.i .i64 r.1),.d (.i .i64 r.2.1)],.c (.d (.i .i64 r.2.2))] :=
 T.vc (t:=jn8 u18 u19 u20 u21 u22 u23 v1_) (by kernel_rfl) (by kernel_rfl) h
theorem jmL:jah Tryz.prog 104 true (jal y205 y206):=by
 refine jau (sp:=(sp_69 sp0)) (fn:=Tryz.f104) (body:=jai Tryz.f104) mixed (sp_69_ok jak) Tryz.func104 (by kernel_rfl) (by kernel_rfl) fun ls t h ho b hb=>?_
 unfold y206 at h
 split at h
 ·rename_i u18 u19 u20 u21 u22 u23 v1_
  cases h
  obtain rfl:=jaD hb
  exact⟨Nat.le_of_ble_eq_true (by kernel_rfl),_,_,jmK u18 u19 u20 u21 u22 u23 v1_ _ (jaj ho)⟩
 ·cases h
theorem sp_104_ok {sp:jab} (h:jac Tryz.prog sp):jac Tryz.prog (sp_104 sp):=jag jmL h
def jft:List SV:=[.a [.d,.r (.floats .f32 []),.d,.d]]
def y12 (u4:Int) (u0:List Nat) (u6 u5:Int):Option (Bool × Bool × Bool × Bool × Bool × Bool × Int × Int × Int × Int × Int × Int × Int × Int × Int × Int × Int × Int × Int) :=
 if((val (jao u4 u0 u6 u5)).1 != 0)=true then
  Option.bind (jao u4 u0 u6 u5) fun r0 =>
  if(r0.1 != 0)=true then
  some ((false,false,false,false,false,false,0,0,0,0,0,0,0,0,0,0,0,0,r0.1))
  else
  none   else
  Option.bind (jao u4 u0 u6 u5) fun r0 =>
  Option.bind (y22 u4 u0 u6 u5 r0.2.1 r0.2.2 (0:Int)) fun r1 =>
  if(r1.2.2==0)=true then
  Option.bind (y22 u4 u0 u6 u5 r0.2.1 r0.2.2 (1:Int)) fun r2 =>
  if(r2.2.2==0)=true then
   Option.bind (y22 u4 u0 u6 u5 r0.2.1 r0.2.2 (2:Int)) fun r3 =>
   if(r3.2.2==0)=true then
   Option.bind (y15 u4 u0 u6 u5 r0.2.1 r0.2.2) fun r4 =>
   if(r4.2.2==0)=true then
    Option.bind (y4 u4 u0 u6 u5 r0.2.1 r0.2.2) fun r5 =>
    if(r5.2.2==0)=true then
    Option.bind (y2 u4 u0 u6 u5 r0.2.1 r0.2.2) fun r6 =>
    if(r6.2.2==0)=true then
     some ((true,true,true,true,true,true,r1.1,r1.2.1,r2.1,r2.2.1,r3.1,r3.2.1,r4.1,r4.2.1,r5.1,r5.2.1,r6.1,r6.2.1,0))
    else
     some ((true,true,true,true,true,false,r1.1,r1.2.1,r2.1,r2.2.1,r3.1,r3.2.1,r4.1,r4.2.1,r5.1,r5.2.1,0,0,0))
    else
    Option.bind (y2 u4 u0 u6 u5 r0.2.1 r0.2.2) fun r6 =>
    if(r6.2.2==0)=true then
     some ((true,true,true,true,false,true,r1.1,r1.2.1,r2.1,r2.2.1,r3.1,r3.2.1,r4.1,r4.2.1,0,0,r6.1,r6.2.1,0))
    else
     some ((true,true,true,true,false,false,r1.1,r1.2.1,r2.1,r2.2.1,r3.1,r3.2.1,r4.1,r4.2.1,0,0,0,0,0))
   else
    Option.bind (y4 u4 u0 u6 u5 r0.2.1 r0.2.2) fun r5 =>
    if(r5.2.2==0)=true then
    Option.bind (y2 u4 u0 u6 u5 r0.2.1 r0.2.2) fun r6 =>
    if(r6.2.2==0)=true then
     some ((true,true,true,false,true,true,r1.1,r1.2.1,r2.1,r2.2.1,r3.1,r3.2.1,0,0,r5.1,r5.2.1,r6.1,r6.2.1,0))
    else
     some ((true,true,true,false,true,false,r1.1,r1.2.1,r2.1,r2.2.1,r3.1,r3.2.1,0,0,r5.1,r5.2.1,0,0,0))
    else
    Option.bind (y2 u4 u0 u6 u5 r0.2.1 r0.2.2) fun r6 =>
    if(r6.2.2==0)=true then
     some ((true,true,true,false,false,true,r1.1,r1.2.1,r2.1,r2.2.1,r3.1,r3.2.1,0,0,0,0,r6.1,r6.2.1,0))
    else
     some ((true,true,true,false,false,false,r1.1,r1.2.1,r2.1,r2.2.1,r3.1,r3.2.1,0,0,0,0,0,0,0))
   else
   Option.bind (y15 u4 u0 u6 u5 r0.2.1 r0.2.2) fun r4 =>
   if(r4.2.2==0)=true then
    Option.bind (y4 u4 u0 u6 u5 r0.2.1 r0.2.2) fun r5 =>
    if(r5.2.2==0)=true then
    Option.bind (y2 u4 u0 u6 u5 r0.2.1 r0.2.2) fun r6 =>
    if(r6.2.2==0)=true then
     some ((true,true,false,true,true,true,r1.1,r1.2.1,r2.1,r2.2.1,0,0,r4.1,r4.2.1,r5.1,r5.2.1,r6.1,r6.2.1,0))
    else
     some ((true,true,false,true,true,false,r1.1,r1.2.1,r2.1,r2.2.1,0,0,r4.1,r4.2.1,r5.1,r5.2.1,0,0,0))
    else
    Option.bind (y2 u4 u0 u6 u5 r0.2.1 r0.2.2) fun r6 =>
    if(r6.2.2==0)=true then
     some ((true,true,false,true,false,true,r1.1,r1.2.1,r2.1,r2.2.1,0,0,r4.1,r4.2.1,0,0,r6.1,r6.2.1,0))
    else
     some ((true,true,false,true,false,false,r1.1,r1.2.1,r2.1,r2.2.1,0,0,r4.1,r4.2.1,0,0,0,0,0))
   else
    Option.bind (y4 u4 u0 u6 u5 r0.2.1 r0.2.2) fun r5 =>
    if(r5.2.2==0)=true then
    Option.bind (y2 u4 u0 u6 u5 r0.2.1 r0.2.2) fun r6 =>
    if(r6.2.2==0)=true then
     some ((true,true,false,false,true,true,r1.1,r1.2.1,r2.1,r2.2.1,0,0,0,0,r5.1,r5.2.1,r6.1,r6.2.1,0))
    else
     some ((true,true,false,false,true,false,r1.1,r1.2.1,r2.1,r2.2.1,0,0,0,0,r5.1,r5.2.1,0,0,0))
    else
    Option.bind (y2 u4 u0 u6 u5 r0.2.1 r0.2.2) fun r6 =>
    if(r6.2.2==0)=true then
     some ((true,true,false,false,false,true,r1.1,r1.2.1,r2.1,r2.2.1,0,0,0,0,0,0,r6.1,r6.2.1,0))
    else
     some ((true,true,false,false,false,false,r1.1,r1.2.1,r2.1,r2.2.1,0,0,0,0,0,0,0,0,0))
  else
   Option.bind (y22 u4 u0 u6 u5 r0.2.1 r0.2.2 (2:Int)) fun r3 =>
   if(r3.2.2==0)=true then
   Option.bind (y15 u4 u0 u6 u5 r0.2.1 r0.2.2) fun r4 =>
   if(r4.2.2==0)=true then
    Option.bind (y4 u4 u0 u6 u5 r0.2.1 r0.2.2) fun r5 =>
    if(r5.2.2==0)=true then
    Option.bind (y2 u4 u0 u6 u5 r0.2.1 r0.2.2) fun r6 =>
    if(r6.2.2==0)=true then
     some ((true,false,true,true,true,true,r1.1,r1.2.1,0,0,r3.1,r3.2.1,r4.1,r4.2.1,r5.1,r5.2.1,r6.1,r6.2.1,0))
    else
     some ((true,false,true,true,true,false,r1.1,r1.2.1,0,0,r3.1,r3.2.1,r4.1,r4.2.1,r5.1,r5.2.1,0,0,0))
    else
    Option.bind (y2 u4 u0 u6 u5 r0.2.1 r0.2.2) fun r6 =>
    if(r6.2.2==0)=true then
     some ((true,false,true,true,false,true,r1.1,r1.2.1,0,0,r3.1,r3.2.1,r4.1,r4.2.1,0,0,r6.1,r6.2.1,0))
    else
     some ((true,false,true,true,false,false,r1.1,r1.2.1,0,0,r3.1,r3.2.1,r4.1,r4.2.1,0,0,0,0,0))
   else
    Option.bind (y4 u4 u0 u6 u5 r0.2.1 r0.2.2) fun r5 =>
    if(r5.2.2==0)=true then
    Option.bind (y2 u4 u0 u6 u5 r0.2.1 r0.2.2) fun r6 =>
    if(r6.2.2==0)=true then
     some ((true,false,true,false,true,true,r1.1,r1.2.1,0,0,r3.1,r3.2.1,0,0,r5.1,r5.2.1,r6.1,r6.2.1,0))
    else
     some ((true,false,true,false,true,false,r1.1,r1.2.1,0,0,r3.1,r3.2.1,0,0,r5.1,r5.2.1,0,0,0))
    else
    Option.bind (y2 u4 u0 u6 u5 r0.2.1 r0.2.2) fun r6 =>
    if(r6.2.2==0)=true then
     some ((true,false,true,false,false,true,r1.1,r1.2.1,0,0,r3.1,r3.2.1,0,0,0,0,r6.1,r6.2.1,0))
    else
     some ((true,false,true,false,false,false,r1.1,r1.2.1,0,0,r3.1,r3.2.1,0,0,0,0,0,0,0))
   else
   Option.bind (y15 u4 u0 u6 u5 r0.2.1 r0.2.2) fun r4 =>
   if(r4.2.2==0)=true then
    Option.bind (y4 u4 u0 u6 u5 r0.2.1 r0.2.2) fun r5 =>
    if(r5.2.2==0)=true then
    Option.bind (y2 u4 u0 u6 u5 r0.2.1 r0.2.2) fun r6 =>
    if(r6.2.2==0)=true then
     some ((true,false,false,true,true,true,r1.1,r1.2.1,0,0,0,0,r4.1,r4.2.1,r5.1,r5.2.1,r6.1,r6.2.1,0))
    else
     some ((true,false,false,true,true,false,r1.1,r1.2.1,0,0,0,0,r4.1,r4.2.1,r5.1,r5.2.1,0,0,0))
    else
    Option.bind (y2 u4 u0 u6 u5 r0.2.1 r0.2.2) fun r6 =>
    if(r6.2.2==0)=true then
     some ((true,false,false,true,false,true,r1.1,r1.2.1,0,0,0,0,r4.1,r4.2.1,0,0,r6.1,r6.2.1,0))
    else
     some ((true,false,false,true,false,false,r1.1,r1.2.1,0,0,0,0,r4.1,r4.2.1,0,0,0,0,0))
   else
    Option.bind (y4 u4 u0 u6 u5 r0.2.1 r0.2.2) fun r5 =>
    if(r5.2.2==0)=true then
    Option.bind (y2 u4 u0 u6 u5 r0.2.1 r0.2.2) fun r6 =>
    if(r6.2.2==0)=true then
     some ((true,false,false,false,true,true,r1.1,r1.2.1,0,0,0,0,0,0,r5.1,r5.2.1,r6.1,r6.2.1,0))
    else
     some ((true,false,false,false,true,false,r1.1,r1.2.1,0,0,0,0,0,0,r5.1,r5.2.1,0,0,0))
    else
    Option.bind (y2 u4 u0 u6 u5 r0.2.1 r0.2.2) fun r6 =>
    if(r6.2.2==0)=true then
     some ((true,false,false,false,false,true,r1.1,r1.2.1,0,0,0,0,0,0,0,0,r6.1,r6.2.1,0))
    else
     some ((true,false,false,false,false,false,r1.1,r1.2.1,0,0,0,0,0,0,0,0,0,0,0))
  else
  Option.bind (y22 u4 u0 u6 u5 r0.2.1 r0.2.2 (1:Int)) fun r2 =>
  if(r2.2.2==0)=true then
   Option.bind (y22 u4 u0 u6 u5 r0.2.1 r0.2.2 (2:Int)) fun r3 =>
   if(r3.2.2==0)=true then
   Option.bind (y15 u4 u0 u6 u5 r0.2.1 r0.2.2) fun r4 =>
   if(r4.2.2==0)=true then
    Option.bind (y4 u4 u0 u6 u5 r0.2.1 r0.2.2) fun r5 =>
    if(r5.2.2==0)=true then
    Option.bind (y2 u4 u0 u6 u5 r0.2.1 r0.2.2) fun r6 =>
    if(r6.2.2==0)=true then
     some ((false,true,true,true,true,true,0,0,r2.1,r2.2.1,r3.1,r3.2.1,r4.1,r4.2.1,r5.1,r5.2.1,r6.1,r6.2.1,0))
    else
     some ((false,true,true,true,true,false,0,0,r2.1,r2.2.1,r3.1,r3.2.1,r4.1,r4.2.1,r5.1,r5.2.1,0,0,0))
    else
    Option.bind (y2 u4 u0 u6 u5 r0.2.1 r0.2.2) fun r6 =>
    if(r6.2.2==0)=true then
     some ((false,true,true,true,false,true,0,0,r2.1,r2.2.1,r3.1,r3.2.1,r4.1,r4.2.1,0,0,r6.1,r6.2.1,0))
    else
     some ((false,true,true,true,false,false,0,0,r2.1,r2.2.1,r3.1,r3.2.1,r4.1,r4.2.1,0,0,0,0,0))
   else
    Option.bind (y4 u4 u0 u6 u5 r0.2.1 r0.2.2) fun r5 =>
    if(r5.2.2==0)=true then
    Option.bind (y2 u4 u0 u6 u5 r0.2.1 r0.2.2) fun r6 =>
    if(r6.2.2==0)=true then
     some ((false,true,true,false,true,true,0,0,r2.1,r2.2.1,r3.1,r3.2.1,0,0,r5.1,r5.2.1,r6.1,r6.2.1,0))
    else
     some ((false,true,true,false,true,false,0,0,r2.1,r2.2.1,r3.1,r3.2.1,0,0,r5.1,r5.2.1,0,0,0))
    else
    Option.bind (y2 u4 u0 u6 u5 r0.2.1 r0.2.2) fun r6 =>
    if(r6.2.2==0)=true then
     some ((false,true,true,false,false,true,0,0,r2.1,r2.2.1,r3.1,r3.2.1,0,0,0,0,r6.1,r6.2.1,0))
    else
     some ((false,true,true,false,false,false,0,0,r2.1,r2.2.1,r3.1,r3.2.1,0,0,0,0,0,0,0))
   else
   Option.bind (y15 u4 u0 u6 u5 r0.2.1 r0.2.2) fun r4 =>
   if(r4.2.2==0)=true then
    Option.bind (y4 u4 u0 u6 u5 r0.2.1 r0.2.2) fun r5 =>
    if(r5.2.2==0)=true then
    Option.bind (y2 u4 u0 u6 u5 r0.2.1 r0.2.2) fun r6 =>
    if(r6.2.2==0)=true then
     some ((false,true,false,true,true,true,0,0,r2.1,r2.2.1,0,0,r4.1,r4.2.1,r5.1,r5.2.1,r6.1,r6.2.1,0))
    else
     some ((false,true,false,true,true,false,0,0,r2.1,r2.2.1,0,0,r4.1,r4.2.1,r5.1,r5.2.1,0,0,0))
    else
    Option.bind (y2 u4 u0 u6 u5 r0.2.1 r0.2.2) fun r6 =>
    if(r6.2.2==0)=true then
     some ((false,true,false,true,false,true,0,0,r2.1,r2.2.1,0,0,r4.1,r4.2.1,0,0,r6.1,r6.2.1,0))
    else
     some ((false,true,false,true,false,false,0,0,r2.1,r2.2.1,0,0,r4.1,r4.2.1,0,0,0,0,0))
   else
    Option.bind (y4 u4 u0 u6 u5 r0.2.1 r0.2.2) fun r5 =>
    if(r5.2.2==0)=true then
    Option.bind (y2 u4 u0 u6 u5 r0.2.1 r0.2.2) fun r6 =>
    if(r6.2.2==0)=true then
     some ((false,true,false,false,true,true,0,0,r2.1,r2.2.1,0,0,0,0,r5.1,r5.2.1,r6.1,r6.2.1,0))
    else
     some ((false,true,false,false,true,false,0,0,r2.1,r2.2.1,0,0,0,0,r5.1,r5.2.1,0,0,0))
    else
    Option.bind (y2 u4 u0 u6 u5 r0.2.1 r0.2.2) fun r6 =>
    if(r6.2.2==0)=true then
     some ((false,true,false,false,false,true,0,0,r2.1,r2.2.1,0,0,0,0,0,0,r6.1,r6.2.1,0))
    else
     some ((false,true,false,false,false,false,0,0,r2.1,r2.2.1,0,0,0,0,0,0,0,0,0))
  else
   Option.bind (y22 u4 u0 u6 u5 r0.2.1 r0.2.2 (2:Int)) fun r3 =>
   if(r3.2.2==0)=true then
   Option.bind (y15 u4 u0 u6 u5 r0.2.1 r0.2.2) fun r4 =>
   if(r4.2.2==0)=true then
    Option.bind (y4 u4 u0 u6 u5 r0.2.1 r0.2.2) fun r5 =>
    if(r5.2.2==0)=true then
    Option.bind (y2 u4 u0 u6 u5 r0.2.1 r0.2.2) fun r6 =>
    if(r6.2.2==0)=true then
     some ((false,false,true,true,true,true,0,0,0,0,r3.1,r3.2.1,r4.1,r4.2.1,r5.1,r5.2.1,r6.1,r6.2.1,0))
    else
     some ((false,false,true,true,true,false,0,0,0,0,r3.1,r3.2.1,r4.1,r4.2.1,r5.1,r5.2.1,0,0,0))
    else
    Option.bind (y2 u4 u0 u6 u5 r0.2.1 r0.2.2) fun r6 =>
    if(r6.2.2==0)=true then
     some ((false,false,true,true,false,true,0,0,0,0,r3.1,r3.2.1,r4.1,r4.2.1,0,0,r6.1,r6.2.1,0))
    else
     some ((false,false,true,true,false,false,0,0,0,0,r3.1,r3.2.1,r4.1,r4.2.1,0,0,0,0,0))
   else
    Option.bind (y4 u4 u0 u6 u5 r0.2.1 r0.2.2) fun r5 =>
    if(r5.2.2==0)=true then
    Option.bind (y2 u4 u0 u6 u5 r0.2.1 r0.2.2) fun r6 =>
    if(r6.2.2==0)=true then
     some ((false,false,true,false,true,true,0,0,0,0,r3.1,r3.2.1,0,0,r5.1,r5.2.1,r6.1,r6.2.1,0))
    else
     some ((false,false,true,false,true,false,0,0,0,0,r3.1,r3.2.1,0,0,r5.1,r5.2.1,0,0,0))
    else
    Option.bind (y2 u4 u0 u6 u5 r0.2.1 r0.2.2) fun r6 =>
    if(r6.2.2==0)=true then
     some ((false,false,true,false,false,true,0,0,0,0,r3.1,r3.2.1,0,0,0,0,r6.1,r6.2.1,0))
    else
     some ((false,false,true,false,false,false,0,0,0,0,r3.1,r3.2.1,0,0,0,0,0,0,0))
   else
   Option.bind (y15 u4 u0 u6 u5 r0.2.1 r0.2.2) fun r4 =>
   if(r4.2.2==0)=true then
    Option.bind (y4 u4 u0 u6 u5 r0.2.1 r0.2.2) fun r5 =>
    if(r5.2.2==0)=true then
    Option.bind (y2 u4 u0 u6 u5 r0.2.1 r0.2.2) fun r6 =>
    if(r6.2.2==0)=true then
     some ((false,false,false,true,true,true,0,0,0,0,0,0,r4.1,r4.2.1,r5.1,r5.2.1,r6.1,r6.2.1,0))
    else
     some ((false,false,false,true,true,false,0,0,0,0,0,0,r4.1,r4.2.1,r5.1,r5.2.1,0,0,0))
    else
    Option.bind (y2 u4 u0 u6 u5 r0.2.1 r0.2.2) fun r6 =>
    if(r6.2.2==0)=true then
     some ((false,false,false,true,false,true,0,0,0,0,0,0,r4.1,r4.2.1,0,0,r6.1,r6.2.1,0))
    else
     some ((false,false,false,true,false,false,0,0,0,0,0,0,r4.1,r4.2.1,0,0,0,0,0))
   else
    Option.bind (y4 u4 u0 u6 u5 r0.2.1 r0.2.2) fun r5 =>
    if(r5.2.2==0)=true then
    Option.bind (y2 u4 u0 u6 u5 r0.2.1 r0.2.2) fun r6 =>
    if(r6.2.2==0)=true then
     some ((false,false,false,false,true,true,0,0,0,0,0,0,0,0,r5.1,r5.2.1,r6.1,r6.2.1,0))
    else
     some ((false,false,false,false,true,false,0,0,0,0,0,0,0,0,r5.1,r5.2.1,0,0,0))
    else
    Option.bind (y2 u4 u0 u6 u5 r0.2.1 r0.2.2) fun r6 =>
    if(r6.2.2==0)=true then
     some ((false,false,false,false,false,true,0,0,0,0,0,0,0,0,0,0,r6.1,r6.2.1,0))
    else
     some ((false,false,false,false,false,false,0,0,0,0,0,0,0,0,0,0,0,0,0))
def jfu:List Lf→Option GT
 |[.d (.i .i64 u4),.r (.floats .f32 u0),.d (.i .i64 u6),.d (.i .i64 u5)]=>some (.leaf (ok (y12 u4 u0 u6 u5)) [.s [.d (.b ((val (y12 u4 u0 u6 u5)).1)),.d (.b ((val (y12 u4 u0 u6 u5)).2.1)),.d (.b ((val (y12 u4 u0 u6 u5)).2.2.1)),.d (.b ((val (y12 u4 u0 u6 u5)).2.2.2.1)),.d (.b ((val (y12 u4 u0 u6 u5)).2.2.2.2.1)),.d (.b ((val (y12 u4 u0 u6 u5)).2.2.2.2.2.1)),.d (.i .i64 ((val (y12 u4 u0 u6 u5)).2.2.2.2.2.2.1)),.d (.i .i64 ((val (y12 u4 u0 u6 u5)).2.2.2.2.2.2.2.1)),.d (.i .i64 ((val (y12 u4 u0 u6 u5)).2.2.2.2.2.2.2.2.1)),.d (.i .i64 ((val (y12 u4 u0 u6 u5)).2.2.2.2.2.2.2.2.2.1)),.d (.i .i64 ((val (y12 u4 u0 u6 u5)).2.2.2.2.2.2.2.2.2.2.1)),.d (.i .i64 ((val (y12 u4 u0 u6 u5)).2.2.2.2.2.2.2.2.2.2.2.1)),.d (.i .i64 ((val (y12 u4 u0 u6 u5)).2.2.2.2.2.2.2.2.2.2.2.2.1)),.d (.i .i64 ((val (y12 u4 u0 u6 u5)).2.2.2.2.2.2.2.2.2.2.2.2.2.1)),.d (.i .i64 ((val (y12 u4 u0 u6 u5)).2.2.2.2.2.2.2.2.2.2.2.2.2.2.1)),.d (.i .i64 ((val (y12 u4 u0 u6 u5)).2.2.2.2.2.2.2.2.2.2.2.2.2.2.2.1)),.d (.i .i64 ((val (y12 u4 u0 u6 u5)).2.2.2.2.2.2.2.2.2.2.2.2.2.2.2.2.1)),.d (.i .i64 ((val (y12 u4 u0 u6 u5)).2.2.2.2.2.2.2.2.2.2.2.2.2.2.2.2.2.1))],.c (.d (.i .i64 ((val (y12 u4 u0 u6 u5)).2.2.2.2.2.2.2.2.2.2.2.2.2.2.2.2.2.2)))])
 |_=>none
abbrev sp_60:jab→jab:=jas 60 true (jal jft jfu)
def jqI (u4:Int) (u0:List Nat) (u6 u5:Int):T (Bool × Bool × Bool × Bool × Bool × Bool × Int × Int × Int × Int × Int × Int × Int × Int × Int × Int × Int × Int × Int) :=
 .brB ((val (jao u4 u0 u6 u5)).1 != 0)
 (.call (jao u4 u0 u6 u5) fun r0 =>
 .brB (r0.1 != 0)
 (.obT
 (.obT
 (.rc (((false,false,false,false,false,false,0,0,0,0,0,0,0,0,0,0,0,0,r0.1))))))
 (.bad (fun r=>False)))
 (.call (jao u4 u0 u6 u5) fun r0 =>
 .obT
 (.obC (((0:Int)≤0∧(0:Int)<3)∧true=true) (by decide)
 (.obC _ jqW
 (.obT
 (.obC (((0:Int)≤1∧(1:Int)<3)∧true=true) (by decide)
 (.obC _ jiO
 (.obT
 (.obC (((0:Int)≤2∧(2:Int)<3)∧true=true) (by decide)
 (.obC _ jdp
 (.obT
 (.obC _ jqW
 (.call (y22 u4 u0 u6 u5 r0.2.1 r0.2.2 (0:Int)) fun r1 =>
 .brB (r1.2.2==0)
 (.obC _ jqW
 (.obC _ jaF
 (.obC _ jqW
 (.obC _ jaG
 (.obC _ jiO
 (.call (y22 u4 u0 u6 u5 r0.2.1 r0.2.2 (1:Int)) fun r2 =>
 .brB (r2.2.2==0)
 (.obC _ jiO
 (.obC _ jaF
 (.obC _ jiO
 (.obC _ jaG
 (.obC _ jdp
 (.call (y22 u4 u0 u6 u5 r0.2.1 r0.2.2 (2:Int)) fun r3 =>
 .brB (r3.2.2==0)
 (.obC _ jdp
 (.obC _ jaF
 (.obC _ jdp
 (.obC _ jaG
 (.obC _ jbD
 (.call (y15 u4 u0 u6 u5 r0.2.1 r0.2.2) fun r4 =>
 .brB (r4.2.2==0)
 (.obC _ jbD
 (.obC _ jaF
 (.obC _ jbD
 (.obC _ jaG
 (.obC _ jaR
 (.call (y4 u4 u0 u6 u5 r0.2.1 r0.2.2) fun r5 =>
 .brB (r5.2.2==0)
 (.obC _ jaR
 (.obC _ jaF
 (.obC _ jaR
 (.obC _ jaG
 (.obC _ jar
 (.call (y2 u4 u0 u6 u5 r0.2.1 r0.2.2) fun r6 =>
 .brB (r6.2.2==0)
 (.obC _ jar
 (.obC _ jaF
 (.obC _ jar
 (.obC _ jaG
 (.obT
 (.obT
 (.rc (((true,true,true,true,true,true,r1.1,r1.2.1,r2.1,r2.2.1,r3.1,r3.2.1,r4.1,r4.2.1,r5.1,r5.2.1,r6.1,r6.2.1,0))))))))))
 (.obT
 (.obT
 (.rc (((true,true,true,true,true,false,r1.1,r1.2.1,r2.1,r2.2.1,r3.1,r3.2.1,r4.1,r4.2.1,r5.1,r5.2.1,0,0,0))))))))))))
 (.obC _ jar
 (.call (y2 u4 u0 u6 u5 r0.2.1 r0.2.2) fun r6 =>
 .brB (r6.2.2==0)
 (.obC _ jar
 (.obC _ jaF
 (.obC _ jar
 (.obC _ jaG
 (.obT
 (.obT
 (.rc (((true,true,true,true,false,true,r1.1,r1.2.1,r2.1,r2.2.1,r3.1,r3.2.1,r4.1,r4.2.1,0,0,r6.1,r6.2.1,0))))))))))
 (.obT
 (.obT
 (.rc (((true,true,true,true,false,false,r1.1,r1.2.1,r2.1,r2.2.1,r3.1,r3.2.1,r4.1,r4.2.1,0,0,0,0,0))))))))))))))
 (.obC _ jaR
 (.call (y4 u4 u0 u6 u5 r0.2.1 r0.2.2) fun r5 =>
 .brB (r5.2.2==0)
 (.obC _ jaR
 (.obC _ jaF
 (.obC _ jaR
 (.obC _ jaG
 (.obC _ jar
 (.call (y2 u4 u0 u6 u5 r0.2.1 r0.2.2) fun r6 =>
 .brB (r6.2.2==0)
 (.obC _ jar
 (.obC _ jaF
 (.obC _ jar
 (.obC _ jaG
 (.obT
 (.obT
 (.rc (((true,true,true,false,true,true,r1.1,r1.2.1,r2.1,r2.2.1,r3.1,r3.2.1,0,0,r5.1,r5.2.1,r6.1,r6.2.1,0))))))))))
 (.obT
 (.obT
 (.rc (((true,true,true,false,true,false,r1.1,r1.2.1,r2.1,r2.2.1,r3.1,r3.2.1,0,0,r5.1,r5.2.1,0,0,0))))))))))))
 (.obC _ jar
 (.call (y2 u4 u0 u6 u5 r0.2.1 r0.2.2) fun r6 =>
 .brB (r6.2.2==0)
 (.obC _ jar
 (.obC _ jaF
 (.obC _ jar
 (.obC _ jaG
 (.obT
 (.obT
 (.rc (((true,true,true,false,false,true,r1.1,r1.2.1,r2.1,r2.2.1,r3.1,r3.2.1,0,0,0,0,r6.1,r6.2.1,0))))))))))
 (.obT
 (.obT
 (.rc (((true,true,true,false,false,false,r1.1,r1.2.1,r2.1,r2.2.1,r3.1,r3.2.1,0,0,0,0,0,0,0))))))))))))))))
 (.obC _ jbD
 (.call (y15 u4 u0 u6 u5 r0.2.1 r0.2.2) fun r4 =>
 .brB (r4.2.2==0)
 (.obC _ jbD
 (.obC _ jaF
 (.obC _ jbD
 (.obC _ jaG
 (.obC _ jaR
 (.call (y4 u4 u0 u6 u5 r0.2.1 r0.2.2) fun r5 =>
 .brB (r5.2.2==0)
 (.obC _ jaR
 (.obC _ jaF
 (.obC _ jaR
 (.obC _ jaG
 (.obC _ jar
 (.call (y2 u4 u0 u6 u5 r0.2.1 r0.2.2) fun r6 =>
 .brB (r6.2.2==0)
 (.obC _ jar
 (.obC _ jaF
 (.obC _ jar
 (.obC _ jaG
 (.obT
 (.obT
 (.rc (((true,true,false,true,true,true,r1.1,r1.2.1,r2.1,r2.2.1,0,0,r4.1,r4.2.1,r5.1,r5.2.1,r6.1,r6.2.1,0))))))))))
 (.obT
 (.obT
 (.rc (((true,true,false,true,true,false,r1.1,r1.2.1,r2.1,r2.2.1,0,0,r4.1,r4.2.1,r5.1,r5.2.1,0,0,0))))))))))))
 (.obC _ jar
 (.call (y2 u4 u0 u6 u5 r0.2.1 r0.2.2) fun r6 =>
 .brB (r6.2.2==0)
 (.obC _ jar
 (.obC _ jaF
 (.obC _ jar
 (.obC _ jaG
 (.obT
 (.obT
 (.rc (((true,true,false,true,false,true,r1.1,r1.2.1,r2.1,r2.2.1,0,0,r4.1,r4.2.1,0,0,r6.1,r6.2.1,0))))))))))
 (.obT
 (.obT
 (.rc (((true,true,false,true,false,false,r1.1,r1.2.1,r2.1,r2.2.1,0,0,r4.1,r4.2.1,0,0,0,0,0))))))))))))))
 (.obC _ jaR
 (.call (y4 u4 u0 u6 u5 r0.2.1 r0.2.2) fun r5 =>
 .brB (r5.2.2==0)
 (.obC _ jaR
 (.obC _ jaF
 (.obC _ jaR
 (.obC _ jaG
 (.obC _ jar
 (.call (y2 u4 u0 u6 u5 r0.2.1 r0.2.2) fun r6 =>
 .brB (r6.2.2==0)
 (.obC _ jar
 (.obC _ jaF
 (.obC _ jar
 (.obC _ jaG
 (.obT
 (.obT
 (.rc (((true,true,false,false,true,true,r1.1,r1.2.1,r2.1,r2.2.1,0,0,0,0,r5.1,r5.2.1,r6.1,r6.2.1,0))))))))))
 (.obT
 (.obT
 (.rc (((true,true,false,false,true,false,r1.1,r1.2.1,r2.1,r2.2.1,0,0,0,0,r5.1,r5.2.1,0,0,0))))))))))))
 (.obC _ jar
 (.call (y2 u4 u0 u6 u5 r0.2.1 r0.2.2) fun r6 =>
 .brB (r6.2.2==0)
 (.obC _ jar
 (.obC _ jaF
 (.obC _ jar
 (.obC _ jaG
 (.obT
 (.obT
 (.rc (((true,true,false,false,false,true,r1.1,r1.2.1,r2.1,r2.2.1,0,0,0,0,0,0,r6.1,r6.2.1,0))))))))))
 (.obT
 (.obT
 (.rc (((true,true,false,false,false,false,r1.1,r1.2.1,r2.1,r2.2.1,0,0,0,0,0,0,0,0,0))))))))))))))))))
 (.obC _ jdp
 (.call (y22 u4 u0 u6 u5 r0.2.1 r0.2.2 (2:Int)) fun r3 =>
 .brB (r3.2.2==0)
 (.obC _ jdp
 (.obC _ jaF
 (.obC _ jdp
 (.obC _ jaG
 (.obC _ jbD
 (.call (y15 u4 u0 u6 u5 r0.2.1 r0.2.2) fun r4 =>
 .brB (r4.2.2==0)
 (.obC _ jbD
 (.obC _ jaF
 (.obC _ jbD
 (.obC _ jaG
 (.obC _ jaR
 (.call (y4 u4 u0 u6 u5 r0.2.1 r0.2.2) fun r5 =>
 .brB (r5.2.2==0)
 (.obC _ jaR
 (.obC _ jaF
 (.obC _ jaR
 (.obC _ jaG
 (.obC _ jar
 (.call (y2 u4 u0 u6 u5 r0.2.1 r0.2.2) fun r6 =>
 .brB (r6.2.2==0)
 (.obC _ jar
 (.obC _ jaF
 (.obC _ jar
 (.obC _ jaG
 (.obT
 (.obT
 (.rc (((true,false,true,true,true,true,r1.1,r1.2.1,0,0,r3.1,r3.2.1,r4.1,r4.2.1,r5.1,r5.2.1,r6.1,r6.2.1,0))))))))))
 (.obT
 (.obT
 (.rc (((true,false,true,true,true,false,r1.1,r1.2.1,0,0,r3.1,r3.2.1,r4.1,r4.2.1,r5.1,r5.2.1,0,0,0))))))))))))
 (.obC _ jar
 (.call (y2 u4 u0 u6 u5 r0.2.1 r0.2.2) fun r6 =>
 .brB (r6.2.2==0)
 (.obC _ jar
 (.obC _ jaF
 (.obC _ jar
 (.obC _ jaG
 (.obT
 (.obT
 (.rc (((true,false,true,true,false,true,r1.1,r1.2.1,0,0,r3.1,r3.2.1,r4.1,r4.2.1,0,0,r6.1,r6.2.1,0))))))))))
 (.obT
 (.obT
 (.rc (((true,false,true,true,false,false,r1.1,r1.2.1,0,0,r3.1,r3.2.1,r4.1,r4.2.1,0,0,0,0,0))))))))))))))
 (.obC _ jaR
 (.call (y4 u4 u0 u6 u5 r0.2.1 r0.2.2) fun r5 =>
 .brB (r5.2.2==0)
 (.obC _ jaR
 (.obC _ jaF
 (.obC _ jaR
 (.obC _ jaG
 (.obC _ jar
 (.call (y2 u4 u0 u6 u5 r0.2.1 r0.2.2) fun r6 =>
 .brB (r6.2.2==0)
 (.obC _ jar
 (.obC _ jaF
 (.obC _ jar
 (.obC _ jaG
 (.obT
 (.obT
 (.rc (((true,false,true,false,true,true,r1.1,r1.2.1,0,0,r3.1,r3.2.1,0,0,r5.1,r5.2.1,r6.1,r6.2.1,0))))))))))
 (.obT
 (.obT
 (.rc (((true,false,true,false,true,false,r1.1,r1.2.1,0,0,r3.1,r3.2.1,0,0,r5.1,r5.2.1,0,0,0))))))))))))
 (.obC _ jar
 (.call (y2 u4 u0 u6 u5 r0.2.1 r0.2.2) fun r6 =>
 .brB (r6.2.2==0)
 (.obC _ jar
 (.obC _ jaF
 (.obC _ jar
 (.obC _ jaG
 (.obT
 (.obT
 (.rc (((true,false,true,false,false,true,r1.1,r1.2.1,0,0,r3.1,r3.2.1,0,0,0,0,r6.1,r6.2.1,0))))))))))
 (.obT
 (.obT
 (.rc (((true,false,true,false,false,false,r1.1,r1.2.1,0,0,r3.1,r3.2.1,0,0,0,0,0,0,0))))))))))))))))
 (.obC _ jbD
 (.call (y15 u4 u0 u6 u5 r0.2.1 r0.2.2) fun r4 =>
 .brB (r4.2.2==0)
 (.obC _ jbD
 (.obC _ jaF
 (.obC _ jbD
 (.obC _ jaG
 (.obC _ jaR
 (.call (y4 u4 u0 u6 u5 r0.2.1 r0.2.2) fun r5 =>
 .brB (r5.2.2==0)
 (.obC _ jaR
 (.obC _ jaF
 (.obC _ jaR
 (.obC _ jaG
 (.obC _ jar
 (.call (y2 u4 u0 u6 u5 r0.2.1 r0.2.2) fun r6 =>
 .brB (r6.2.2==0)
 (.obC _ jar
 (.obC _ jaF
 (.obC _ jar
 (.obC _ jaG
 (.obT
 (.obT
 (.rc (((true,false,false,true,true,true,r1.1,r1.2.1,0,0,0,0,r4.1,r4.2.1,r5.1,r5.2.1,r6.1,r6.2.1,0))))))))))
 (.obT
 (.obT
 (.rc (((true,false,false,true,true,false,r1.1,r1.2.1,0,0,0,0,r4.1,r4.2.1,r5.1,r5.2.1,0,0,0))))))))))))
 (.obC _ jar
 (.call (y2 u4 u0 u6 u5 r0.2.1 r0.2.2) fun r6 =>
 .brB (r6.2.2==0)
 (.obC _ jar
 (.obC _ jaF
 (.obC _ jar
 (.obC _ jaG
 (.obT
 (.obT
 (.rc (((true,false,false,true,false,true,r1.1,r1.2.1,0,0,0,0,r4.1,r4.2.1,0,0,r6.1,r6.2.1,0))))))))))
 (.obT
 (.obT
 (.rc (((true,false,false,true,false,false,r1.1,r1.2.1,0,0,0,0,r4.1,r4.2.1,0,0,0,0,0))))))))))))))
 (.obC _ jaR
 (.call (y4 u4 u0 u6 u5 r0.2.1 r0.2.2) fun r5 =>
 .brB (r5.2.2==0)
 (.obC _ jaR
 (.obC _ jaF
 (.obC _ jaR
 (.obC _ jaG
 (.obC _ jar
 (.call (y2 u4 u0 u6 u5 r0.2.1 r0.2.2) fun r6 =>
 .brB (r6.2.2==0)
 (.obC _ jar
 (.obC _ jaF
 (.obC _ jar
 (.obC _ jaG
 (.obT
 (.obT
 (.rc (((true,false,false,false,true,true,r1.1,r1.2.1,0,0,0,0,0,0,r5.1,r5.2.1,r6.1,r6.2.1,0))))))))))
 (.obT
 (.obT
 (.rc (((true,false,false,false,true,false,r1.1,r1.2.1,0,0,0,0,0,0,r5.1,r5.2.1,0,0,0))))))))))))
 (.obC _ jar
 (.call (y2 u4 u0 u6 u5 r0.2.1 r0.2.2) fun r6 =>
 .brB (r6.2.2==0)
 (.obC _ jar
 (.obC _ jaF
 (.obC _ jar
 (.obC _ jaG
 (.obT
 (.obT
 (.rc (((true,false,false,false,false,true,r1.1,r1.2.1,0,0,0,0,0,0,0,0,r6.1,r6.2.1,0))))))))))
 (.obT
 (.obT
 (.rc (((true,false,false,false,false,false,r1.1,r1.2.1,0,0,0,0,0,0,0,0,0,0,0))))))))))))))))))))
 (.obC _ jiO
 (.call (y22 u4 u0 u6 u5 r0.2.1 r0.2.2 (1:Int)) fun r2 =>
 .brB (r2.2.2==0)
 (.obC _ jiO
 (.obC _ jaF
 (.obC _ jiO
 (.obC _ jaG
 (.obC _ jdp
 (.call (y22 u4 u0 u6 u5 r0.2.1 r0.2.2 (2:Int)) fun r3 =>
 .brB (r3.2.2==0)
 (.obC _ jdp
 (.obC _ jaF
 (.obC _ jdp
 (.obC _ jaG
 (.obC _ jbD
 (.call (y15 u4 u0 u6 u5 r0.2.1 r0.2.2) fun r4 =>
 .brB (r4.2.2==0)
 (.obC _ jbD
 (.obC _ jaF
 (.obC _ jbD
 (.obC _ jaG
 (.obC _ jaR
 (.call (y4 u4 u0 u6 u5 r0.2.1 r0.2.2) fun r5 =>
 .brB (r5.2.2==0)
 (.obC _ jaR
 (.obC _ jaF
 (.obC _ jaR
 (.obC _ jaG
 (.obC _ jar
 (.call (y2 u4 u0 u6 u5 r0.2.1 r0.2.2) fun r6 =>
 .brB (r6.2.2==0)
 (.obC _ jar
 (.obC _ jaF
 (.obC _ jar
 (.obC _ jaG
 (.obT
 (.obT
 (.rc (((false,true,true,true,true,true,0,0,r2.1,r2.2.1,r3.1,r3.2.1,r4.1,r4.2.1,r5.1,r5.2.1,r6.1,r6.2.1,0))))))))))
 (.obT
 (.obT
 (.rc (((false,true,true,true,true,false,0,0,r2.1,r2.2.1,r3.1,r3.2.1,r4.1,r4.2.1,r5.1,r5.2.1,0,0,0))))))))))))
 (.obC _ jar
 (.call (y2 u4 u0 u6 u5 r0.2.1 r0.2.2) fun r6 =>
 .brB (r6.2.2==0)
 (.obC _ jar
 (.obC _ jaF
 (.obC _ jar
 (.obC _ jaG
 (.obT
 (.obT
 (.rc (((false,true,true,true,false,true,0,0,r2.1,r2.2.1,r3.1,r3.2.1,r4.1,r4.2.1,0,0,r6.1,r6.2.1,0))))))))))
 (.obT
 (.obT
 (.rc (((false,true,true,true,false,false,0,0,r2.1,r2.2.1,r3.1,r3.2.1,r4.1,r4.2.1,0,0,0,0,0))))))))))))))
 (.obC _ jaR
 (.call (y4 u4 u0 u6 u5 r0.2.1 r0.2.2) fun r5 =>
 .brB (r5.2.2==0)
 (.obC _ jaR
 (.obC _ jaF
 (.obC _ jaR
 (.obC _ jaG
 (.obC _ jar
 (.call (y2 u4 u0 u6 u5 r0.2.1 r0.2.2) fun r6 =>
 .brB (r6.2.2==0)
 (.obC _ jar
 (.obC _ jaF
 (.obC _ jar
 (.obC _ jaG
 (.obT
 (.obT
 (.rc (((false,true,true,false,true,true,0,0,r2.1,r2.2.1,r3.1,r3.2.1,0,0,r5.1,r5.2.1,r6.1,r6.2.1,0))))))))))
 (.obT
 (.obT
 (.rc (((false,true,true,false,true,false,0,0,r2.1,r2.2.1,r3.1,r3.2.1,0,0,r5.1,r5.2.1,0,0,0))))))))))))
 (.obC _ jar
 (.call (y2 u4 u0 u6 u5 r0.2.1 r0.2.2) fun r6 =>
 .brB (r6.2.2==0)
 (.obC _ jar
 (.obC _ jaF
 (.obC _ jar
 (.obC _ jaG
 (.obT
 (.obT
 (.rc (((false,true,true,false,false,true,0,0,r2.1,r2.2.1,r3.1,r3.2.1,0,0,0,0,r6.1,r6.2.1,0))))))))))
 (.obT
 (.obT
 (.rc (((false,true,true,false,false,false,0,0,r2.1,r2.2.1,r3.1,r3.2.1,0,0,0,0,0,0,0))))))))))))))))
 (.obC _ jbD
 (.call (y15 u4 u0 u6 u5 r0.2.1 r0.2.2) fun r4 =>
 .brB (r4.2.2==0)
 (.obC _ jbD
 (.obC _ jaF
 (.obC _ jbD
 (.obC _ jaG
 (.obC _ jaR
 (.call (y4 u4 u0 u6 u5 r0.2.1 r0.2.2) fun r5 =>
 .brB (r5.2.2==0)
 (.obC _ jaR
 (.obC _ jaF
 (.obC _ jaR
 (.obC _ jaG
 (.obC _ jar
 (.call (y2 u4 u0 u6 u5 r0.2.1 r0.2.2) fun r6 =>
 .brB (r6.2.2==0)
 (.obC _ jar
 (.obC _ jaF
 (.obC _ jar
 (.obC _ jaG
 (.obT
 (.obT
 (.rc (((false,true,false,true,true,true,0,0,r2.1,r2.2.1,0,0,r4.1,r4.2.1,r5.1,r5.2.1,r6.1,r6.2.1,0))))))))))
 (.obT
 (.obT
 (.rc (((false,true,false,true,true,false,0,0,r2.1,r2.2.1,0,0,r4.1,r4.2.1,r5.1,r5.2.1,0,0,0))))))))))))
 (.obC _ jar
 (.call (y2 u4 u0 u6 u5 r0.2.1 r0.2.2) fun r6 =>
 .brB (r6.2.2==0)
 (.obC _ jar
 (.obC _ jaF
 (.obC _ jar
 (.obC _ jaG
 (.obT
 (.obT
 (.rc (((false,true,false,true,false,true,0,0,r2.1,r2.2.1,0,0,r4.1,r4.2.1,0,0,r6.1,r6.2.1,0))))))))))
 (.obT
 (.obT
 (.rc (((false,true,false,true,false,false,0,0,r2.1,r2.2.1,0,0,r4.1,r4.2.1,0,0,0,0,0))))))))))))))
 (.obC _ jaR
 (.call (y4 u4 u0 u6 u5 r0.2.1 r0.2.2) fun r5 =>
 .brB (r5.2.2==0)
 (.obC _ jaR
 (.obC _ jaF
 (.obC _ jaR
 (.obC _ jaG
 (.obC _ jar
 (.call (y2 u4 u0 u6 u5 r0.2.1 r0.2.2) fun r6 =>
 .brB (r6.2.2==0)
 (.obC _ jar
 (.obC _ jaF
 (.obC _ jar
 (.obC _ jaG
 (.obT
 (.obT
 (.rc (((false,true,false,false,true,true,0,0,r2.1,r2.2.1,0,0,0,0,r5.1,r5.2.1,r6.1,r6.2.1,0))))))))))
 (.obT
 (.obT
 (.rc (((false,true,false,false,true,false,0,0,r2.1,r2.2.1,0,0,0,0,r5.1,r5.2.1,0,0,0))))))))))))
 (.obC _ jar
 (.call (y2 u4 u0 u6 u5 r0.2.1 r0.2.2) fun r6 =>
 .brB (r6.2.2==0)
 (.obC _ jar
 (.obC _ jaF
 (.obC _ jar
 (.obC _ jaG
 (.obT
 (.obT
 (.rc (((false,true,false,false,false,true,0,0,r2.1,r2.2.1,0,0,0,0,0,0,r6.1,r6.2.1,0))))))))))
 (.obT
 (.obT
 (.rc (((false,true,false,false,false,false,0,0,r2.1,r2.2.1,0,0,0,0,0,0,0,0,0))))))))))))))))))
 (.obC _ jdp
 (.call (y22 u4 u0 u6 u5 r0.2.1 r0.2.2 (2:Int)) fun r3 =>
 .brB (r3.2.2==0)
 (.obC _ jdp
 (.obC _ jaF
 (.obC _ jdp
 (.obC _ jaG
 (.obC _ jbD
 (.call (y15 u4 u0 u6 u5 r0.2.1 r0.2.2) fun r4 =>
 .brB (r4.2.2==0)
 (.obC _ jbD
 (.obC _ jaF
 (.obC _ jbD
 (.obC _ jaG
 (.obC _ jaR
 (.call (y4 u4 u0 u6 u5 r0.2.1 r0.2.2) fun r5 =>
 .brB (r5.2.2==0)
 (.obC _ jaR
 (.obC _ jaF
 (.obC _ jaR
 (.obC _ jaG
 (.obC _ jar
 (.call (y2 u4 u0 u6 u5 r0.2.1 r0.2.2) fun r6 =>
 .brB (r6.2.2==0)
 (.obC _ jar
 (.obC _ jaF
 (.obC _ jar
 (.obC _ jaG
 (.obT
 (.obT
 (.rc (((false,false,true,true,true,true,0,0,0,0,r3.1,r3.2.1,r4.1,r4.2.1,r5.1,r5.2.1,r6.1,r6.2.1,0))))))))))
 (.obT
 (.obT
 (.rc (((false,false,true,true,true,false,0,0,0,0,r3.1,r3.2.1,r4.1,r4.2.1,r5.1,r5.2.1,0,0,0))))))))))))
 (.obC _ jar
 (.call (y2 u4 u0 u6 u5 r0.2.1 r0.2.2) fun r6 =>
 .brB (r6.2.2==0)
 (.obC _ jar
 (.obC _ jaF
 (.obC _ jar
 (.obC _ jaG
 (.obT
 (.obT
 (.rc (((false,false,true,true,false,true,0,0,0,0,r3.1,r3.2.1,r4.1,r4.2.1,0,0,r6.1,r6.2.1,0))))))))))
 (.obT
 (.obT
 (.rc (((false,false,true,true,false,false,0,0,0,0,r3.1,r3.2.1,r4.1,r4.2.1,0,0,0,0,0))))))))))))))
 (.obC _ jaR
 (.call (y4 u4 u0 u6 u5 r0.2.1 r0.2.2) fun r5 =>
 .brB (r5.2.2==0)
 (.obC _ jaR
 (.obC _ jaF
 (.obC _ jaR
 (.obC _ jaG
 (.obC _ jar
 (.call (y2 u4 u0 u6 u5 r0.2.1 r0.2.2) fun r6 =>
 .brB (r6.2.2==0)
 (.obC _ jar
 (.obC _ jaF
 (.obC _ jar
 (.obC _ jaG
 (.obT
 (.obT
 (.rc (((false,false,true,false,true,true,0,0,0,0,r3.1,r3.2.1,0,0,r5.1,r5.2.1,r6.1,r6.2.1,0))))))))))
 (.obT
 (.obT
 (.rc (((false,false,true,false,true,false,0,0,0,0,r3.1,r3.2.1,0,0,r5.1,r5.2.1,0,0,0))))))))))))
 (.obC _ jar
 (.call (y2 u4 u0 u6 u5 r0.2.1 r0.2.2) fun r6 =>
 .brB (r6.2.2==0)
 (.obC _ jar
 (.obC _ jaF
 (.obC _ jar
 (.obC _ jaG
 (.obT
 (.obT
 (.rc (((false,false,true,false,false,true,0,0,0,0,r3.1,r3.2.1,0,0,0,0,r6.1,r6.2.1,0))))))))))
 (.obT
 (.obT
 (.rc (((false,false,true,false,false,false,0,0,0,0,r3.1,r3.2.1,0,0,0,0,0,0,0))))))))))))))))
 (.obC _ jbD
 (.call (y15 u4 u0 u6 u5 r0.2.1 r0.2.2) fun r4 =>
 .brB (r4.2.2==0)
 (.obC _ jbD
 (.obC _ jaF
 (.obC _ jbD
 (.obC _ jaG
 (.obC _ jaR
 (.call (y4 u4 u0 u6 u5 r0.2.1 r0.2.2) fun r5 =>
 .brB (r5.2.2==0)
 (.obC _ jaR
 (.obC _ jaF
 (.obC _ jaR
 (.obC _ jaG
 (.obC _ jar
 (.call (y2 u4 u0 u6 u5 r0.2.1 r0.2.2) fun r6 =>
 .brB (r6.2.2==0)
 (.obC _ jar
 (.obC _ jaF
 (.obC _ jar
 (.obC _ jaG
 (.obT
 (.obT
 (.rc (((false,false,false,true,true,true,0,0,0,0,0,0,r4.1,r4.2.1,r5.1,r5.2.1,r6.1,r6.2.1,0))))))))))
 (.obT
 (.obT
 (.rc (((false,false,false,true,true,false,0,0,0,0,0,0,r4.1,r4.2.1,r5.1,r5.2.1,0,0,0))))))))))))
 (.obC _ jar
 (.call (y2 u4 u0 u6 u5 r0.2.1 r0.2.2) fun r6 =>
 .brB (r6.2.2==0)
 (.obC _ jar
 (.obC _ jaF
 (.obC _ jar
 (.obC _ jaG
 (.obT
 (.obT
 (.rc (((false,false,false,true,false,true,0,0,0,0,0,0,r4.1,r4.2.1,0,0,r6.1,r6.2.1,0))))))))))
 (.obT
 (.obT
 (.rc (((false,false,false,true,false,false,0,0,0,0,0,0,r4.1,r4.2.1,0,0,0,0,0))))))))))))))
 (.obC _ jaR
 (.call (y4 u4 u0 u6 u5 r0.2.1 r0.2.2) fun r5 =>
 .brB (r5.2.2==0)
 (.obC _ jaR
 (.obC _ jaF
 (.obC _ jaR
 (.obC _ jaG
 (.obC _ jar
 (.call (y2 u4 u0 u6 u5 r0.2.1 r0.2.2) fun r6 =>
 .brB (r6.2.2==0)
 (.obC _ jar
 (.obC _ jaF
 (.obC _ jar
 (.obC _ jaG
 (.obT
 (.obT
 (.rc (((false,false,false,false,true,true,0,0,0,0,0,0,0,0,r5.1,r5.2.1,r6.1,r6.2.1,0))))))))))
 (.obT
 (.obT
 (.rc (((false,false,false,false,true,false,0,0,0,0,0,0,0,0,r5.1,r5.2.1,0,0,0))))))))))))
 (.obC _ jar
 (.call (y2 u4 u0 u6 u5 r0.2.1 r0.2.2) fun r6 =>
 .brB (r6.2.2==0)
 (.obC _ jar
 (.obC _ jaF
 (.obC _ jar
 (.obC _ jaG
 (.obT
 (.obT
 (.rc (((false,false,false,false,false,true,0,0,0,0,0,0,0,0,0,0,r6.1,r6.2.1,0))))))))))
 (.obT
 (.obT
 (.rc (((false,false,false,false,false,false,0,0,0,0,0,0,0,0,0,0,0,0,0))))))))))))))))))))))))))))
theorem jpf (u4:Int) (u0:List Nat) (u6 u5:Int) (r:Bool × Bool × Bool × Bool × Bool × Bool × Int × Int × Int × Int × Int × Int × Int × Int × Int × Int × Int × Int × Int) (h:Option.bind (y12 u4 u0 u6 u5) some=some r):jaY Tryz.f60 ((sp_67 (sp_82 (sp_102 (sp_103 (sp_104 sp0)))))) (fun _ _ _=>none) (jaO jft [.d (.i .i64 u4),.r (.floats .f32 u0),.d (.i .i64 u6),.d (.i .i64 u5)]) [.s [.d (.b r.1),.d (.b r.2.1),.d (.b r.2.2.1),.d (.b r.2.2.2.1),.d (.b r.2.2.2.2.1),.d (.b r.2.2.2.2.2.1),.d (.i .i64 r.2.2.2.2.2.2.1),.d (.i .i64 r.2.2.2.2.2.2.2.1),.d (.i .i64 r.2.2.2.2.2.2.2.2.1),.d (.i .i64 r.2.2.2.2.2.2.2.2.2.1),.d (.i .i64 r.2.2.2.2.2.2.2.2.2.2.1),.d (.i .i64 r.2.2.2.2.2.2.2.2.2.2.2.1),.d (.i .i64 r.2.2.2.2.2.2.2.2.2.2.2.2.1),.d (.i .i64 r.2.2.2.2.2.2.2.2.2.2.2.2.2.1),.d (.i .i64 r.2.2.2.2.2.2.2.2.2.2.2.2.2.2.1),.d (.i .i64 r.2.2.2.2.2.2.2.2.2.2.2.2.2.2.2.1),.d (.i .i64 r.2.2.2.2.2.2.2.2.2.2.2.2.2.2.2.2.1),.d (.i .i64 r.2.2.2.2.2.2.2.2.2.2.2.2.2.2.2.2.2.1)],.c (.d (.i .i64 r.2.2.2.2.2.2.2.2.2.2.2.2.2.2.2.2.2.2))] :=
 T.vc (t:=jqI u4 u0 u6 u5) (by kernel_rfl) (by kernel_rfl) h
theorem jpg:jah Tryz.prog 60 true (jal jft jfu):=by
 refine jau (sp:=(sp_67 (sp_82 (sp_102 (sp_103 (sp_104 sp0)))))) (fn:=Tryz.f60) (body:=jai Tryz.f60) mixed (sp_67_ok (sp_82_ok (sp_102_ok (sp_103_ok (sp_104_ok jak))))) Tryz.func60 (by kernel_rfl) (by kernel_rfl) fun ls t h ho b hb=>?_
 unfold jfu at h
 split at h
 ·rename_i u4 u0 u6 u5
  cases h
  obtain rfl:=jaD hb
  exact⟨Nat.le_of_ble_eq_true (by kernel_rfl),_,_,jpf u4 u0 u6 u5 _ (jaj ho)⟩
 ·cases h
theorem sp_60_ok {sp:jab} (h:jac Tryz.prog sp):jac Tryz.prog (sp_60 sp):=jag jpg h
end Go.Sh
end

section
namespace Go.Sh
open Go Go.Proofs Go.RowKit Go.Sx
def jle:Int:=8000
def jlf:List Nat:=[1090519040,1082130432,1073741824,1065353216,0]
def jsy (fr:Int) (fs:List Nat):List Lf→Option GT
 |[]=>some (.leaf True [.s [.d (.i .i64 fr),.row 151 (.floats .f32 fs)]])
 |_=>none
abbrev sp_66v (fr:Int) (fs:List Nat):jab→jab:=jas 66 true (jal jiM (jsy fr fs))
theorem jzI:jah Tryz.prog 66 true (jal jiM (jsy jle jlf)):=by
 refine jau (sp:=sp0) (fn:=Tryz.f66) (body:=jai Tryz.f66) mixed jak Tryz.func66 (by kernel_rfl) (by kernel_rfl) fun ls t h ho b hb=>?_
 unfold jsy at h
 split at h
 ·cases h
  obtain rfl:=jaD hb
  exact⟨Nat.le_of_ble_eq_true (by kernel_rfl),_,_,jty (jle,jlf) rfl⟩
 ·cases h
theorem sp_66v_ok {sp:jab} (h:jac Tryz.prog sp):jac Tryz.prog (sp_66v jle jlf sp):=jag jzI h
end Go.Sh
end

section
namespace Go.Sh
open Go Go.Proofs Go.RowKit Go.Sx
def jlY:List (Option Cont):=[]
def jpS (fr:Int) (fs:List Nat):Option Bool :=
 Option.bind (jhO fr fs) fun r0 =>
 Option.bind (jew fr fs (1:Int)) fun r1 =>
 Option.bind (jdd fr fs (0:Int) (0:Int) (125:Int)) fun r2 =>
 Option.bind (jmu fr fs (1:Int)) fun r3 =>
 Option.bind (y12 fr fs (0:Int) (0:Int)) fun r4 =>
 if(r0.2==0)=true then
  Option.bind (jkd r0.1 [(85:Int),21,5,1,0]) fun r5 =>
  if(r5)=true then
  if(r1.2.2==0)=true then
   if(r1.1==750&&r1.2.1==1500)=true then
   if(r2.2.2==0)=true then
    if(r2.1==4&&r2.2.1==5)=true then
    if(r3.2.2==0)=true then
     if(r3.1==9&&r3.2.1==17)=true then
     if(r4.2.2.2.2.2.2.2.2.2.2.2.2.2.2.2.2.2.2==0)=true then
      Option.bind (y55 r4.1 r4.2.1 r4.2.2.1 r4.2.2.2.1 r4.2.2.2.2.1 r4.2.2.2.2.2.1 r4.2.2.2.2.2.2.1 r4.2.2.2.2.2.2.2.1 r4.2.2.2.2.2.2.2.2.1 r4.2.2.2.2.2.2.2.2.2.1 r4.2.2.2.2.2.2.2.2.2.2.1 r4.2.2.2.2.2.2.2.2.2.2.2.1 r4.2.2.2.2.2.2.2.2.2.2.2.2.1 r4.2.2.2.2.2.2.2.2.2.2.2.2.2.1 r4.2.2.2.2.2.2.2.2.2.2.2.2.2.2.1 r4.2.2.2.2.2.2.2.2.2.2.2.2.2.2.2.1 r4.2.2.2.2.2.2.2.2.2.2.2.2.2.2.2.2.1 r4.2.2.2.2.2.2.2.2.2.2.2.2.2.2.2.2.2.1) fun r6 =>
      some (r6==ByteArray.mk #[(55:UInt8),(53:UInt8),(48:UInt8),(32:UInt8),(49:UInt8),(53:UInt8),(48:UInt8),(48:UInt8),(32:UInt8),(55:UInt8),(53:UInt8),(48:UInt8),(32:UInt8),(49:UInt8),(53:UInt8),(48:UInt8),(48:UInt8),(32:UInt8),(53:UInt8),(48:UInt8),(48:UInt8),(32:UInt8),(49:UInt8),(48:UInt8),(48:UInt8),(48:UInt8),(32:UInt8),(45:UInt8),(32:UInt8),(49:UInt8),(48:UInt8),(48:UInt8),(48:UInt8),(32:UInt8),(49:UInt8),(48:UInt8),(48:UInt8),(48:UInt8),(32:UInt8),(51:UInt8),(57:UInt8),(32:UInt8),(52:UInt8),(48:UInt8)])
     else
      some false
     else
     some false
    else
     some false
    else
    some false
   else
    some false
   else
   some false
  else
   some false
  else
  some false
 else
  some false
def jtz (fr:Int) (fs:List Nat):T (Bool) :=
 .obT
 (.call (jhO fr fs) fun r0 =>
 .obT
 (.call (jew fr fs (1:Int)) fun r1 =>
 .obT
 (.call (jdd fr fs (0:Int) (0:Int) (125:Int)) fun r2 =>
 .obT
 (.call (jmu fr fs (1:Int)) fun r3 =>
 .obT
 (.call (y12 fr fs (0:Int) (0:Int)) fun r4 =>
 .brB (r0.2==0)
 (.call (jkd r0.1 [(85:Int),21,5,1,0]) fun r5 =>
 .brB (r5)
 (.brB (r1.2.2==0)
 (.brB (r1.1==750&&r1.2.1==1500)
 (.brB (r2.2.2==0)
 (.brB (r2.1==4&&r2.2.1==5)
 (.brB (r3.2.2==0)
 (.brB (r3.1==9&&r3.2.1==17)
 (.brB (r4.2.2.2.2.2.2.2.2.2.2.2.2.2.2.2.2.2.2==0)
 (.call (y55 r4.1 r4.2.1 r4.2.2.1 r4.2.2.2.1 r4.2.2.2.2.1 r4.2.2.2.2.2.1 r4.2.2.2.2.2.2.1 r4.2.2.2.2.2.2.2.1 r4.2.2.2.2.2.2.2.2.1 r4.2.2.2.2.2.2.2.2.2.1 r4.2.2.2.2.2.2.2.2.2.2.1 r4.2.2.2.2.2.2.2.2.2.2.2.1 r4.2.2.2.2.2.2.2.2.2.2.2.2.1 r4.2.2.2.2.2.2.2.2.2.2.2.2.2.1 r4.2.2.2.2.2.2.2.2.2.2.2.2.2.2.1 r4.2.2.2.2.2.2.2.2.2.2.2.2.2.2.2.1 r4.2.2.2.2.2.2.2.2.2.2.2.2.2.2.2.2.1 r4.2.2.2.2.2.2.2.2.2.2.2.2.2.2.2.2.2.1) fun r6 =>
 .obT
 (.rc ((r6==ByteArray.mk #[(55:UInt8),(53:UInt8),(48:UInt8),(32:UInt8),(49:UInt8),(53:UInt8),(48:UInt8),(48:UInt8),(32:UInt8),(55:UInt8),(53:UInt8),(48:UInt8),(32:UInt8),(49:UInt8),(53:UInt8),(48:UInt8),(48:UInt8),(32:UInt8),(53:UInt8),(48:UInt8),(48:UInt8),(32:UInt8),(49:UInt8),(48:UInt8),(48:UInt8),(48:UInt8),(32:UInt8),(45:UInt8),(32:UInt8),(49:UInt8),(48:UInt8),(48:UInt8),(48:UInt8),(32:UInt8),(49:UInt8),(48:UInt8),(48:UInt8),(48:UInt8),(32:UInt8),(51:UInt8),(57:UInt8),(32:UInt8),(52:UInt8),(48:UInt8)]))))
 (.obT
 (.rc (false))))
 (.obT
 (.rc (false))))
 (.obT
 (.rc (false))))
 (.obT
 (.rc (false))))
 (.obT
 (.rc (false))))
 (.obT
 (.rc (false))))
 (.obT
 (.rc (false))))
 (.obT
 (.rc (false))))
 (.obT
 (.rc (false))))))))
theorem jsz (fr:Int) (fs:List Nat) (r:Bool) (h:Option.bind (jpS fr fs) some=some r):ja6 Tryz.f15 ((sp_53 (sp_17 (sp_26 (sp_34 (sp_66v fr fs (sp_60 (sp_55 (sp_62 sp0))))))))) (fun _ _ _=>none) [] [.d (.b r)] :=
 T.vc (t:=jtz fr fs) (by kernel_rfl) (by kernel_rfl) h
end Go.Sh
end

section
namespace Go.Sh
open Go Go.Proofs Go.RowKit Go.Sx
set_option maxRecDepth 100000
set_option maxHeartbeats 4000000
theorem jyD:jpS jle jlf=some true:=by kernel_rfl
end Go.Sh
end

section
namespace Go.Sh
open Go Go.Proofs Go.RowKit Go.Sx
set_option maxRecDepth 100000
def jph:List A→Option (Prop × List RV)
 |[]=>some (True,[.d (.b true)])
 |_=>none
abbrev sp_15b:jab→jab:=jas 15 true (jaq jlY jph)
theorem jwD:jah Tryz.prog 15 true (jaq jlY jph):=by
 refine jaw (sp:=(sp_53 (sp_17 (sp_26 (sp_34 (sp_66v jle jlf (sp_60 (sp_55 (sp_62 sp0))))))))) (fn:=Tryz.f15) (body:=jai Tryz.f15) mixed (sp_53_ok (sp_17_ok (sp_26_ok (sp_34_ok (sp_66v_ok (sp_60_ok (sp_55_ok (sp_62_ok jak)))))))) Tryz.func15 (by kernel_rfl) (by kernel_rfl) fun as_ ob rs h ho=>?_
 unfold jph at h
 split at h
 ·cases h
  exact⟨Nat.le_of_ble_eq_true rfl,_,_,jsz jle jlf true (by rw[jyD]; rfl)⟩
 ·cases h
theorem sp_15b_ok {sp:jab} (h:jac Tryz.prog sp):jac Tryz.prog (sp_15b sp):=jag jwD h
end Go.Sh
end

section
namespace Go.Sh
open Go Go.Proofs Go.RowKit Go.Sx
def jfa:List SV:=[.a [.d,.r (.floats .f32 []),.d,.d]]
def jbM (u4:Int) (u0:List Nat) (u6 u5:Int):Option Bool :=
 Option.bind (jeF u4 u0) fun r0 =>
 if(!r0)=true then
  some true
 else
  Option.bind (jhi u4 u0 u6 u5) fun r1 =>
  Option.bind (y12 r1.1 r1.2.1 r1.2.2.1 r1.2.2.2) fun r2 =>
  Option.bind (jmy u4 u0 u6 u5) fun r3 =>
  if(r3 != 0)=true then
  if(r2.2.2.2.2.2.2.2.2.2.2.2.2.2.2.2.2.2.2==r3)=true then
   some (r2.1==false&&(r2.2.1==false&&(r2.2.2.1==false&&(r2.2.2.2.1==false&&(r2.2.2.2.2.1==false&&r2.2.2.2.2.2.1==false))))&&(r2.2.2.2.2.2.2.1==0&&r2.2.2.2.2.2.2.2.1==0&&(r2.2.2.2.2.2.2.2.2.1==0&&r2.2.2.2.2.2.2.2.2.2.1==0&&(r2.2.2.2.2.2.2.2.2.2.2.1==0&&r2.2.2.2.2.2.2.2.2.2.2.2.1==0&&(r2.2.2.2.2.2.2.2.2.2.2.2.2.1==0&&r2.2.2.2.2.2.2.2.2.2.2.2.2.2.1==0&&(r2.2.2.2.2.2.2.2.2.2.2.2.2.2.2.1==0&&r2.2.2.2.2.2.2.2.2.2.2.2.2.2.2.2.1==0&&(r2.2.2.2.2.2.2.2.2.2.2.2.2.2.2.2.2.1==0&&r2.2.2.2.2.2.2.2.2.2.2.2.2.2.2.2.2.2.1==0)))))))
  else
   some false
  else
  Option.bind (y55 r2.1 r2.2.1 r2.2.2.1 r2.2.2.2.1 r2.2.2.2.2.1 r2.2.2.2.2.2.1 r2.2.2.2.2.2.2.1 r2.2.2.2.2.2.2.2.1 r2.2.2.2.2.2.2.2.2.1 r2.2.2.2.2.2.2.2.2.2.1 r2.2.2.2.2.2.2.2.2.2.2.1 r2.2.2.2.2.2.2.2.2.2.2.2.1 r2.2.2.2.2.2.2.2.2.2.2.2.2.1 r2.2.2.2.2.2.2.2.2.2.2.2.2.2.1 r2.2.2.2.2.2.2.2.2.2.2.2.2.2.2.1 r2.2.2.2.2.2.2.2.2.2.2.2.2.2.2.2.1 r2.2.2.2.2.2.2.2.2.2.2.2.2.2.2.2.2.1 r2.2.2.2.2.2.2.2.2.2.2.2.2.2.2.2.2.2.1) fun r4 =>
  Option.bind (jbk r4) fun r5 =>
  if(r2.2.2.2.2.2.2.2.2.2.2.2.2.2.2.2.2.2.2==0)=true then
   Option.bind (y13 u4 u0 u6 u5) fun r6 =>
   if(r2.1==r6.1&&(r2.2.1==r6.2.1&&(r2.2.2.1==r6.2.2.1&&(r2.2.2.2.1==r6.2.2.2.1&&(r2.2.2.2.2.1==r6.2.2.2.2.1&&r2.2.2.2.2.2.1==r6.2.2.2.2.2.1))))&&(r2.2.2.2.2.2.2.1==r6.2.2.2.2.2.2.1&&r2.2.2.2.2.2.2.2.1==r6.2.2.2.2.2.2.2.1&&(r2.2.2.2.2.2.2.2.2.1==r6.2.2.2.2.2.2.2.2.1&&r2.2.2.2.2.2.2.2.2.2.1==r6.2.2.2.2.2.2.2.2.2.1&&(r2.2.2.2.2.2.2.2.2.2.2.1==r6.2.2.2.2.2.2.2.2.2.2.1&&r2.2.2.2.2.2.2.2.2.2.2.2.1==r6.2.2.2.2.2.2.2.2.2.2.2.1&&(r2.2.2.2.2.2.2.2.2.2.2.2.2.1==r6.2.2.2.2.2.2.2.2.2.2.2.2.1&&r2.2.2.2.2.2.2.2.2.2.2.2.2.2.1==r6.2.2.2.2.2.2.2.2.2.2.2.2.2.1&&(r2.2.2.2.2.2.2.2.2.2.2.2.2.2.2.1==r6.2.2.2.2.2.2.2.2.2.2.2.2.2.2.1&&r2.2.2.2.2.2.2.2.2.2.2.2.2.2.2.2.1==r6.2.2.2.2.2.2.2.2.2.2.2.2.2.2.2.1&&(r2.2.2.2.2.2.2.2.2.2.2.2.2.2.2.2.2.1==r6.2.2.2.2.2.2.2.2.2.2.2.2.2.2.2.2.1&&r2.2.2.2.2.2.2.2.2.2.2.2.2.2.2.2.2.2.1==r6.2.2.2.2.2.2.2.2.2.2.2.2.2.2.2.2.2)))))))=true then
   if(r5.2==0)=true then
    some ((List.getD r5.1 0 zf).1==r2.1&&((List.getD r5.1 1 zf).1==r2.2.1&&((List.getD r5.1 2 zf).1==r2.2.2.1&&((List.getD r5.1 3 zf).1==r2.2.2.2.1&&((List.getD r5.1 4 zf).1==r2.2.2.2.2.1&&(List.getD r5.1 5 zf).1==r2.2.2.2.2.2.1))))&&((List.getD r5.1 0 zf).2.1==r2.2.2.2.2.2.2.1&&(List.getD r5.1 0 zf).2.2==r2.2.2.2.2.2.2.2.1&&((List.getD r5.1 1 zf).2.1==r2.2.2.2.2.2.2.2.2.1&&(List.getD r5.1 1 zf).2.2==r2.2.2.2.2.2.2.2.2.2.1&&((List.getD r5.1 2 zf).2.1==r2.2.2.2.2.2.2.2.2.2.2.1&&(List.getD r5.1 2 zf).2.2==r2.2.2.2.2.2.2.2.2.2.2.2.1&&((List.getD r5.1 3 zf).2.1==r2.2.2.2.2.2.2.2.2.2.2.2.2.1&&(List.getD r5.1 3 zf).2.2==r2.2.2.2.2.2.2.2.2.2.2.2.2.2.1&&((List.getD r5.1 4 zf).2.1==r2.2.2.2.2.2.2.2.2.2.2.2.2.2.2.1&&(List.getD r5.1 4 zf).2.2==r2.2.2.2.2.2.2.2.2.2.2.2.2.2.2.2.1&&((List.getD r5.1 5 zf).2.1==r2.2.2.2.2.2.2.2.2.2.2.2.2.2.2.2.2.1&&(List.getD r5.1 5 zf).2.2==r2.2.2.2.2.2.2.2.2.2.2.2.2.2.2.2.2.2.1)))))))
   else
    some false
   else
   some false
  else
   some false
def jfb:List Lf→Option GT
 |[.d (.i .i64 u4),.r (.floats .f32 u0),.d (.i .i64 u6),.d (.i .i64 u5)]=>some (.leaf (ok (jbM u4 u0 u6 u5)) [.c (.d (.b ((val (jbM u4 u0 u6 u5)))))])
 |_=>none
def jkI (u4:Int) (u0:List Nat) (u6 u5:Int):T (Bool) :=
 .obT
 (.call (jeF u4 u0) fun r0 =>
 .brB (!r0)
 (.obT
 (.rc (true)))
 (.call (jhi u4 u0 u6 u5) fun r1 =>
 .call (y12 r1.1 r1.2.1 r1.2.2.1 r1.2.2.2) fun r2 =>
 .call (jmy u4 u0 u6 u5) fun r3 =>
 .brB (r3 != 0)
 (.brB (r2.2.2.2.2.2.2.2.2.2.2.2.2.2.2.2.2.2.2==r3)
 (.obT
 (.rc ((r2.1==false&&(r2.2.1==false&&(r2.2.2.1==false&&(r2.2.2.2.1==false&&(r2.2.2.2.2.1==false&&r2.2.2.2.2.2.1==false))))&&(r2.2.2.2.2.2.2.1==0&&r2.2.2.2.2.2.2.2.1==0&&(r2.2.2.2.2.2.2.2.2.1==0&&r2.2.2.2.2.2.2.2.2.2.1==0&&(r2.2.2.2.2.2.2.2.2.2.2.1==0&&r2.2.2.2.2.2.2.2.2.2.2.2.1==0&&(r2.2.2.2.2.2.2.2.2.2.2.2.2.1==0&&r2.2.2.2.2.2.2.2.2.2.2.2.2.2.1==0&&(r2.2.2.2.2.2.2.2.2.2.2.2.2.2.2.1==0&&r2.2.2.2.2.2.2.2.2.2.2.2.2.2.2.2.1==0&&(r2.2.2.2.2.2.2.2.2.2.2.2.2.2.2.2.2.1==0&&r2.2.2.2.2.2.2.2.2.2.2.2.2.2.2.2.2.2.1==0))))))))))
 (.obT
 (.rc (false))))
 (.call (y55 r2.1 r2.2.1 r2.2.2.1 r2.2.2.2.1 r2.2.2.2.2.1 r2.2.2.2.2.2.1 r2.2.2.2.2.2.2.1 r2.2.2.2.2.2.2.2.1 r2.2.2.2.2.2.2.2.2.1 r2.2.2.2.2.2.2.2.2.2.1 r2.2.2.2.2.2.2.2.2.2.2.1 r2.2.2.2.2.2.2.2.2.2.2.2.1 r2.2.2.2.2.2.2.2.2.2.2.2.2.1 r2.2.2.2.2.2.2.2.2.2.2.2.2.2.1 r2.2.2.2.2.2.2.2.2.2.2.2.2.2.2.1 r2.2.2.2.2.2.2.2.2.2.2.2.2.2.2.2.1 r2.2.2.2.2.2.2.2.2.2.2.2.2.2.2.2.2.1 r2.2.2.2.2.2.2.2.2.2.2.2.2.2.2.2.2.2.1) fun r4 =>
 .call (jbk r4) fun r5 =>
 .brB (r2.2.2.2.2.2.2.2.2.2.2.2.2.2.2.2.2.2.2==0)
 (.call (y13 u4 u0 u6 u5) fun r6 =>
 .brB (r2.1==r6.1&&(r2.2.1==r6.2.1&&(r2.2.2.1==r6.2.2.1&&(r2.2.2.2.1==r6.2.2.2.1&&(r2.2.2.2.2.1==r6.2.2.2.2.1&&r2.2.2.2.2.2.1==r6.2.2.2.2.2.1))))&&(r2.2.2.2.2.2.2.1==r6.2.2.2.2.2.2.1&&r2.2.2.2.2.2.2.2.1==r6.2.2.2.2.2.2.2.1&&(r2.2.2.2.2.2.2.2.2.1==r6.2.2.2.2.2.2.2.2.1&&r2.2.2.2.2.2.2.2.2.2.1==r6.2.2.2.2.2.2.2.2.2.1&&(r2.2.2.2.2.2.2.2.2.2.2.1==r6.2.2.2.2.2.2.2.2.2.2.1&&r2.2.2.2.2.2.2.2.2.2.2.2.1==r6.2.2.2.2.2.2.2.2.2.2.2.1&&(r2.2.2.2.2.2.2.2.2.2.2.2.2.1==r6.2.2.2.2.2.2.2.2.2.2.2.2.1&&r2.2.2.2.2.2.2.2.2.2.2.2.2.2.1==r6.2.2.2.2.2.2.2.2.2.2.2.2.2.1&&(r2.2.2.2.2.2.2.2.2.2.2.2.2.2.2.1==r6.2.2.2.2.2.2.2.2.2.2.2.2.2.2.1&&r2.2.2.2.2.2.2.2.2.2.2.2.2.2.2.2.1==r6.2.2.2.2.2.2.2.2.2.2.2.2.2.2.2.1&&(r2.2.2.2.2.2.2.2.2.2.2.2.2.2.2.2.2.1==r6.2.2.2.2.2.2.2.2.2.2.2.2.2.2.2.2.1&&r2.2.2.2.2.2.2.2.2.2.2.2.2.2.2.2.2.2.1==r6.2.2.2.2.2.2.2.2.2.2.2.2.2.2.2.2.2)))))))
 (.brB (r5.2==0)
 (.obT
 (.rc (((List.getD r5.1 0 zf).1==r2.1&&((List.getD r5.1 1 zf).1==r2.2.1&&((List.getD r5.1 2 zf).1==r2.2.2.1&&((List.getD r5.1 3 zf).1==r2.2.2.2.1&&((List.getD r5.1 4 zf).1==r2.2.2.2.2.1&&(List.getD r5.1 5 zf).1==r2.2.2.2.2.2.1))))&&((List.getD r5.1 0 zf).2.1==r2.2.2.2.2.2.2.1&&(List.getD r5.1 0 zf).2.2==r2.2.2.2.2.2.2.2.1&&((List.getD r5.1 1 zf).2.1==r2.2.2.2.2.2.2.2.2.1&&(List.getD r5.1 1 zf).2.2==r2.2.2.2.2.2.2.2.2.2.1&&((List.getD r5.1 2 zf).2.1==r2.2.2.2.2.2.2.2.2.2.2.1&&(List.getD r5.1 2 zf).2.2==r2.2.2.2.2.2.2.2.2.2.2.2.1&&((List.getD r5.1 3 zf).2.1==r2.2.2.2.2.2.2.2.2.2.2.2.2.1&&(List.getD r5.1 3 zf).2.2==r2.2.2.2.2.2.2.2.2.2.2.2.2.2.1&&((List.getD r5.1 4 zf).2.1==r2.2.2.2.2.2.2.2.2.2.2.2.2.2.2.1&&(List.getD r5.1 4 zf).2.2==r2.2.2.2.2.2.2.2.2.2.2.2.2.2.2.2.1&&((List.getD r5.1 5 zf).2.1==r2.2.2.2.2.2.2.2.2.2.2.2.2.2.2.2.2.1&&(List.getD r5.1 5 zf).2.2==r2.2.2.2.2.2.2.2.2.2.2.2.2.2.2.2.2.2.1))))))))))
 (.obT
 (.rc (false))))
 (.obT
 (.rc (false))))
 (.obT
 (.rc (false))))))
theorem jjl (u4:Int) (u0:List Nat) (u6 u5:Int) (r:Bool) (h:Option.bind (jbM u4 u0 u6 u5) some=some r):jaY Tryz.f13 ((sp_15b (sp_16 (sp_20 (sp_60 (sp_22 (sp_62 (sp_61 (sp_63 sp0))))))))) (fun _ _ _=>none) (jaO jfa [.d (.i .i64 u4),.r (.floats .f32 u0),.d (.i .i64 u6),.d (.i .i64 u5)]) [.c (.d (.b r))] :=
 T.vc (t:=jkI u4 u0 u6 u5) (by kernel_rfl) (by kernel_rfl) h
theorem jjm:jah Tryz.prog 13 true (jal jfa jfb):=by
 refine jau (sp:=(sp_15b (sp_16 (sp_20 (sp_60 (sp_22 (sp_62 (sp_61 (sp_63 sp0))))))))) (fn:=Tryz.f13) (body:=jai Tryz.f13) mixed (sp_15b_ok (sp_16_ok (sp_20_ok (sp_60_ok (sp_22_ok (sp_62_ok (sp_61_ok (sp_63_ok jak)))))))) Tryz.func13 (by kernel_rfl) (by kernel_rfl) fun ls t h ho b hb=>?_
 unfold jfb at h
 split at h
 ·rename_i u4 u0 u6 u5
  cases h
  obtain rfl:=jaD hb
  exact⟨Nat.le_of_ble_eq_true (by kernel_rfl),_,_,jjl u4 u0 u6 u5 _ (jaj ho)⟩
 ·cases h
end Go.Sh
end

section
namespace Go.Sx
open Ieee Go.Fl
def mg (K m:Nat) (e:Int):Nat:=m*2^(e+K).toNat
def sg (s:Bool) (a:Nat):Int:=if s then -(a:Int)else(a:Int)
theorem jkJ (s:Bool) (m k:Nat):signed s m k=sg s (m*2^k):=by
 unfold signed sg
 rw[Nat.shiftLeft_eq]
theorem jhP (s:Bool) (a b:Nat):sg s (a*b)=sg s a*(b:Int):=by
 unfold sg
 cases s<;>simp[Int.neg_mul]
theorem jtA {a b:Int} {c:Nat} (hc:0<c):compare (a*(c:Int)) (b*(c:Int))=compare a b:=by
 have hc':(0:Int)<(c:Int):=by omega
 rcases Int.lt_trichotomy a b with h|h|h
 ·have h1:a*(c:Int)<b*(c:Int):=Int.mul_lt_mul_of_pos_right h hc'
  rw[Int.compare_eq_lt.2 h1,Int.compare_eq_lt.2 h]
 ·subst h; rw[Int.compare_eq_eq.2 rfl,Int.compare_eq_eq.2 rfl]
 ·have h1:b*(c:Int)<a*(c:Int):=Int.mul_lt_mul_of_pos_right h hc'
  rw[Int.compare_eq_gt.2 h1,Int.compare_eq_gt.2 h]
theorem jcs (K:Nat) {s t:Bool} {m n:Nat} {i j:Int} (hi:0≤i+K) (hj:0≤j+K) :
  Datum.order (.number s m i) (.number t n j)=some (compare (sg s (mg K m i)) (sg t (mg K n j))):=by
 simp only[Datum.order,jkJ]
 have key:∀(x:Int) (m:Nat),min i j≤x→0≤x+K→mg K m x=m*2^(x-min i j).toNat*2^(min i j+K).toNat:=by
  intro x m h1 h2
  unfold mg
  rw[Nat.mul_assoc,←Nat.pow_add]
  congr 2
  omega
 rw[key i m (by omega) hi,key j n (by omega) hj,jhP s (m*_),jhP t (n*_),jtA (Nat.two_pow_pos _)]
theorem jyE {s:Bool} {m:Nat} {i:Int}:Datum.sum (.number s m i) (Datum.opposite (.number s m i))=some (.number false 0 i):=by
 simp only[Datum.opposite,Datum.sum,Int.min_self,Int.sub_self,Int.toNat_zero,jkJ]
 cases s<;>simp[sg]<;>omega
theorem jsA (s:Bool) (n drop:Nat):Toward.cut .zero s n drop=n/2^drop:=by
 have h1:(n/(1 <<< min drop (n.log2+2)))=n/2^drop:=by
  rw[Nat.shiftLeft_eq,Nat.one_mul]
  by_cases h:drop≤n.log2+2
  ·rw[Nat.min_eq_left h]
  ·rw[Nat.min_eq_right (by omega)]
   have h2:n<2^(n.log2+1):=Nat.lt_log2_self
   have h3:2^(n.log2+1)≤2^(n.log2+2):=Nat.pow_le_pow_right (by omega) (by omega)
   have h4:2^(n.log2+2)≤2^drop:=Nat.pow_le_pow_right (by omega) (by omega)
   rw[Nat.div_eq_of_lt (by omega),Nat.div_eq_of_lt (by omega)]
 simp[Toward.cut,h1]
theorem jyF (K:Nat) {s:Bool} {m:Nat} {i:Int} (hi:0≤i+K):Datum.toInt .zero (.number s m i)=some (sg s (mg K m i/2^K)):=by
 simp only[Datum.toInt,Datum.integral,jkJ,Nat.pow_zero,Nat.mul_one,jsA,Nat.shiftLeft_eq]
 congr 2
 unfold mg
 by_cases h:0≤i
 ·have e1:(-i).toNat=0:=by omega
  have e2:(i+K).toNat=i.toNat+K:=by omega
  rw[e1,e2,Nat.pow_add,Nat.pow_zero,Nat.div_one,←Nat.mul_assoc,Nat.mul_div_cancel _ (Nat.two_pow_pos K)]
 ·have e1:i.toNat=0:=by omega
  have e2:K=(i+K).toNat+(-i).toNat:=by omega
  rw[e1,Nat.pow_zero,Nat.mul_one]
  conv=>rhs; rhs; rw[e2,Nat.pow_add]
  rw[Nat.mul_comm m,Nat.mul_div_mul_left _ _ (Nat.two_pow_pos _)]
theorem jzJ {s:Bool} {m:Nat} (hm0:m≠0) (hm:m<16777216) :
  single.read (single.write (.number s m 0))=.number s (m*2^(23-m.log2)) ((m.log2:Int)-23)∧m.log2≤23:=by
 have hl:m.log2≤23:=by
  have:=(Nat.log2_lt hm0 (k:=24)).2 (by omega)
  omega
 refine⟨?_,hl⟩
 have hlo:2^m.log2≤m:=Nat.log2_self_le hm0
 have hhi:m<2^(m.log2+1):=Nat.lt_log2_self
 have hp:2^m.log2*2^(23-m.log2)=8388608:=by rw[←Nat.pow_add,Nat.add_sub_cancel' hl]
 have h1:8388608≤m*2^(23-m.log2):=by rw[←hp]; exact Nat.mul_le_mul_right _ hlo
 have h2:m*2^(23-m.log2)<16777216:=by
  have h3:m*2^(23-m.log2)<2^(m.log2+1)*2^(23-m.log2):=Nat.mul_lt_mul_of_pos_right hhi (Nat.two_pow_pos _)
  have h4:2^(m.log2+1)*2^(23-m.log2)=16777216:=by rw[Nat.pow_succ,Nat.mul_assoc,Nat.mul_comm 2,←Nat.mul_assoc,hp]
  omega
 have e1:single.signWeight=2147483648:=rfl
 have e2:single.binade=8388608:=rfl
 have e3:single.infRung=2139095040:=rfl
 have e4:single.leastPlace=-149:=rfl
 have e5:single.fractionBits=23:=rfl
 have hw:single.write (.number s m 0)=single.word s ((m.log2+126)*8388608+m*2^(23-m.log2)):=by
  simp only[Format.write,Format.nearest,if_neg hm0,e2,e3,e4,e5]
  have hlast:max ((0:Int)+(m.log2:Int)-(23:Nat)) (-149)=(m.log2:Int)-23:=by omega
  rw[hlast]
  have ha:((0:Int)-((m.log2:Int)-23)).toNat=23-m.log2:=by omega
  have hb:(((m.log2:Int)-23)-0).toNat=0:=by omega
  rw[ha,hb,jrm _ _ _ rfl,Nat.shiftLeft_eq]
  have hc:((m.log2:Int)-23 - -149).toNat=m.log2+126:=by omega
  rw[hc,Nat.min_eq_left (by omega)]
 rw[hw]
 generalize m*2^(23-m.log2)=k at *
 generalize m.log2=q at *
 have hrd:∀r,8388608≤r→r<2139095040→single.read (single.word s r)=.number s (8388608+r%8388608) (-149+(r/8388608-1:Nat)):=by
  intro r h1 h2
  unfold Format.read Format.word
  simp only[e1,e2,e3,e4]
  cases s
  ·simp only[Bool.false_eq_true,if_false]
   have ha:r%2147483648=r:=Nat.mod_eq_of_lt (by omega)
   have hb:r/2147483648=0:=Nat.div_eq_of_lt (by omega)
   rw[ha,hb,if_neg (by omega),if_pos h2]
   rfl
  ·simp only[if_true]
   have ha:(2147483648+r)%2147483648=r:=by omega
   have hb:(2147483648+r)/2147483648=1:=by omega
   rw[ha,hb,if_neg (by omega),if_pos h2]
   rfl
 rw[hrd _ (by omega) (by omega)]
 have ha:8388608+((q+126)*8388608+k)%8388608=k:=by omega
 have hb:((q+126)*8388608+k)/8388608-1=q+126:=by omega
 have hc:(-149:Int)+((q+126:Nat):Int)=(q:Int)-23:=by omega
 rw[ha,hb,hc]
theorem jAr (K:Nat) (hK:149≤K) {n:Int} (hn:-16777216<n∧n<16777216) :
  ∃m e,FloatKind.decode .f32 (FloatKind.nearest .f32 n)=.number (decide (n<0)) m e∧mg K m e=n.natAbs*2^K∧-149≤e:=by
 unfold FloatKind.decode FloatKind.nearest FloatKind.encode FloatKind.format
 by_cases h0:n.natAbs=0
 ·rw[h0]
  have:n=0:=by omega
  subst this
  exact⟨0,-149,by rfl,by simp[mg],by omega⟩
 ·obtain⟨h1,h2⟩:=jzJ (s:=decide (n<0)) h0 (by omega)
  refine⟨_,_,h1,?_,by omega⟩
  unfold mg
  have e1:((n.natAbs.log2:Int)-23+K).toNat=K-(23-n.natAbs.log2):=by omega
  rw[e1,Nat.mul_assoc,←Nat.pow_add]
  congr 2
  omega
theorem jpT (n:Int):sg (decide (n<0)) n.natAbs=n:=by
 unfold sg
 by_cases h:n<0
 ·simp[h]; omega
 ·simp[h]; omega
end Go.Sx
end

section
namespace Go.Sh
open Go Go.Proofs Go.RowKit Go.Sx Go.Sx06 Ieee Go.Fl
def KK:Nat:=1100
def PP:Nat:=2^KK
theorem jhQ:0<PP:=Nat.two_pow_pos _
theorem jn9 (a b:Int):(some (compare a b)==some Ordering.eq)=decide (a=b):=by
 rcases Int.lt_trichotomy a b with h|h|h
 ·rw[Int.compare_eq_lt.2 h,decide_eq_false (by omega)]; rfl
 ·rw[Int.compare_eq_eq.2 h,decide_eq_true h]; rfl
 ·rw[Int.compare_eq_gt.2 h,decide_eq_false (by omega)]; rfl
theorem jsB (a b:Int):(some (compare a b)==some Ordering.lt)=decide (a<b):=by
 rcases Int.lt_trichotomy a b with h|h|h
 ·rw[Int.compare_eq_lt.2 h,decide_eq_true h]; rfl
 ·rw[Int.compare_eq_eq.2 h,decide_eq_false (by omega)]; rfl
 ·rw[Int.compare_eq_gt.2 h,decide_eq_false (by omega)]; rfl
theorem jsC (a b:Int):(some (compare a b)==some Ordering.gt)=decide (b<a):=by
 rcases Int.lt_trichotomy a b with h|h|h
 ·rw[Int.compare_eq_lt.2 h,decide_eq_false (by omega)]; rfl
 ·rw[Int.compare_eq_eq.2 h,decide_eq_false (by omega)]; rfl
 ·rw[Int.compare_eq_gt.2 h,decide_eq_true h]; rfl
def seD:Datum→Int
 | .number _ m e=>if 16777216*PP≤mg KK m e then 2 else if mg KK m e/PP*PP≠mg KK m e then 27 else if mg KK m e/PP≤32767 then 0 else 2
 |_=>27
def se (b:Nat):Int:=seD (FloatKind.decode .f32 b)
theorem joa (m e:Nat):mg KK m (e:Int)=m*2^e*PP:=by
 unfold mg PP
 rw[Nat.mul_assoc,←Nat.pow_add]
 congr 2
theorem jiP (a:Nat):sg false a=(a:Int):=rfl
theorem jgy (a:Nat):sg true a=-(a:Int):=rfl
theorem jsD {s:Bool} {m:Nat} {i:Int} (hi:0≤i+KK):Datum.toInt .zero (.number s m i)=some (sg s (mg KK m i/PP)):=jyF KK hi
theorem jzK {n:Int} (hn:-16777216<n∧n<16777216):∃m e,FloatKind.decode .f32 (FloatKind.nearest .f32 n)=.number (decide (n<0)) m e∧mg KK m e=n.natAbs*PP∧-149≤e:=jAr KK (by unfold KK; omega) hn
theorem jzh:mg KK 8388608 1=16777216*PP:=by
 have:=joa 8388608 1
 rw[show(8388608*2^1:Nat)=16777216 from rfl]at this
 exact this
theorem jzi:mg KK 5000000000000000 1=10000000000000000*PP:=by
 have:=joa 5000000000000000 1
 rw[show(5000000000000000*2^1:Nat)=10000000000000000 from rfl]at this
 exact this
theorem job:PP=2^KK:=rfl
attribute [irreducible] PP
theorem sub_self (f:Format) {b:Nat} {s:Bool} {m:Nat} {e:Int} (h:f.read b=.number s m e):f.sub b b=some 0:=by
 unfold Format.sub
 rw[h,jyE]
 simp[Format.write,Format.nearest,Format.word]
theorem jt4 (f:Format) {b:Nat} {s:Bool} (h:f.read b=.infinity s):f.sub b b=none:=by
 unfold Format.sub
 rw[h]
 cases s<;>rfl
theorem jja (b:Nat):y99 b=some (se b):=by
 have hz:Format.order single 0 0=some .eq:=by decide
 unfold y99 se FloatKind.decode
 simp only[show FloatKind.format .f32=single from rfl]
 rcases read32 b with ⟨s,m,e,h,hm,he1,he2⟩|⟨s,h⟩|⟨s,t,h⟩
 ·have h1:single.order b b=some .eq:=by
   unfold Format.order
   rw[h,jcs KK (by unfold KK; omega) (by unfold KK; omega),Int.compare_eq_eq.2 rfl]
  have hA:single.order b 1266679808=some (compare (sg s (mg KK m e)) ((16777216*PP:Nat):Int)):=by
   unfold Format.order
   have hc:single.read 1266679808=.number false 8388608 1:=by decide
   rw[h,hc,jcs KK (by unfold KK; omega) (by unfold KK; omega)]
   rw[jzh]
   first|rw[jiP]|rw[jgy]
  have hB:single.order b 3414163456=some (compare (sg s (mg KK m e)) (-((16777216*PP:Nat):Int))):=by
   unfold Format.order
   have hc:single.read 3414163456=.number true 8388608 1:=by decide
   rw[h,hc,jcs KK (by unfold KK; omega) (by unfold KK; omega)]
   rw[jzh]
   first|rw[jiP]|rw[jgy]
  have hT:Datum.toInt .zero (FloatKind.decode .f32 b)=some (sg s (mg KK m e/PP)):=by
   unfold FloatKind.decode
   simp only[show FloatKind.format .f32=single from rfl]
   rw[h,jsD (by unfold KK; omega)]
  rw[h1,sub_self single h,hA,hB]
  simp only[Option.isSome_some,Option.getD_some,hz,if_true,bne_self_eq_false,Bool.false_eq_true,if_false,jsC,jn9,jsB,h,seD]
  generalize hg:mg KK m e=A at *
  have hP:=jhQ
  have hdm:=Nat.div_add_mod A PP
  rw[Nat.mul_comm]at hdm
  have hml:=Nat.mod_lt A hP
  have hq:f2i .f32 b=sg s (A/PP):=by unfold f2i; rw[hT]; rfl
  by_cases hbig:16777216*PP≤A
  ·rw[if_pos hbig]
   cases s
   ·rw[if_pos]
    simp only[sg,Bool.false_eq_true,if_false,Bool.or_eq_true,decide_eq_true_eq]
    omega
   ·rw[if_neg,if_pos]
    ·simp only[sg,if_true,Bool.or_eq_true,decide_eq_true_eq]
     omega
    ·simp only[sg,if_true,Bool.or_eq_true,decide_eq_true_eq]
     omega
  ·rw[if_neg hbig]
   have hd:A/PP<16777216:=(Nat.div_lt_iff_lt_mul hP).2 (by omega)
   generalize A/PP=Q at *
   generalize A%PP=R at *
   generalize hQP:Q*PP=QP at *
   have hn:-16777216<sg s Q∧sg s Q<16777216:=by cases s<;>simp only[sg,Bool.false_eq_true,if_false,if_true]<;>omega
   have hok:jca .f32 .i64 b=true:=by
    unfold jca
    rw[hT]
    have e1:IntKind.i64.min=-9223372036854775808:=rfl
    have e2:IntKind.i64.max=9223372036854775807:=rfl
    simp only[e1,e2,decide_eq_true_eq]
    omega
   rw[if_neg,if_neg,if_pos hok]
   ·obtain⟨m',e',h3,h4,h5⟩:=jzK hn
    have hC:single.order (FloatKind.nearest .f32 (f2i .f32 b)) b=some (compare (sg s Q*(PP:Int)) (sg s A)):=by
     unfold Format.order
     have h3':single.read (FloatKind.nearest .f32 (f2i .f32 b))=.number (decide (sg s Q<0)) m' e':=by rw[hq]; exact h3
     rw[h3',h,jcs KK (by unfold KK; omega) (by unfold KK; omega),h4,hg,jhP,jpT]
    rw[hC]
    have hne:(some (compare (sg s Q*(PP:Int)) (sg s A))!=some Ordering.eq)=decide (QP≠A):=by
     rw[bne,jn9]
     have:(sg s Q*(PP:Int)=sg s A)↔QP=A:=by
      rw[←jhP,hQP]
      cases s<;>simp only[sg,Bool.false_eq_true,if_false,if_true]<;>omega
     by_cases hw:QP=A
     ·rw[decide_eq_true (this.2 hw),decide_eq_false (by omega)]; rfl
     ·rw[decide_eq_false (fun h=>hw (this.1 h)),decide_eq_true hw]; rfl
    rw[hne,hq]
    by_cases hw:QP=A
    ·rw[decide_eq_false (show ¬(QP≠A) by omega),if_neg Bool.false_ne_true,if_neg (show ¬(QP≠A) by omega)]
     rw[if_pos hok]
     rw[jsd (by unfold inJ; omega),jaa,jdR,jaa]
     have hb:(decide (az (sg s Q)≤32767)=true)↔(Q≤32767):=by
      rw[decide_eq_true_eq,az]
      cases s<;>simp only[sg,Bool.false_eq_true,if_false,if_true]<;>omega
     by_cases hQ:Q≤32767
     ·rw[if_pos hQ,if_pos (hb.2 hQ)]
     ·rw[if_neg hQ,if_neg (fun h=>hQ (hb.1 h))]
    ·rw[decide_eq_true (show QP≠A from hw),if_pos rfl,if_pos hw]
   ·cases s<;>simp only[sg,Bool.false_eq_true,if_false,if_true,Bool.or_eq_true,decide_eq_true_eq]<;>omega
   ·cases s<;>simp only[sg,Bool.false_eq_true,if_false,if_true,Bool.or_eq_true,decide_eq_true_eq]<;>omega
 ·have h1:single.order b b=some .eq:=by
   unfold Format.order
   rw[h]
   cases s<;>rfl
  rw[h1,jt4 single h,h]
  rfl
 ·have h1:single.order b b=none:=by
   unfold Format.order
   rw[h]
   rfl
  rw[h1,h]
  rfl
end Go.Sh
end

section
namespace Go.Sh
open Go Go.Proofs Go.RowKit Go.Sx Go.Sx06 Ieee Go.Fl
theorem dbl {b:Nat} {s:Bool} {m:Nat} {e:Int} (h:single.read b=.number s m e) (hm:m<16777216) (he1:-149≤e) (he2:e≤104) :
  ∃m' e',double.read (jcm b)=.number s m' e'∧mg KK m' e'=mg KK m e∧-1074≤e'∧m'<9007199254740992:=by
 have e0:jcm b=double.write (.number s m e):=by
  unfold jcm FloatKind.encode FloatKind.decode
  simp only[show FloatKind.format .f32=single from rfl,show FloatKind.format .f64=double from rfl,h]
 rw[e0]
 by_cases h0:m=0
 ·subst h0
  exact⟨0,-1074,jrn s e,by simp[mg],by omega,by omega⟩
 ·obtain⟨h1,h2⟩:=jox (s:=s) h0 (by omega) (show -1000≤e by omega) (show e≤900 by omega)
  have hw:=jtL (s:=s) h0 (by omega) (show -1000≤e by omega) (show e≤900 by omega)
  refine⟨_,_,h1,?_,by omega,hw.2.2.2⟩
  unfold mg
  rw[Nat.mul_assoc,←Nat.pow_add]
  congr 2
  unfold KK
  omega
theorem jyG {s:Bool} {n:Nat} (h2:n%2=0) (hn:2≤n):Toward.cut .even s n 1=n/2:=by
 have hg:(1 <<< min 1 (n.log2+2))=2:=by rw[Nat.min_eq_left (by omega)]; rfl
 simp[Toward.cut,hg,h2]
theorem jAs {n:Int} (hn:n.natAbs<18014398509481984) (he:9007199254740992≤n.natAbs→n.natAbs%2=0) :
  ∃m e,double.read (FloatKind.nearest .f64 n)=.number (decide (n<0)) m e∧mg KK m e=n.natAbs*PP∧-1074≤e:=by
 have e0:FloatKind.nearest .f64 n=double.write (.number (decide (n<0)) n.natAbs 0):=rfl
 rw[e0]
 generalize decide (n<0)=s
 generalize n.natAbs=a at *
 by_cases h0:a=0
 ·subst h0
  exact⟨0,-1074,jrn s 0,by simp[mg],by omega⟩
 ·by_cases hs:a<9007199254740992
  ·obtain⟨h1,h2⟩:=jox (s:=s) h0 hs (show(-1000:Int)≤0 by omega) (show(0:Int)≤900 by omega)
   refine⟨_,_,h1,?_,by omega⟩
   rw[job]; unfold mg
   rw[Nat.mul_assoc,←Nat.pow_add]
   congr 2
   unfold KK
   omega
  ·have hev:=he (by omega)
   have hl:a.log2=53:=by
    have h1:=(Nat.log2_lt h0 (k:=54)).2 (by omega)
    have h2:¬a.log2<53:=fun h=>by have:=(Nat.log2_lt h0 (k:=53)).1 h; omega
    omega
   have e2:double.binade=4503599627370496:=rfl
   have e3:double.infRung=9218868437227405312:=rfl
   have e4:double.leastPlace=-1074:=rfl
   have e5:double.fractionBits=52:=rfl
   have hw:double.write (.number s a 0)=double.word s (1075*4503599627370496+a/2):=by
    simp only[Format.write,Format.nearest,if_neg h0,e2,e3,e4,e5,hl]
    have hlast:max ((0:Int)+((53:Nat):Int)-((52:Nat):Int)) (-1074)=1:=by omega
    rw[hlast]
    have ha:((0:Int)-1).toNat=0:=by omega
    have hb:((1:Int)-0).toNat=1:=by omega
    rw[ha,hb,Nat.shiftLeft_zero,jyG hev (by omega)]
    have hc:((1:Int) - -1074).toNat=1075:=by omega
    rw[hc,Nat.min_eq_left (by omega)]
   rw[hw,jlK (by omega) (by omega)]
   refine⟨_,_,rfl,?_,by omega⟩
   have hb:(1075*4503599627370496+a/2)/4503599627370496-1=1075:=by omega
   have ha:4503599627370496+(1075*4503599627370496+a/2)%4503599627370496=a/2:=by omega
   rw[ha,hb]
   have hc:(-1074:Int)+((1075:Nat):Int)=((1:Nat):Int):=by omega
   rw[hc,joa]
   congr 1
   omega
theorem jvp {f:Nat} {s:Bool} {m:Nat} {e:Int} (h:double.read f=.number s m e) (he:-1074≤e) (hm:m<9007199254740992) :
  jgh f=some (decide (10000000000000000*PP<mg KK m e∨mg KK m e/PP*PP=mg KK m e)):=by
 have hz:Format.order double 0 0=some .eq:=by decide
 have h1:double.order f f=some .eq:=by
  unfold Format.order
  rw[h,jcs KK (by unfold KK; omega) (by unfold KK; omega),Int.compare_eq_eq.2 rfl]
 have hA:double.order f 14069741636278059008=some (compare (sg s (mg KK m e)) (-((10000000000000000*PP:Nat):Int))):=by
  unfold Format.order
  have hc:double.read 14069741636278059008=.number true 5000000000000000 1:=by decide
  rw[h,hc,jcs KK (by unfold KK; omega) (by unfold KK; omega)]
  rw[jzi]
  first|rw[jiP]|rw[jgy]
 have hB:double.order f 4846369599423283200=some (compare (sg s (mg KK m e)) ((10000000000000000*PP:Nat):Int)):=by
  unfold Format.order
  have hc:double.read 4846369599423283200=.number false 5000000000000000 1:=by decide
  rw[h,hc,jcs KK (by unfold KK; omega) (by unfold KK; omega)]
  rw[jzi]
  first|rw[jiP]|rw[jgy]
 have hT:Datum.toInt .zero (FloatKind.decode .f64 f)=some (sg s (mg KK m e/PP)):=by
  unfold FloatKind.decode
  simp only[show FloatKind.format .f64=double from rfl]
  rw[h,jsD (by unfold KK; omega)]
 have hq:f2i .f64 f=sg s (mg KK m e/PP):=by unfold f2i; rw[hT]; rfl
 have hev:9007199254740992≤mg KK m e/PP→mg KK m e/PP%2=0:=by
  intro hge
  by_cases hp:0≤e
  ·obtain⟨d,rfl⟩:∃d:Nat,e=d:=⟨e.toNat,by omega⟩
   rw[joa,Nat.mul_div_cancel _ jhQ]at hge ⊢
   cases d with
   |zero=>simp at hge; omega
   |succ d=>rw[Nat.pow_succ,←Nat.mul_assoc]; exact Nat.mul_mod_left _ _
  ·have hlt:mg KK m e/PP<9007199254740992:=by
    rw[Nat.div_lt_iff_lt_mul jhQ]
    rw[job]; unfold mg
    have h2:2^(e+KK).toNat≤2^KK:=Nat.pow_le_pow_right (by omega) (by omega)
    calc m*2^(e+KK).toNat≤m*2^KK:=Nat.mul_le_mul_left _ h2
     _<9007199254740992*2^KK:=Nat.mul_lt_mul_of_pos_right hm (Nat.two_pow_pos _)
   omega
 unfold jgh
 simp only[show FloatKind.format .f64=double from rfl]
 rw[h1,sub_self double h,hA,hB]
 simp only[Option.isSome_some,Option.getD_some,hz,if_true,bne_self_eq_false,Bool.false_eq_true,if_false,jsC,jn9,jsB]
 generalize hg:mg KK m e=A at *
 have hP:=jhQ
 have hdm:=Nat.div_add_mod A PP
 rw[Nat.mul_comm]at hdm
 have hml:=Nat.mod_lt A hP
 by_cases hbig:10000000000000000*PP<A
 ·rw[decide_eq_true (show _∨_ from .inl hbig)]
  cases s
  ·rw[if_pos,if_pos]
   ·simp only[sg,Bool.false_eq_true,if_false,Bool.not_eq_true',Bool.or_eq_false_iff,decide_eq_false_iff_not]
    omega
   ·simp only[sg,Bool.false_eq_true,if_false,Bool.or_eq_true,decide_eq_true_eq]
    omega
  ·rw[if_neg]
   simp only[sg,if_true,Bool.or_eq_true,decide_eq_true_eq]
   omega
 ·have hd:A/PP≤10000000000000000:=by
   have:A/PP<10000000000000001:=by rw[Nat.div_lt_iff_lt_mul hP]; omega
   omega
  generalize A/PP=Q at *
  generalize A%PP=R at *
  generalize hQP:Q*PP=QP at *
  rw[if_pos,if_neg]
  ·have hok:jca .f64 .i64 f=true:=by
    unfold jca
    rw[hT]
    have e1:IntKind.i64.min=-9223372036854775808:=rfl
    have e2:IntKind.i64.max=9223372036854775807:=rfl
    simp only[e1,e2,decide_eq_true_eq]
    cases s<;>simp only[sg,Bool.false_eq_true,if_false,if_true]<;>omega
   rw[if_pos hok]
   have habs:(sg s Q).natAbs=Q:=by cases s<;>simp only[sg,Bool.false_eq_true,if_false,if_true]<;>omega
   obtain⟨m',e',h3,h4,h5⟩:=jAs (n:=sg s Q) (by rw[habs]; omega) (by rw[habs]; exact hev)
   have hC:double.order (FloatKind.nearest .f64 (f2i .f64 f)) f=some (compare (sg s Q*(PP:Int)) (sg s A)):=by
    unfold Format.order
    rw[hq,h3,h,jcs KK (by unfold KK; omega) (by unfold KK; omega),h4,hg,jhP,jpT]
   rw[hC,jn9,←jhP,hQP]
   congr 1
   rw[decide_eq_decide]
   cases s<;>simp only[sg,Bool.false_eq_true,if_false,if_true]<;>omega
  ·simp only[Bool.not_eq_true',Bool.or_eq_false_iff,decide_eq_false_iff_not]
   cases s<;>simp only[sg,Bool.false_eq_true,if_false,if_true]<;>omega
  ·simp only[Bool.or_eq_true,decide_eq_true_eq]
   cases s<;>simp only[sg,Bool.false_eq_true,if_false,if_true]<;>omega
end Go.Sh
end

section
namespace Go.Sh
open Go Go.Proofs Go.RowKit Go.Sx Go.Sx06 Ieee Go.Fl
theorem jyH {b:Nat} {s:Bool} {m:Nat} {e:Int} (h:double.read b=.number s m e) (he1:-1074≤e):double.order b 13898108175187443712=some (compare (sg s (mg KK m e)) (-((32767*PP:Nat):Int))):=by
 unfold Format.order
 have hc:double.read 13898108175187443712=.number true 9006924376834048 (-38):=by decide
 rw[h,hc,jcs KK (by unfold KK; omega) (by unfold KK; omega)]
 have:mg KK 9006924376834048 (-38)=32767*PP:=by
  rw[job]
  unfold mg
  rw[show KK=(-38+(KK:Int)).toNat+38 by unfold KK; omega,Nat.pow_add]
  rw[show((-38:Int)+(((-38+(KK:Int)).toNat+38:Nat):Int)).toNat=(-38+(KK:Int)).toNat by unfold KK; omega]
  generalize 2^(-38+(KK:Int)).toNat=q
  omega
 rw[this,jgy]
theorem jyI {b:Nat} {s:Bool} {m:Nat} {e:Int} (h:double.read b=.number s m e) (he1:-1074≤e):double.order b 4674736138332667904=some (compare (sg s (mg KK m e)) (((32767*PP:Nat):Int))):=by
 unfold Format.order
 have hc:double.read 4674736138332667904=.number false 9006924376834048 (-38):=by decide
 rw[h,hc,jcs KK (by unfold KK; omega) (by unfold KK; omega)]
 have:mg KK 9006924376834048 (-38)=32767*PP:=by
  rw[job]
  unfold mg
  rw[show KK=(-38+(KK:Int)).toNat+38 by unfold KK; omega,Nat.pow_add]
  rw[show((-38:Int)+(((-38+(KK:Int)).toNat+38:Nat):Int)).toNat=(-38+(KK:Int)).toNat by unfold KK; omega]
  generalize 2^(-38+(KK:Int)).toNat=q
  omega
 rw[this,jiP]
theorem jzL {α:Type} (b:Nat) (bad:Int→Option α) (good:Option α) :
  (if jfO b=true then bad 27 else Option.bind (jgh (jcm b)) fun r0=>if(!r0)=true then bad 27 else
   if(Format.order (FloatKind.format .f64) (jcm b) 4674736138332667904==some Ordering.gt)=true then bad 2 else
   if(Format.order (FloatKind.format .f64) (jcm b) 13898108175187443712==some Ordering.lt)=true then bad 2 else good)=if se b≠0 then bad (se b)else good:=by
 simp only[show FloatKind.format .f64=double from rfl]
 have hdec:FloatKind.decode .f32 b=single.read b:=rfl
 unfold jfO se
 rw[hdec]
 rcases read32 b with ⟨s,m,e,h,hm,he1,he2⟩|⟨s,h⟩|⟨s,t,h⟩
 ·obtain⟨m',e',h1,h2,h3,h4⟩:=dbl h hm he1 he2
  have hw:16777216*PP≤mg KK m e→mg KK m e/PP*PP=mg KK m e:=by
   intro hge
   by_cases hp:0≤e
   ·obtain⟨d,rfl⟩:∃d:Nat,e=d:=⟨e.toNat,by omega⟩
    rw[joa,Nat.mul_div_cancel _ jhQ]
   ·exfalso
    have:mg KK m e<16777216*PP:=by
     rw[job]
     unfold mg
     have h2:2^(e+KK).toNat≤2^KK:=Nat.pow_le_pow_right (by omega) (by omega)
     calc m*2^(e+KK).toNat≤m*2^KK:=Nat.mul_le_mul_left _ h2
      _<16777216*2^KK:=Nat.mul_lt_mul_of_pos_right hm (Nat.two_pow_pos _)
    omega
  have hW:=jvp h1 h3 h4
  have hlo:=jyH h1 h3
  have hhi:=jyI h1 h3
  rw[h2]at hlo hhi
  have hse:seD (.number s m e)=if 16777216*PP≤mg KK m e then 2 else if mg KK m e/PP*PP≠mg KK m e then 27 else if mg KK m e/PP≤32767 then 0 else 2:=rfl
  rw[h2]at hW
  have hnn:(Datum.number s m e).isNaN=false:=rfl
  rw[h,hse,hnn,hW,jaa,hlo,hhi,jsB,jsC]
  clear h h1 h2 h3 h4 hW hlo hhi hse hnn
  rw[if_neg Bool.false_ne_true]
  obtain⟨A,hA⟩:∃A,A=mg KK m e:=⟨_,rfl⟩
  rw[←hA]at hw ⊢
  clear hA
  have hP:=jhQ
  have hdm:=Nat.div_add_mod A PP
  rw[Nat.mul_comm]at hdm
  have hml:=Nat.mod_lt A hP
  have hq1:A/PP≤32767↔A<32768*PP:=by
   rw[←Nat.div_lt_iff_lt_mul hP]
   omega
  have hq2:A/PP*PP=A→(A/PP≤32767↔A≤32767*PP):=by
   intro hh
   constructor
   ·intro h; rw[←hh]; exact Nat.mul_le_mul_right _ h
   ·intro h; rw[←hh]at h; exact Nat.le_of_mul_le_mul_right h hP
  generalize A/PP=Q at *
  generalize A%PP=R at *
  generalize hQP:Q*PP=QP at *
  by_cases hbig:16777216*PP≤A
  ·have hww:=hw hbig
   rw[if_pos hbig,decide_eq_true (show _∨_ from .inr hww)]
   simp only[Bool.not_true,Bool.false_eq_true,if_false,decide_eq_true_eq]
   rw[if_pos (show(2:Int)≠0 by omega)]
   cases s
   ·rw[if_pos (by rw[jiP]; omega)]
   ·rw[if_neg (by rw[jgy]; omega),if_pos (by rw[jgy]; omega)]
  ·rw[if_neg hbig]
   by_cases hwh:QP=A
   ·rw[decide_eq_true (show _∨_ from .inr hwh),if_neg (show ¬QP≠A by omega)]
    simp only[Bool.not_true,Bool.false_eq_true,if_false,decide_eq_true_eq]
    have hq:=hq2 hwh
    by_cases hs:Q≤32767
    ·have:=hq.1 hs
     rw[if_pos hs,if_neg (show ¬(0:Int)≠0 by omega)]
     cases s
     ·rw[if_neg (by rw[jiP]; omega),if_neg (by rw[jiP]; omega)]
     ·rw[if_neg (by rw[jgy]; omega),if_neg (by rw[jgy]; omega)]
    ·have:¬A≤32767*PP:=fun h=>hs (hq.2 h)
     rw[if_neg hs,if_pos (show(2:Int)≠0 by omega)]
     cases s
     ·rw[if_pos (by rw[jiP]; omega)]
     ·rw[if_neg (by rw[jgy]; omega),if_pos (by rw[jgy]; omega)]
   ·rw[decide_eq_false (show ¬(_∨_) by omega),if_pos (show QP≠A from hwh),if_pos (show(27:Int)≠0 by omega)]
    rfl
 ·have h1:jcm b=double.word s 9218868437227405312:=by
   unfold jcm FloatKind.encode FloatKind.decode
   simp only[show FloatKind.format .f32=single from rfl,show FloatKind.format .f64=double from rfl,h]
   rfl
  have h2:double.read (jcm b)=.infinity s:=by rw[h1]; cases s<;>decide
  have h3:jgh (jcm b)=some false:=by
   have ho:double.order (jcm b) (jcm b)=some .eq:=by unfold Format.order; rw[h2]; cases s<;>rfl
   unfold jgh
   simp only[show FloatKind.format .f64=double from rfl]
   rw[ho,jt4 double h2]
   rfl
  rw[h3,h]
  rfl
 ·rw[h]
  rfl
theorem jkK {p:Prop} [Decidable p] (h:p):(!decide p)=false:=by rw[decide_eq_true h]; rfl
theorem jmM {p:Prop} [Decidable p] (h:¬p):(!decide p)=true:=by rw[decide_eq_false h]; rfl
def jsE (l:List Nat):Int × Int:=match l.findIdx? (fun b=>se b != 0)with
 |some i=>((i:Int),se (l.getD i 0))
 |none=>(0,0)
def jeI (rate:Int) (l:List Nat):Int × Int :=
 if ¬(8000≤rate∧rate≤192000)then(0,2)else if l.length=0 then(0,10)else if 1024<l.length then(0,8)else jsE l
def jbs (rate:Int) (l:List Nat) (noise tail:Int):Int × Int :=
 if(jeI rate l).2≠0 then jeI rate l else if(0≤noise∧noise≤32767)∧(0≤tail∧tail≤1000000000000)then(0,0)else(0,2)
theorem jwE {l:List Nat} (h:(jsE l).2=0):∀b∈l,se b=0:=by
 unfold jsE at h
 cases hf:l.findIdx? (fun b=>se b != 0)with
 |none =>
  rw[List.findIdx?_eq_none_iff]at hf
  intro b hb
  simpa using hf b hb
 |some i =>
  rw[hf]at h
  rw[List.findIdx?_eq_some_iff_getElem]at hf
  obtain⟨hi,hp,_⟩:=hf
  simp[List.getD,hi]at h
  simp[h]at hp
theorem jpU {rate:Int} {l:List Nat} (h:(jeI rate l).2=0):(8000≤rate∧rate≤192000)∧0<l.length∧l.length≤1024∧∀b∈l,se b=0:=by
 unfold jeI at h
 split at h
 ·simp at h
 ·rename_i h1
  split at h
  ·simp at h
  ·rename_i h2
   split at h
   ·simp at h
   ·rename_i h3
    exact⟨Classical.not_not.1 h1,by omega,by omega,jwE h⟩
theorem jpV {rate:Int} {l:List Nat} {noise tail:Int} (h:(jbs rate l noise tail).2=0):(jeI rate l).2=0∧(0≤noise∧noise≤32767)∧(0≤tail∧tail≤1000000000000):=by
 unfold jbs at h
 split at h
 ·contradiction
 ·rename_i h1
  split at h
  ·rename_i h2; exact⟨Classical.not_not.1 h1,h2.1,h2.2⟩
  ·simp at h
theorem jly (rate:Int) {l:List Nat} (hl:l.length<1000000000000):y70 rate l=some (jeI rate l):=by
 unfold y70 jc8 jeI
 rw[jd8,jaa,jaa,jdR,jaa,jdR,jaa,jdR,jaa,jsg (by simp),jaa,firE3]
 by_cases h1:8000≤rate∧rate≤192000
 ·by_cases h2:l.length=0
  ·simp[h1,h2]
  ·by_cases h3:1024<l.length
   ·simp[h1,h2,h3,show(0:Int)<(l.length:Int) by omega,show ¬(l.length:Int)≤1024 by omega]
   ·have h:=jdm l 0 (fun b=>se b != 0) (body:=y41 l) (fun i=>.inl ((i:Int),se (l.getD i 0))) (.inr ()) (by omega)
     (fun i hi hp=>by
      unfold y41
      rw[if_pos (by omega),if_pos (by omega),if_pos (by omega),Int.toNat_natCast,jja,jaa,if_pos hp])
     (fun i hi hp=>by
      unfold y41
      rw[if_pos (by omega),if_pos (by omega),if_pos (by omega),Int.toNat_natCast,jja,jaa,if_neg (by rw[hp]; simp),jap (by omega)])
     (by unfold y41; rw[if_neg (by omega)])
    simp only[h1,and_self,decide_true,if_true,ne_eq,not_true_eq_false,if_false,show(0:Int)<(l.length:Int) by omega,gt_iff_lt,show(l.length:Int)≤1024 by omega,bne_self_eq_false,Bool.false_eq_true,h2,h3,h,jaa]
    unfold jsE
    cases l.findIdx? (fun b=>se b != 0)<;>rfl
 ·simp[h1]
theorem jsF (rate:Int) {l:List Nat} (noise tail:Int) (hl:l.length<1000000000000):y26 rate l noise tail=some (jbs rate l noise tail):=by
 unfold y26 jbs
 rw[jly rate hl,jaa]
 by_cases h:(jeI rate l).2=0
 ·rw[if_neg (by rw[h]; simp),if_neg (by omega),jd8,jaa]
  by_cases h1:0≤noise∧noise≤32767
  ·rw[if_pos (by simpa using h1),jd8,jaa,jdR,jaa]
   by_cases h2:0≤tail∧tail≤1000000000000<;>simp[h1,h2]
  ·rw[if_neg (by simpa using h1),if_neg (fun hc=>h1 hc.1),jdR]
   rfl
 ·rw[if_pos (by simpa using h),if_pos h]
theorem jlz (rate:Int) {l:List Nat} (hl:l.length<1000000000000):y60 rate l=some (jeI rate l):=by
 unfold y60 jhj jeI
 rw[jcM,jaa,jaa]
 by_cases h1:8000≤rate∧rate≤192000
 ·rw[jkK h1,if_neg Bool.false_ne_true,if_neg (show ¬¬(8000≤rate∧rate≤192000)from fun h=>h h1)]
  by_cases h2:l.length=0
  ·rw[h2,if_pos (by rfl),if_pos rfl]
  ·rw[if_neg (show ¬((l.length:Int)==0)=true by simpa using h2),if_neg h2]
   by_cases h3:1024<l.length
   ·rw[if_pos (show(l.length:Int)>1024 by omega),if_pos h3]
   ·rw[if_neg (show ¬(l.length:Int)>1024 by omega),if_neg h3]
    have hb:∀i,i<l.length→y36 l (i:Int)=if se (l.getD i 0)≠0 then some (.inr (.inl ((i:Int),se (l.getD i 0))))else some (.inl ((i:Int)+1)):=by
     intro i hi
     unfold y36
     rw[if_pos (by omega),if_pos (by omega),if_pos (by omega),Int.toNat_natCast]
     refine Eq.trans ?_ (jzL (α:=Int ⊕ ((Int × Int) ⊕ Unit)) (l.getD i 0) (fun e=>some (.inr (.inl ((i:Int),e)))) (some (.inl ((i:Int)+1))))
     simp only[jap (show -9223372036854775808≤(i:Int)+1∧(i:Int)+1≤9223372036854775807 by omega)]
    have h:=jdm l 0 (fun b=>se b != 0) (body:=y36 l) (fun i=>.inl ((i:Int),se (l.getD i 0))) (.inr ()) (by omega)
     (fun i hi hp=>by rw[hb i hi,if_pos (by simpa using hp)])
     (fun i hi hp=>by rw[hb i hi,if_neg (by simpa using hp)])
     (by unfold y36; rw[if_neg (by omega)])
    rw[h,jaa]
    unfold jsE
    cases l.findIdx? (fun b=>se b != 0)<;>rfl
 ·rw[jmM h1,if_pos rfl,if_pos (show ¬(8000≤rate∧rate≤192000)from h1)]
theorem jsG (rate:Int) {l:List Nat} (noise tail:Int) (hl:l.length<1000000000000):jku rate l noise tail=some (jbs rate l noise tail):=by
 unfold jku jbs
 rw[jlz rate hl,jaa]
 by_cases h:(jeI rate l).2=0
 ·rw[if_neg (show ¬((jeI rate l).2 != 0)=true by rw[h]; simp),if_neg (show ¬(jeI rate l).2≠0 by omega),jcM,jaa]
  by_cases h1:0≤noise∧noise≤32767
  ·rw[jkK h1,if_neg Bool.false_ne_true,jcM,jaa]
   by_cases h2:0≤tail∧tail≤1000000000000<;>simp[h1,h2]
  ·rw[jmM h1,if_pos rfl,if_neg (fun hc=>h1 hc.1)]
 ·rw[if_pos (by simpa using h),if_pos h]
theorem jpW (rate:Int) {l:List Nat} (noise tail:Int) (hl:l.length<1000000000000):jmy rate l noise tail=some (jbs rate l noise tail).2:=by
 unfold jmy; rw[jsG rate noise tail hl]; rfl
end Go.Sh
end

section
namespace Go.Sh
open Go Go.Proofs Go.RowKit Go.Sx Go.Sx06 Ieee Go.Fl
open Go.IntKind (wrap)
def fi (b:Nat):Int:=f2i .f32 b
theorem jmN {b:Nat} (h:se b=0):jca .f32 .i64 b=true∧-32767≤fi b∧fi b≤32767:=by
 unfold se at h
 unfold fi f2i jca
 rcases Fl.read32 b with ⟨s,m,e,hd,hm,he1,he2⟩|⟨s,hd⟩|⟨s,t,hd⟩
 ·have hdec:FloatKind.decode .f32 b=.number s m e:=hd
  rw[hdec]at h ⊢
  rw[jsD (by unfold KK; omega)]
  unfold seD at h
  have h3:mg KK m e/PP≤32767:=by
   dsimp only at h
   split at h
   ·omega
   ·split at h
    ·omega
    ·split at h
     ·assumption
     ·omega
  clear h
  generalize mg KK m e/PP=Q at *
  have e1:IntKind.i64.min=-9223372036854775808:=rfl
  have e2:IntKind.i64.max=9223372036854775807:=rfl
  simp only[e1,e2,decide_eq_true_eq,Option.getD_some]
  cases s<;>simp only[sg,Bool.false_eq_true,if_false,if_true]<;>omega
 ·have hdec:FloatKind.decode .f32 b=.infinity s:=hd
  rw[hdec]at h
  simp[seD]at h
 ·have hdec:FloatKind.decode .f32 b=.nan s t:=hd
  rw[hdec]at h
  simp[seD]at h
def sqP (noise n:Int):List Int:=[max 0 (az n-noise)*max 0 (az n-noise),(az n+noise)*(az n+noise)]
def zsO (noise:Int) (l:List Nat):List (List Int):=l.map fun b=>sqP noise (fi b)
def sLo:List (List Int)→Int
 |[]=>0
 |r::l=>r.getD 0 0+sLo l
def sHi:List (List Int)→Int
 |[]=>0
 |r::l=>r.getD 1 0+sHi l
theorem joc (a b:List (List Int)):sLo (a++b)=sLo a+sLo b:=by
 induction a with
 |nil=>simp[sLo]
 |cons r a ih=>simp only[List.cons_append,sLo,ih]; omega
theorem jiQ (a b:List (List Int)):sHi (a++b)=sHi a+sHi b:=by
 induction a with
 |nil=>simp[sHi]
 |cons r a ih=>simp only[List.cons_append,sHi,ih]; omega
def okZ (r:List Int):Prop:=0≤r.getD 0 0∧r.getD 0 0≤r.getD 1 0∧r.getD 1 0≤4294705156
theorem jcD {zs:List (List Int)} (h:∀r∈zs,okZ r):0≤sLo zs∧sLo zs≤sHi zs∧sHi zs≤4294705156*(zs.length:Int):=by
 induction zs with
 |nil=>simp[sLo,sHi]
 |cons r l ih =>
  have h1:=ih fun r hr=>h r (List.mem_cons_of_mem _ hr)
  have h2:=h r List.mem_cons_self
  unfold okZ at h2
  simp only[sLo,sHi,List.length_cons]
  omega
theorem jmO {n M:Int} (h:-M≤n∧n≤M):0≤az n∧az n≤M:=by unfold az; omega
theorem jAt {noise n:Int} (hn:0≤noise∧noise≤32767) (h:-32767≤n∧n≤32767):okZ (sqP noise n):=by
 have h1:=jmO h
 have h2:0≤max 0 (az n-noise)∧max 0 (az n-noise)≤az n+noise:=by omega
 have h3:=Int.mul_nonneg h2.1 h2.1
 have h4:=Int.mul_le_mul h2.2 h2.2 h2.1 (by omega)
 have h5:=Int.mul_le_mul (show az n+noise≤65534 by omega) (show az n+noise≤65534 by omega) (show 0≤az n+noise by omega) (by omega)
 exact⟨h3,h4,h5⟩
theorem jcb (noise:Int) (l:List Nat):(zsO noise l).length=l.length:=by simp[zsO]
theorem jgz {noise:Int} {l:List Nat} (hn:0≤noise∧noise≤32767) (h:∀b∈l,se b=0):∀r∈zsO noise l,okZ r:=by
 intro r hr
 obtain⟨b,hb,rfl⟩:=List.mem_map.1 hr
 exact jAt hn (jmN (h b hb)).2
theorem jyJ {α β:Type} (l:List α) (d:α) (f:α→β) {body:Int × List β→Option ((Int × List β) ⊕ List β)} (hlen:l.length<1000000000000)
  (h1:∀i,i<l.length→∀o:List β,o.length=i→body ((i:Int),o)=some (.inl ((i:Int)+1,o++[f (l.getD i d)])))
  (h2:∀o,body ((l.length:Int),o)=some (.inr o)):jae body big (0,[])=some (l.map f):=by
 refine jbp (fun i=>((i:Int),(l.take i).map f)) (k:=l.length) (fun i hi=>?_) ?_ (by omega)
 ·have:=h1 i hi ((l.take i).map f) (by simp; omega)
  rw[this]
  have e:l.take (i+1)=l.take i++[l.getD i d]:=by
   rw[List.take_succ_eq_append_getElem hi]
   simp[List.getD,hi]
  rw[e]
  simp
 ·rw[List.take_length]; exact h2 _
theorem jwF {r noise:Int} (h:0≤r∧r≤32767) (hn:0≤noise∧noise≤32767) :
  wrap IntKind.i64 ((if wrap IntKind.i64 (r-noise)>(0:Int)then wrap IntKind.i64 (r-noise)else(0:Int))*if wrap IntKind.i64 (r-noise)>(0:Int)then wrap IntKind.i64 (r-noise)else(0:Int))=max 0 (r-noise)*max 0 (r-noise):=by
 rw[jap (x:=r-noise) (by omega)]
 have e:(if r-noise>0 then r-noise else 0)=max 0 (r-noise):=by split<;>omega
 rw[e]
 have h1:0≤max 0 (r-noise)∧max 0 (r-noise)≤32767:=by omega
 have h2:=Int.mul_nonneg h1.1 h1.1
 have h3:=Int.mul_le_mul h1.2 h1.2 h1.1 (by omega)
 exact jap (by omega)
theorem jt5 {r noise:Int} (h:0≤r∧r≤32767) (hn:0≤noise∧noise≤32767) :
  wrap IntKind.i64 (wrap IntKind.i64 (r+noise)*wrap IntKind.i64 (r+noise))=(r+noise)*(r+noise):=by
 rw[jap (x:=r+noise) (by omega)]
 have h1:0≤r+noise∧r+noise≤65534:=by omega
 have h2:=Int.mul_nonneg h1.1 h1.1
 have h3:=Int.mul_le_mul h1.2 h1.2 h1.1 (by omega)
 exact jap (by omega)
theorem jwG {l:List Nat} {noise:Int} (hl:l.length≤1024) (hs:∀b∈l,se b=0) (hn:0≤noise∧noise≤32767):jae (jb3 l noise) big (0,[])=some (zsO noise l):=by
 refine jyJ l 0 (fun b=>sqP noise (fi b)) (by omega) (fun i hi o ho=>?_) (fun o=>?_)
 ·unfold jb3
  dsimp only
  have hw:=jmN (hs (l.getD i 0) (by simp[List.getD,hi]))
  have ha:=jmO (M:=32767) hw.2
  rw[if_pos (by omega),if_pos (by omega),if_pos (by omega),Int.toNat_natCast,if_pos hw.1]
  rw[show f2i FloatKind.f32 (l.getD i 0)=fi (l.getD i 0)from rfl,jsd (by unfold inJ; omega),jaa,if_pos (by simp only[List.length_cons,List.length_nil]; omega),jwF ha hn,jt5 ha hn,jap (by omega)]
  rfl
 ·unfold jb3
  dsimp only
  rw[if_neg (by omega)]
def ssO (zs:List (List Int)) (tail:Int):List (List Int):=(List.range (zs.length+1)).map fun i=>[sLo (zs.drop i),sHi (zs.drop i)+tail]
theorem jb5 (zs:List (List Int)) (tail:Int):(ssO zs tail).length=zs.length+1:=by simp[ssO]
theorem jpi {zs:List (List Int)} {tail:Int} {i:Nat} (h:i≤zs.length):(ssO zs tail).getD i []=[sLo (zs.drop i),sHi (zs.drop i)+tail]:=by
 unfold ssO
 have:i<zs.length+1:=by omega
 simp[List.getD,this]
theorem jyK {zs:List (List Int)} (tail:Int) (h:zs.length≤1024):(jhc zs tail).length=zs.length+1∧(jhc zs tail).getD zs.length []=[0,tail]:=by
 refine⟨jrX tail (by omega),?_⟩
 unfold jhc
 rw[jap (by omega)]
 have e:Int.toNat ((zs.length:Int)+1)=zs.length+1:=by omega
 rw[e,Int.toNat_natCast]
 simp[List.getD,wr]
 rfl
theorem jyL {zs:List (List Int)} {i:Nat} (h:i<zs.length):zs.drop i=zs.getD i []::zs.drop (i+1):=by
 rw[List.drop_eq_getElem_cons h]
 simp[List.getD,h]
theorem jsH {zs:List (List Int)} {tail:Int} (h:zs.length≤1024) (hz:∀r∈zs,okZ r) (ht:0≤tail∧tail≤1000000000000):∀k,k≤zs.length →
  (jb8 zs tail (Bk.bk zs.length k)).length=zs.length+1∧∀i,zs.length-k≤i→i≤zs.length→(jb8 zs tail (Bk.bk zs.length k)).getD i []=[sLo (zs.drop i),sHi (zs.drop i)+tail]
 |0,_=>by
  have h0:=jyK tail h
  refine⟨h0.1,fun i h1 h2=>?_⟩
  have hi:i=zs.length:=by omega
  subst hi
  rw[List.drop_length]
  simp only[sLo,sHi,Int.zero_add]
  exact h0.2
 |k+1,hk=>by
  obtain⟨hl,hg⟩:=jsH h hz ht k (by omega)
  rw[Bk.bk_succ (by omega),jlT]
  dsimp only
  obtain⟨ss,hss⟩:∃ss,ss=jb8 zs tail (Bk.bk zs.length k):=⟨_,rfl⟩
  rw[←hss]at hl hg ⊢
  have hj:=hg (zs.length-1-k+1) (by omega) (by omega)
  have hd:=jyL (zs:=zs) (i:=zs.length-1-k) (by omega)
  have hok:=hz (zs.getD (zs.length-1-k) []) (by simp[List.getD,show zs.length-1-k<zs.length by omega])
  have hr:=jcD (zs:=zs.drop (zs.length-1-k+1)) fun r hr=>hz r (List.mem_of_mem_drop hr)
  have hdl:((zs.drop (zs.length-1-k+1)).length:Int)≤1024:=by rw[List.length_drop]; omega
  unfold okZ at hok
  generalize hi0:zs.length-1-k=i0 at *
  have e1:((((i0:Nat):Int)+1).toNat)=i0+1:=by omega
  have hup:upS ss (i0:Int) ((zs.getD i0 []).getD 0 0) ((zs.getD i0 []).getD 1 0)=ss.set i0 [sLo (zs.drop i0),sHi (zs.drop i0)+tail]:=by
   unfold upS
   rw[jap (x:=(i0:Int)+1) (by omega),e1,hj,Int.toNat_natCast]
   simp only[List.getD_cons_zero,List.getD_cons_succ]
   rw[jap (by omega),jap (by omega),hd]
   simp only[sLo,sHi]
   rw[show(zs.getD i0 []).getD 1 0+(sHi (zs.drop (i0+1))+tail)=(zs.getD i0 []).getD 1 0+sHi (zs.drop (i0+1))+tail by omega]
   rfl
  rw[hup]
  refine⟨by rw[List.length_set]; exact hl,fun i h1 h2=>?_⟩
  by_cases he:i=i0
  ·subst he
   simp[List.getD,hl,show i<zs.length+1 by omega]
  ·have:=hg i (by omega) h2
   rw[←this]
   simp[List.getD,List.getElem?_set,Ne.symm he]
theorem jzM {zs:List (List Int)} {tail:Int} (h:zs.length≤1024) (hz:∀r∈zs,okZ r) (ht:0≤tail∧tail≤1000000000000):jb8 zs tail (Bk.bk zs.length zs.length)=ssO zs tail:=by
 obtain⟨h1,h2⟩:=jsH h hz ht zs.length (Nat.le_refl _)
 apply List.ext_getElem
 ·rw[h1,jb5]
 ·intro i hi hi'
  have hi2:i≤zs.length:=by omega
  have a:=h2 i (by omega) hi2
  have b:=jpi (tail:=tail) hi2
  simp only[List.getD,List.getElem?_eq_getElem hi,Option.getD_some]at a
  simp only[List.getD,List.getElem?_eq_getElem hi',Option.getD_some]at b
  rw[a,b]
theorem jpj (rate:Int) {l:List Nat} (noise tail:Int) (hl:l.length<1000000000000) :
  jao rate l noise tail=some (if(jbs rate l noise tail).2≠0 then((jbs rate l noise tail).2,[],[])else(0,zsO noise l,ssO (zsO noise l) tail)):=by
 unfold jao
 rw[jsF rate noise tail hl,jaa]
 by_cases h:(jbs rate l noise tail).2=0
 ·obtain⟨hr,hn,ht⟩:=jpV h
  obtain⟨_,_,h3,h4⟩:=jpU hr
  have hzl:=jcb noise l
  have hzk:=jgz hn h4
  rw[if_neg (show ¬((jbs rate l noise tail).2 != 0)=true by rw[h]; simp),if_neg (by omega),jwG h3 h4 hn,jaa]
  have hr0:jbI (zsO noise l)=some ():=by
   unfold jbI
   rw[jap (by omega)]
   have e:Int.toNat (((zsO noise l).length:Int)+1)=(zsO noise l).length+1:=by omega
   rw[if_pos (by omega),e,List.length_replicate,if_pos (by omega),Int.toNat_natCast,if_pos (by omega)]
  rw[hr0,jaa,jzM (by omega) hzk ht]
 ·rw[if_pos (show((jbs rate l noise tail).2 != 0)=true by simpa using h),if_pos h]
theorem jwH (rate:Int) {l:List Nat} (noise tail:Int) (hl:l.length<1000000000000):(val (jao rate l noise tail)).1=(jbs rate l noise tail).2:=by
 rw[jpj rate noise tail hl]
 show(if(jbs rate l noise tail).2≠0 then((jbs rate l noise tail).2,([]:List (List Int)),([]:List (List Int)))else(0,zsO noise l,ssO (zsO noise l) tail)).1=_
 split
 ·rfl
 ·rename_i h; simp at h; rw[h]
end Go.Sh
end

section
namespace Go.Sh
open Go Go.Proofs Go.RowKit Go.Sx Go.Sx06 Ieee Go.Fl
open Go.IntKind (wrap)
def seg (zs:List (List Int)) (a b:Nat):List (List Int):=(zs.drop a).take (b-a)
theorem jsI {zs:List (List Int)} (h:∀r∈zs,okZ r) (a b:Nat):∀r∈seg zs a b,okZ r:=fun r hr=>h r (List.mem_of_mem_drop (List.mem_of_mem_take hr))
theorem jt6 (zs:List (List Int)) (a b:Nat):(seg zs a b).length≤zs.length:=by unfold seg; simp; omega
theorem jt7 (zs:List (List Int)) (a:Nat):seg zs a zs.length=zs.drop a:=by
 unfold seg
 rw[List.take_of_length_le (by simp)]
theorem jyM (zs:List (List Int)) (a:Nat):seg zs a a=[]:=by unfold seg; simp
theorem jyN {zs:List (List Int)} {a k:Nat} (h:a+k<zs.length):seg zs a (a+k+1)=seg zs a (a+k)++[zs.getD (a+k) []]:=by
 unfold seg
 have e1:a+k+1-a=k+1:=by omega
 have e2:a+k-a=k:=by omega
 rw[e1,e2,List.take_succ_eq_append_getElem (by simp; omega)]
 simp[List.getD,h]
theorem jpX {L:List (List Int)} {i:Nat} (hi:i<L.length):L.take (i+1)=L.take i++[L.getD i []]:=by
 rw[List.take_succ_eq_append_getElem hi]
 simp[List.getD,hi]
theorem jmP (a:List (List Int)) (r:List Int):sLo (a++[r])=sLo a+r.getD 0 0:=by rw[joc]; simp[sLo]
theorem jsJ (a:List (List Int)) (r:List Int):sHi (a++[r])=sHi a+r.getD 1 0:=by rw[jiQ]; simp[sHi]
theorem jvq {zs ss:List (List Int)} {rate noise tail:Int} {l:List Nat} {a b:Nat} (hz:∀r∈zs,okZ r) (hl:zs.length≤1024) (hab:a≤b) (hb:b≤zs.length) :
  y69 rate l noise tail zs ss (a:Int) (b:Int)=some (sLo (seg zs a b),sHi (seg zs a b)):=by
 unfold y69
 simp only[Option.getD_some]
 rw[if_pos (by omega)]
 have hsl:(seg zs a b).length=b-a:=by unfold seg; simp; omega
 have hok:=jsI hz a b
 have hit:jae (y50 zs (a:Int) (b:Int)) big (0,0,0)=some (sLo (seg zs a b),sHi (seg zs a b)):=by
  have h:=jbp (body:=y50 zs (a:Int) (b:Int)) (fun i=>((i:Int),sLo ((seg zs a b).take i),sHi ((seg zs a b).take i))) (k:=(seg zs a b).length) (y:=(sLo (seg zs a b),sHi (seg zs a b)))
   (fun i hi=>by
    have hr:=jcD (zs:=(seg zs a b).take i) fun r hr=>hok r (List.mem_of_mem_take hr)
    have hlen:(((seg zs a b).take i).length:Int)≤1024:=by rw[List.length_take]; omega
    have ho:=hok ((seg zs a b).getD i []) (by simp[List.getD,hi])
    unfold okZ at ho
    unfold y50 jc9
    simp only[Option.getD_some,Int.toNat_natCast]
    change (if(i:Int)<((seg zs a b).length:Int)then _ else _)=_
    rw[if_pos (by omega),if_pos (by show(0:Int)≤i∧(i:Int)<((seg zs a b).length:Int); omega),if_pos (by exact hi),jaa,jpX hi,jmP,jsJ]
    change some (Sum.inl (wrap .i64 ((i:Int)+1),wrap .i64 (sLo ((seg zs a b).take i)+((seg zs a b).getD i []).getD 0 0),wrap .i64 (sHi ((seg zs a b).take i)+((seg zs a b).getD i []).getD 1 0)))=_
    rw[jap (x:=(i:Int)+1) (by omega),jap (by omega),jap (by omega)]
    rfl)
   (by
    unfold y50
    simp only[Option.getD_some,Int.toNat_natCast]
    change (if((seg zs a b).length:Int)<((seg zs a b).length:Int)then _ else _)=_
    rw[if_neg (by omega),List.take_length]) (by omega)
  simpa [sLo,sHi]using h
 rw[hit]
 rfl
theorem jod {rate noise tail:Int} {l:List Nat} {t:Nat} (ht:t<l.length) (hs:∀b∈l,se b=0) (hn:0≤noise∧noise≤32767) :
  y62 rate l noise tail (t:Int)=some (((zsO noise l).getD t []).getD 0 0,((zsO noise l).getD t []).getD 1 0):=by
 unfold y62
 have hw:=jmN (hs (l.getD t 0) (by simp[List.getD,ht]))
 have ha:=jmO (M:=32767) hw.2
 have hg:(zsO noise l).getD t []=sqP noise (fi (l.getD t 0)):=by simp[zsO,List.getD,ht]
 rw[if_pos (by omega),Int.toNat_natCast,if_pos ht,if_pos hw.1,show f2i FloatKind.f32 (l.getD t 0)=fi (l.getD t 0)from rfl,jsc (by unfold inJ; omega),jaa,jwF ha hn,jt5 ha hn,hg]
 rfl
theorem jiR {rate noise tail:Int} {l:List Nat} {a b:Nat} (hs:∀x∈l,se x=0) (hl:l.length≤1024) (hn:0≤noise∧noise≤32767) (ht:0≤tail∧tail≤1000000000000) (hab:a≤b) (hb:b≤l.length) :
  y24 rate l noise tail (a:Int) (b:Int)=some (sLo (seg (zsO noise l) a b),sHi (seg (zsO noise l) a b)+if b=l.length then tail else 0):=by
 have hzl:=jcb noise l
 have hz:=jgz hn hs
 have hok:=jsI hz a b
 unfold y24
 have h:=jbp (body:=y39 rate l noise tail (b:Int)) (fun i=>(((a+i:Nat):Int),sLo (seg (zsO noise l) a (a+i)),sHi (seg (zsO noise l) a (a+i)))) (k:=b-a) (y:=(sLo (seg (zsO noise l) a b),sHi (seg (zsO noise l) a b)))
  (fun i hi=>by
   have hr:=jcD (jsI hz a (a+i))
   have hlen:((seg (zsO noise l) a (a+i)).length:Int)≤1024:=by have:=jt6 (zsO noise l) a (a+i); omega
   have ho:=hz ((zsO noise l).getD (a+i) []) (by simp[List.getD,show a+i<(zsO noise l).length by omega])
   unfold okZ at ho
   unfold y39
   dsimp only
   rw[if_pos (by omega),jod (by omega) hs hn,jaa]
   rw[show a+(i+1)=a+i+1 by omega,jyN (by omega),jmP,jsJ,jap (x:=(((a+i:Nat):Int))+1) (by omega),jap (by omega),jap (by omega)]
   rfl)
  (by
   unfold y39
   dsimp only
   have e:a+(b-a)=b:=by omega
   rw[if_neg (by omega),e]) (by omega)
 have h0:jae (y39 rate l noise tail (b:Int)) big ((a:Int),0,0)=some (sLo (seg (zsO noise l) a b),sHi (seg (zsO noise l) a b)):=by
  simpa [sLo,sHi,jyM]using h
 rw[h0,jaa]
 unfold y73
 have hr:=jcD hok
 have hlen:((seg (zsO noise l) a b).length:Int)≤1024:=by have:=jt6 (zsO noise l) a b; omega
 by_cases he:b=l.length
 ·rw[if_pos (show((b:Int)==(l.length:Int))=true by rw[he]; simp),if_pos he]
  rw[jap (by dsimp only; omega)]
 ·rw[if_neg (show ¬((b:Int)==(l.length:Int))=true by simp; omega),if_neg he,Int.add_zero]
theorem jlg {rate noise tail:Int} {l:List Nat} {a:Nat} (hs:∀x∈l,se x=0) (hl:l.length≤1024) (hn:0≤noise∧noise≤32767) (ht:0≤tail∧tail≤1000000000000) (ha:a≤l.length) :
  y35 rate l noise tail (a:Int)=some (sLo ((zsO noise l).drop a),sHi ((zsO noise l).drop a)+tail):=by
 unfold y35
 rw[jiR hs hl hn ht ha (Nat.le_refl _),jaa,if_pos rfl]
 have:=jt7 (zsO noise l) a
 rw[jcb]at this
 rw[this]
def nAt (rate time:Int):Int:=(time*rate+999999)/1000000
theorem jkL {rate time:Int} (hr:8000≤rate∧rate≤192000) (ht:0≤time∧time≤1000000):0≤time*rate∧time*rate≤192000000000 :=
 ⟨Int.mul_nonneg ht.1 (by omega),by have:=Int.mul_le_mul ht.2 hr.2 (by omega) (by omega); omega⟩
theorem jpY {rate time:Int} (hr:8000≤rate∧rate≤192000) (ht:0≤time∧time≤1000000):0≤nAt rate time∧nAt rate time≤192000:=by
 have h:=jkL hr ht
 unfold nAt
 omega
theorem jtB {rate time:Int} (hr:8000≤rate∧rate≤192000) (ht:0≤time∧time≤1000000):jmh rate time=some (nAt rate time):=by
 have h:=jkL hr ht
 unfold jmh nAt
 rw[jap (by omega),jeu (by omega) h.1 (by omega),jaa,show time*rate+1000000-1=time*rate+999999 by omega]
theorem jtC (time:Int):jmB time=some (if 0≤time∧time≤1000000 then 0 else 2):=by
 unfold jmB
 rw[jcM,jaa]
 by_cases h:0≤time∧time≤1000000
 ·rw[jkK h,if_neg Bool.false_ne_true,if_pos h]
 ·rw[jmM h,if_pos rfl,if_neg h]
theorem jkM {rate time:Int} (hr:8000≤rate∧rate≤192000) (ht:0≤time∧time≤1000000):y77 rate time=some (nAt rate time,0):=by
 have h:=jkL hr ht
 unfold y77 jhj
 rw[jcM,jaa,jaa,jkK hr,if_neg Bool.false_ne_true,jtC,if_pos ht,jaa,if_neg (by simp),jap (by omega),jdc (by omega) (by omega),jaa,jdI (by omega),show time*rate+1000000-1=time*rate+999999 by omega]
 rfl
def jaA (rate time:Int) (n:Nat):Nat:=min n (nAt rate time).toNat
theorem jpk (rate time:Int) (n:Nat):jaA rate time n≤n:=Nat.min_le_left _ _
theorem jt8 {rate time:Int} (n:Nat) (hr:8000≤rate∧rate≤192000) (ht:0≤time∧time≤1000000):(if nAt rate time<(n:Int)then nAt rate time else(n:Int))=(jaA rate time n:Int)∧(if(n:Int)<nAt rate time then(n:Int)else nAt rate time)=(jaA rate time n:Int):=by
 have:=jpY hr ht
 unfold jaA
 constructor<;>split<;>omega
theorem jpl {rate noise tail time:Int} {l:List Nat} {zs ss:List (List Int)} (hr:8000≤rate∧rate≤192000) (ht:0≤time∧time≤1000000):y74 rate l noise tail zs ss time=some (jaA rate time zs.length:Int):=by
 unfold y74
 rw[jtB hr ht,jaa,(jt8 zs.length hr ht).1]
theorem jpZ {rate noise tail time:Int} {l:List Nat} {zs ss:List (List Int)} (hz:∀r∈zs,okZ r) (hl:zs.length≤1024) (hr:8000≤rate∧rate≤192000) (ht:0≤time∧time≤1000000) :
  y68 rate l noise tail zs ss time=some (sLo (zs.take (jaA rate time zs.length)),sHi (zs.take (jaA rate time zs.length))):=by
 unfold y68
 have h:=jvq (rate:=rate) (noise:=noise) (tail:=tail) (l:=l) (ss:=ss) (a:=0) hz hl (Nat.zero_le _) (jpk rate time zs.length)
 have e:seg zs 0 (jaA rate time zs.length)=zs.take (jaA rate time zs.length):=by unfold seg; simp
 rw[e]at h
 have h:y69 rate l noise tail zs ss 0 (jaA rate time zs.length:Int)=_:=h
 rw[jpl hr ht,jaa,h]
 rfl
theorem jsK {rate noise tail time T:Int} {l:List Nat} {zs:List (List Int)} (hr:8000≤rate∧rate≤192000) (ht:0≤time∧time≤1000000) :
  y76 rate l noise tail zs (ssO zs T) time=some (sLo (zs.drop (jaA rate time zs.length)),sHi (zs.drop (jaA rate time zs.length))+T):=by
 have hc:=jpk rate time zs.length
 unfold y76
 rw[jpl hr ht,jaa,jb5,if_pos (by omega),Int.toNat_natCast,if_pos (by omega),jpi hc]
 rfl
theorem jp0 {rate noise tail time:Int} {l:List Nat} (hs:∀x∈l,se x=0) (hl:l.length≤1024) (hn:0≤noise∧noise≤32767) (htl:0≤tail∧tail≤1000000000000) (hr:8000≤rate∧rate≤192000) (ht:0≤time∧time≤1000000) :
  y91 rate l noise tail time=some (sLo ((zsO noise l).take (jaA rate time l.length)),sHi ((zsO noise l).take (jaA rate time l.length)),sLo ((zsO noise l).drop (jaA rate time l.length)),sHi ((zsO noise l).drop (jaA rate time l.length))+tail):=by
 have hc:=jpk rate time l.length
 have hzl:=jcb noise l
 have hz:=jgz hn hs
 have hE:=jiR (rate:=rate) (tail:=tail) (a:=0) hs hl hn htl (Nat.zero_le _) hc
 have hL:=jiR (rate:=rate) (tail:=tail) hs hl hn htl hc (Nat.le_refl _)
 have e:seg (zsO noise l) 0 (jaA rate time l.length)=(zsO noise l).take (jaA rate time l.length):=by unfold seg; simp
 have e2:=jt7 (zsO noise l) (jaA rate time l.length)
 rw[hzl]at e2
 rw[e]at hE
 rw[e2,if_pos rfl]at hL
 unfold y91
 rw[jkM hr ht,jaa]
 dsimp only
 rw[(jt8 l.length hr ht).2]
 have hE:y24 rate l noise tail 0 (jaA rate time l.length:Int)=_:=hE
 rw[hE,jaa]
 have hrg:=jcD (zs:=(zsO noise l).take (jaA rate time l.length)) fun r hr=>hz r (List.mem_of_mem_take hr)
 have hlen:(((zsO noise l).take (jaA rate time l.length)).length:Int)≤1024:=by rw[List.length_take]; omega
 by_cases hce:jaA rate time l.length=l.length
 ·rw[if_pos (show((jaA rate time l.length:Int)==(l.length:Int))=true by rw[hce]; simp),if_pos hce,hL,jaa]
  dsimp only
  rw[show sHi ((zsO noise l).take (jaA rate time l.length))+tail-tail=sHi ((zsO noise l).take (jaA rate time l.length)) by omega,jap (by omega)]
 ·rw[if_neg (show ¬((jaA rate time l.length:Int)==(l.length:Int))=true by simp; omega),if_neg hce,hL,jaa,Int.add_zero]
end Go.Sh
end

section
namespace Go.Sh
open Go Go.Proofs Go.RowKit Go.Sx Go.Sx06 Ieee Go.Fl
open Go.IntKind (wrap)
def p10 (f:Int):Int:=10^f.toNat
theorem jp1 {f:Int} (h:0≤f∧f≤12):f=0∨f=1∨f=2∨f=3∨f=4∨f=5∨f=6∨f=7∨f=8∨f=9∨f=10∨f=11∨f=12:=by omega
theorem jkN {f:Int} (h:0≤f∧f≤12):jaz.getD f.toNat 0=p10 f∧1≤p10 f∧p10 f≤1000000000000:=by
 rcases jp1 h with rfl|rfl|rfl|rfl|rfl|rfl|rfl|rfl|rfl|rfl|rfl|rfl|rfl<;>decide
theorem jiS:jaz.length=13:=rfl
def fB (s w f:Int):Bool:=decide (s*s*p10 f≤w*w)
theorem sqn {s M:Int} (h:0≤s∧s≤M):0≤s*s∧s*s≤M*M:=⟨Int.mul_nonneg h.1 h.1,Int.mul_le_mul h.2 h.2 h.1 (by omega)⟩
theorem jp2 {s w f:Int} (hs:0≤s∧s≤10000000000000) (hw:0≤w∧w≤10000000000000) (hf:0≤f∧f≤12):y87 s w f=some (fB s w f):=by
 obtain⟨hp,hp1,hp2⟩:=jkN hf
 have hss:=sqn hs
 have hww:=sqn hw
 unfold y87
 have es:wrap IntKind.u64 s=s:=by rw[jbE]; exact Int.emod_eq_of_lt hs.1 (by omega)
 have ew:wrap IntKind.u64 w=w:=by rw[jbE]; exact Int.emod_eq_of_lt hw.1 (by omega)
 rw[es,ew,jiS]
 have m1:=jcF (x:=s) (y:=s) (by omega) (by omega) (by omega) (by omega)
 rw[m1,jaa,if_pos (by omega),if_pos (by omega),hp]
 have hlo:wrap IntKind.u64 (s*s)=s*s%18446744073709551616:=jbE _
 rw[hlo]
 have hlr:0≤s*s%18446744073709551616∧s*s%18446744073709551616<18446744073709551616:=by omega
 have m2:=jcF (x:=s*s%18446744073709551616) (y:=p10 f) (by omega) (by omega) (by omega) (by omega)
 have m3:=jcF (x:=w) (y:=w) (by omega) (by omega) (by omega) (by omega)
 rw[m2,jaa,m3,jaa,if_pos (by omega),if_pos (by omega)]
 unfold y6 at m1 m2 m3
 have e1:=congrArg Prod.fst (Option.some.inj m1)
 have e2:=congrArg Prod.fst (Option.some.inj m2)
 have e3:=congrArg Prod.fst (Option.some.inj m3)
 dsimp only at e1 e2 e3
 rw[e1,e2,e3,jbE,jbE,jbE,jbE,jgj,jaa]
 have hh:0≤s*s/18446744073709551616∧s*s/18446744073709551616≤5421010:=by omega
 have hl2:0≤s*s%18446744073709551616*p10 f/18446744073709551616∧s*s%18446744073709551616*p10 f/18446744073709551616≤1000000000000:=by
  have h1:=Int.mul_nonneg hlr.1 (show 0≤p10 f by omega)
  have h2:=Int.mul_le_mul (show s*s%18446744073709551616≤18446744073709551616 by omega) hp2 (by omega) (by omega)
  constructor
  ·exact Int.ediv_nonneg h1 (by omega)
  ·omega
 have hm:=Int.mul_nonneg hh.1 (show 0≤p10 f by omega)
 have hm2:=Int.mul_le_mul hh.2 hp2 (show 0≤p10 f by omega) (by omega)
 have ex:s*s*p10 f=(s*s/18446744073709551616*p10 f+s*s%18446744073709551616*p10 f/18446744073709551616)*18446744073709551616+s*s%18446744073709551616*p10 f%18446744073709551616:=by
  have h0:s*s=s*s/18446744073709551616*18446744073709551616+s*s%18446744073709551616:=by omega
  have h1:s*s*p10 f=s*s/18446744073709551616*p10 f*18446744073709551616+s*s%18446744073709551616*p10 f:=by
   conv=>lhs; rw[h0]
   rw[Int.add_mul,Int.mul_right_comm]
  omega
 have key:=jsf (s*s*p10 f) (w*w)
 have q1:s*s*p10 f/18446744073709551616=s*s/18446744073709551616*p10 f+s*s%18446744073709551616*p10 f/18446744073709551616:=by omega
 have q2:s*s*p10 f%18446744073709551616=s*s%18446744073709551616*p10 f%18446744073709551616:=by omega
 have w1:s*s/18446744073709551616*p10 f%18446744073709551616=s*s/18446744073709551616*p10 f:=Int.emod_eq_of_lt hm (by omega)
 rw[w1]
 have w2:(s*s/18446744073709551616*p10 f+s*s%18446744073709551616*p10 f/18446744073709551616)%18446744073709551616=s*s/18446744073709551616*p10 f+s*s%18446744073709551616*p10 f/18446744073709551616:=Int.emod_eq_of_lt (by omega) (by omega)
 rw[w2,←q1,←q2]
 first
  |rw[key]
  |(rw[show w*w%18446744073709551616=w*w%18446744073709551616 from rfl,key])
 unfold fB
 by_cases h1:s*s*p10 f<w*w
 ·rw[if_pos h1,decide_eq_true (show s*s*p10 f≤w*w by omega)]; rfl
 ·rw[if_neg h1]
  by_cases h2:w*w<s*s*p10 f
  ·rw[if_pos h2,decide_eq_false (show ¬s*s*p10 f≤w*w by omega)]; rfl
  ·rw[if_neg h2,decide_eq_true (show s*s*p10 f≤w*w by omega)]; rfl
theorem jkO {n:Int} (h:0≤n∧n≤18):jef n=some (p10 n):=by
 have:n=0∨n=1∨n=2∨n=3∨n=4∨n=5∨n=6∨n=7∨n=8∨n=9∨n=10∨n=11∨n=12∨n=13∨n=14∨n=15∨n=16∨n=17∨n=18:=by omega
 rcases this with rfl|rfl|rfl|rfl|rfl|rfl|rfl|rfl|rfl|rfl|rfl|rfl|rfl|rfl|rfl|rfl|rfl|rfl|rfl<;>decide +kernel
theorem jyO {f:Int} (h:0≤f∧f≤12):(f%2=0→p10 f=p10 (f/2)*p10 (f/2))∧(f%2=1→p10 f=10*(p10 (f/2)*p10 (f/2)))∧1≤p10 (f/2)∧p10 (f/2)≤1000000:=by
 rcases jp1 h with rfl|rfl|rfl|rfl|rfl|rfl|rfl|rfl|rfl|rfl|rfl|rfl|rfl<;>decide
theorem sq_le {a b:Int} (ha:0≤a) (hb:0≤b):a*a≤b*b↔a≤b:=by
 constructor
 ·intro h
  apply Classical.byContradiction
  intro hc
  have h1:=Int.mul_lt_mul (show b<a by omega) (show b≤a by omega)
  by_cases hb0:b=0
  ·subst hb0
   have:=Int.mul_pos (show 0<a by omega) (show 0<a by omega)
   omega
  ·have:=h1 (by omega) (by omega)
   omega
 ·intro h
  exact Int.mul_le_mul h h ha hb
theorem jp3 {n w f:Int} (hn:0≤n∧n≤9000000000000) (hw:0<w∧w≤9000000000000) (hf:0≤f∧f≤12):y63 n w f=some (fB n w f):=by
 obtain⟨he,ho,hp1,hp2⟩:=jyO hf
 unfold y63
 rw[Int.tdiv_eq_ediv_of_nonneg hf.1,jap (x:=f/2) (by omega),jkO (by omega),jaa,Int.tmod_eq_emod_of_nonneg hf.1]
 have hx:0≤n*p10 (f/2)∧n*p10 (f/2)≤9000000000000000000:=⟨Int.mul_nonneg hn.1 (by omega),by have:=Int.mul_le_mul hn.2 hp2 (by omega) (by omega); omega⟩
 have hxx:n*p10 (f/2)*(n*p10 (f/2))=n*n*(p10 (f/2)*p10 (f/2)):=by
  rw[Int.mul_assoc,Int.mul_left_comm (p10 (f/2)) n,←Int.mul_assoc]
 rw[jap (x:=n*p10 (f/2)) (by omega)]
 generalize hX:n*p10 (f/2)=X at *
 have hle:=sq_le hx.1 (show 0≤w by omega)
 have hnn:=Int.mul_nonneg hx.1 hx.1
 by_cases hpar:f%2=0
 ·rw[if_pos (by rw[hpar]; rfl)]
  congr 1
  unfold fB
  rw[he hpar,←hxx]
  exact(decide_eq_decide.2 hle).symm
 ·have hodd:f%2=1:=by omega
  rw[if_neg (by simpa using hpar)]
  have hfB:fB n w f=decide (10*(X*X)≤w*w):=by
   unfold fB
   rw[ho hodd,Int.mul_left_comm,←hxx]
  rw[hfB]
  by_cases hbig:X>w
  ·rw[if_pos hbig,decide_eq_false (show ¬X≤w by omega),decide_eq_false]
   intro hc
   exact absurd (hle.1 (by omega)) (by omega)
  ·rw[if_neg hbig,jap (x:=10*X) (by omega)]
   have em:(if X>1 then X else 1)=max 1 X:=by split<;>omega
   rw[em,jcL (by omega) (by omega) (by omega) (by omega) (by omega) (by omega) (by omega) (by omega),jaa]
   congr 1
   have h10:10*X*max 1 X=10*(X*X):=by
    by_cases h0:X=0
    ·rw[h0]; rfl
    ·rw[show max 1 X=X by omega,Int.mul_assoc]
   unfold jcq
   rw[h10]
   by_cases c1:10*(X*X)<w*w
   ·rw[if_pos c1,decide_eq_true (show 10*(X*X)≤w*w by omega)]; rfl
   ·rw[if_neg c1]
    by_cases c2:w*w<10*(X*X)
    ·rw[if_pos c2,decide_eq_false (show ¬10*(X*X)≤w*w by omega)]; rfl
    ·rw[if_neg c2,decide_eq_true (show 10*(X*X)≤w*w by omega)]; rfl
end Go.Sh
end

section
namespace Go.Sh
open Go Go.Proofs Go.RowKit Go.Sx Go.Sx06 Ieee Go.Fl
open Go.IntKind (wrap)
theorem jzN {s s' w w' f:Int} (h1:0≤s∧s≤s') (h2:0≤w'∧w'≤w) (hf:0≤p10 f) (h:fB s' w' f=true):fB s w f=true:=by
 unfold fB at *
 simp only[decide_eq_true_eq]at *
 have a:=Int.mul_le_mul_of_nonneg_right (Int.mul_le_mul h1.2 h1.2 h1.1 (by omega)) hf
 have b:=Int.mul_le_mul h2.2 h2.2 h2.1 (by omega)
 omega
theorem jzO (f:Int):0≤p10 f:=by unfold p10; exact Int.pow_nonneg (by omega)
theorem jyP {s w f g:Int} (hfg:p10 f≤p10 g) (h:fB s w g=true):fB s w f=true:=by
 unfold fB at *
 simp only[decide_eq_true_eq]at *
 have a:0≤s*s:=by
  rcases Int.le_total 0 s with h|h
  ·exact Int.mul_nonneg h h
  ·exact Int.mul_nonneg_of_nonpos_of_nonpos h h
 have b:=Int.mul_le_mul_of_nonneg_left hfg a
 omega
def sfI (zs:List (List Int)) (T f:Int):Option Nat:=(ssO zs T).findIdx? fun r=>fB (r.getD 1 0) (sLo zs) f
def phI (zs:List (List Int)) (T f:Int):Option Nat:=(ssO zs T).findIdx? fun r=>fB (r.getD 0 0) (sHi zs+T) f
def ixZ (o:Option Nat):Int:=match o with
 |some i=>(i:Int)
 |none=>-1
def jaL (zs:List (List Int)) (T f:Int):Int × Int × Bool:=match sfI zs T f with
 |some j=>if j=zs.length then(0,0,false)else(max 0 (ixZ (phI zs T f)-1),(j:Int),true)
 |none=>(0,0,false)
structure ZOK (zs:List (List Int)) (T:Int):Prop where
 len:zs.length≤1024
 ok:∀r∈zs,okZ r
 tail:0≤T∧T≤1000000000000
section
variable {zs:List (List Int)} {T f:Int}
theorem ZOK.at_ (h:ZOK zs T) {i:Nat} (hi:i≤zs.length):0≤sLo (zs.drop i)∧sLo (zs.drop i)≤sHi (zs.drop i)+T∧sHi (zs.drop i)+T≤6000000000000:=by
 have:=jcD (zs:=zs.drop i) fun r hr=>h.ok r (List.mem_of_mem_drop hr)
 have hl:=h.len
 have ht:=h.tail
 have hd:((zs.drop i).length:Int)≤1024:=by rw[List.length_drop]; omega
 omega
theorem ZOK.all (h:ZOK zs T):0≤sLo zs∧sLo zs≤sHi zs+T∧sHi zs+T≤6000000000000:=by
 have:=h.at_ (i:=0) (Nat.zero_le _)
 simpa using this
theorem jgA {α:Type} {l:List α} {P:α→Bool} {d:α} {j:Nat} (h:l.findIdx? P=some j):j<l.length∧P (l.getD j d)=true∧∀i,i<j→P (l.getD i d)=false:=by
 rw[List.findIdx?_eq_some_iff_getElem]at h
 obtain⟨hk,hp,hb⟩:=h
 refine⟨hk,by simpa [List.getD,hk]using hp,fun i hi=>?_⟩
 have:=hb i hi
 simpa [List.getD,show i<l.length by omega]using this
theorem jmQ {α:Type} {l:List α} {P:α→Bool} (d:α) (h:l.findIdx? P=none):∀i,i<l.length→P (l.getD i d)=false:=by
 rw[List.findIdx?_eq_none_iff]at h
 intro i hi
 simpa [List.getD,hi]using h l[i] (List.getElem_mem _)
theorem joe {α:Type} {l:List α} {P:α→Bool} {d:α} {j:Nat} (h1:j<l.length) (h2:P (l.getD j d)=true):∃i,l.findIdx? P=some i∧i≤j:=by
 cases h:l.findIdx? P with
 |none=>have:=jmQ d h j h1; rw[h2]at this; cases this
 |some i =>
  refine⟨i,rfl,?_⟩
  have:=(jgA (d:=d) h).2.2
  apply Classical.byContradiction
  intro hc
  have h3:=this j (by omega)
  rw[h2]at h3
  cases h3
theorem jde {i:Nat} (hi:i≤zs.length):((ssO zs T).getD i []).getD 0 0=sLo (zs.drop i)∧((ssO zs T).getD i []).getD 1 0=sHi (zs.drop i)+T:=by
 rw[jpi hi]
 exact⟨rfl,rfl⟩
theorem jlh:((ssO zs T).getD 0 []).getD 0 0=sLo zs∧((ssO zs T).getD 0 []).getD 1 0=sHi zs+T:=by
 have:=jde (zs:=zs) (T:=T) (i:=0) (Nat.zero_le _)
 simpa using this
theorem jfS {j:Nat} (h:sfI zs T f=some j):j≤zs.length∧fB (sHi (zs.drop j)+T) (sLo zs) f=true∧∀i,i<j→fB (sHi (zs.drop i)+T) (sLo zs) f=false:=by
 obtain⟨h1,h2,h3⟩:=jgA (d:=[]) h
 rw[jb5]at h1
 have hj:j≤zs.length:=by omega
 rw[(jde hj).2]at h2
 refine⟨hj,h2,fun i hi=>?_⟩
 have:=h3 i hi
 rw[(jde (show i≤zs.length by omega)).2]at this
 exact this
theorem jzP {j:Nat} (h:phI zs T f=some j):j≤zs.length∧fB (sLo (zs.drop j)) (sHi zs+T) f=true∧∀i,i<j→fB (sLo (zs.drop i)) (sHi zs+T) f=false:=by
 obtain⟨h1,h2,h3⟩:=jgA (d:=[]) h
 rw[jb5]at h1
 have hj:j≤zs.length:=by omega
 rw[(jde hj).1]at h2
 refine⟨hj,h2,fun i hi=>?_⟩
 have:=h3 i hi
 rw[(jde (show i≤zs.length by omega)).1]at this
 exact this
theorem jmR (hz:ZOK zs T) {j:Nat} (h:sfI zs T f=some j):∃i,phI zs T f=some i∧i≤j:=by
 obtain⟨h1,h2,_⟩:=jfS h
 have a:=hz.at_ h1
 have b:=hz.all
 refine joe (d:=[]) (by rw[jb5]; omega) ?_
 rw[(jde h1).1]
 exact jzN ⟨a.1,a.2.1⟩ ⟨b.1,b.2.1⟩ (jzO f) h2
theorem jmS {g:Int} (hfg:p10 f≤p10 g) {j:Nat} (h:sfI zs T g=some j):∃i,sfI zs T f=some i∧i≤j:=by
 obtain⟨h1,h2,_⟩:=jfS h
 refine joe (d:=[]) (by rw[jb5]; omega) ?_
 rw[(jde h1).2]
 exact jyP hfg h2
theorem jdf (hz:ZOK zs T) (h:(jaL zs T f).2.2=true):∃i j:Nat,sfI zs T f=some j∧phI zs T f=some i∧i≤j∧j<zs.length∧jaL zs T f=(max 0 ((i:Int)-1),(j:Int),true):=by
 unfold jaL at h ⊢
 cases hs:sfI zs T f with
 |none=>rw[hs]at h; cases h
 |some j =>
  rw[hs]at h
  dsimp only at h ⊢
  split at h
  ·cases h
  ·rename_i hne
   obtain⟨i,hi,hij⟩:=jmR hz hs
   have:=(jfS hs).1
   refine⟨i,j,rfl,hi,hij,by omega,?_⟩
   rw[if_neg hne,hi]
   rfl
variable {rate noise tl:Int} {l:List Nat}
theorem jwI (hz:ZOK zs T) (hf:0≤f∧f≤12):y31 (ssO zs T) rate l noise tl zs (ssO zs T) f=some (ixZ (phI zs T f)):=by
 have ha:=hz.all
 have hlen:=hz.len
 have hk:=jb5 zs T
 have h0:=jlh (zs:=zs) (T:=T)
 have hc:∀i,i<(ssO zs T).length→y58 (((ssO zs T).getD i []).getD 0 0) (((ssO zs T).getD i []).getD 1 0) rate l noise tl zs (ssO zs T) f=some (fB (((ssO zs T).getD i []).getD 0 0) (sHi zs+T) f):=by
  intro i hi
  unfold y58
  rw[if_pos (by omega),if_pos (by omega),h0.2,(jde (show i≤zs.length by omega)).1]
  have:=hz.at_ (i:=i) (by omega)
  rw[jp2 (by omega) (by omega) hf]
  rfl
 have h:=jdm (ssO zs T) [] (fun r=>fB (r.getD 0 0) (sHi zs+T) f) (body:=y16 (ssO zs T) rate l noise tl zs (ssO zs T) f) (fun i=>.inl (i:Int)) (.inr ()) (by omega)
  (fun i hi hp=>by
   unfold y16
   rw[if_pos (by omega),if_pos (by omega),if_pos (by omega),Int.toNat_natCast,hc i hi,jaa,if_pos hp])
  (fun i hi hp=>by
   unfold y16
   rw[if_pos (by omega),if_pos (by omega),if_pos (by omega),Int.toNat_natCast,hc i hi,jaa,if_neg (by rw[hp]; simp),jap (by omega)])
  (by unfold y16; rw[if_neg (by omega)])
 unfold y31 phI ixZ
 rw[h]
 cases (ssO zs T).findIdx? (fun r=>fB (r.getD 0 0) (sHi zs+T) f)<;>rfl
theorem jwJ (hz:ZOK zs T) (hf:0≤f∧f≤12):y32 (ssO zs T) rate l noise tl zs (ssO zs T) f=some (ixZ (sfI zs T f)):=by
 have ha:=hz.all
 have hlen:=hz.len
 have hk:=jb5 zs T
 have h0:=jlh (zs:=zs) (T:=T)
 have hc:∀i,i<(ssO zs T).length→y59 (((ssO zs T).getD i []).getD 0 0) (((ssO zs T).getD i []).getD 1 0) rate l noise tl zs (ssO zs T) f=some (fB (((ssO zs T).getD i []).getD 1 0) (sLo zs) f):=by
  intro i hi
  unfold y59
  rw[if_pos (by omega),if_pos (by omega),h0.1,(jde (show i≤zs.length by omega)).2]
  have:=hz.at_ (i:=i) (by omega)
  rw[jp2 (by omega) (by omega) hf]
  rfl
 have h:=jdm (ssO zs T) [] (fun r=>fB (r.getD 1 0) (sLo zs) f) (body:=y17 (ssO zs T) rate l noise tl zs (ssO zs T) f) (fun i=>.inl (i:Int)) (.inr ()) (by omega)
  (fun i hi hp=>by
   unfold y17
   rw[if_pos (by omega),if_pos (by omega),if_pos (by omega),Int.toNat_natCast,hc i hi,jaa,if_pos hp])
  (fun i hi hp=>by
   unfold y17
   rw[if_pos (by omega),if_pos (by omega),if_pos (by omega),Int.toNat_natCast,hc i hi,jaa,if_neg (by rw[hp]; simp),jap (by omega)])
  (by unfold y17; rw[if_neg (by omega)])
 unfold y32 sfI ixZ
 rw[h]
 cases (ssO zs T).findIdx? (fun r=>fB (r.getD 1 0) (sLo zs) f)<;>rfl
theorem jdt (hz:ZOK zs T) (hf:0≤f∧f≤12):y29 rate l noise tl zs (ssO zs T) f=some (jaL zs T f):=by
 unfold y29
 rw[jwI hz hf,jaa,jwJ hz hf,jaa]
 unfold jaL
 cases hs:sfI zs T f with
 |none=>rfl
 |some j =>
  obtain⟨i,hi,hij⟩:=jmR hz hs
  have hj:=(jfS hs).1
  have hl:=hz.len
  rw[hi]
  unfold ixZ
  dsimp only
  rw[if_neg (by omega)]
  by_cases he:j=zs.length
  ·rw[if_pos (by rw[he]; simp),if_pos he]
  ·rw[if_neg (by simp; omega),if_neg he,jap (by omega)]
   congr 2
   split<;>omega
def jct (o:Option Nat) (t:Nat):Int:=match o with
 |some i=>if i<t then(i:Int)else -1
 |none=>-1
theorem jp4 (o:Option Nat):jct o 0=-1:=by cases o<;>simp[jct]
theorem jhR {i t:Nat} (h:i<t):jct (some i) t=i:=by simp[jct,h]
theorem jpm {i t:Nat} (h:t≤i):jct (some i) t=-1:=by simp[jct]; omega
theorem jvr (o:Option Nat) (t:Nat):-1≤jct o t∧jct o t≤t:=by
 cases o with
 |none=>simp[jct]
 |some i =>
  by_cases h:i<t
  ·rw[jhR h]; omega
  ·rw[jpm (by omega)]; omega
theorem jwK {t:Nat} (ht:t≤zs.length):jct (phI zs T f) (t+1)=if jct (phI zs T f) t<0 then(if fB (sLo (zs.drop t)) (sHi zs+T) f=true then(t:Int)else -1)else jct (phI zs T f) t:=by
 cases hph:phI zs T f with
 |none =>
  have:=jmQ [] hph t (by rw[jb5]; omega)
  rw[(jde ht).1]at this
  rw[if_pos (show jct none t<0 by simp[jct]),this]
  rfl
 |some i =>
  obtain⟨h1,h2,h3⟩:=jzP hph
  by_cases c1:i<t
  ·rw[jhR (show i<t+1 by omega),jhR c1,if_neg (by omega)]
  ·rw[jpm (show t≤i by omega),if_pos (by omega)]
   by_cases c2:i=t
   ·subst c2
    rw[jhR (by omega),if_pos h2]
   ·rw[jpm (by omega),h3 t (by omega)]
    rfl
theorem jtD {tail:Int} (hs:∀x∈l,se x=0) (hl:l.length≤1024) (hn:0≤noise∧noise≤32767) (ht:0≤tail∧tail≤1000000000000) (hf:0≤f∧f≤12) (h0:0<sLo (zsO noise l)) :
  y30 rate l noise tail f=some (jaL (zsO noise l) tail f):=by
 have hzl:=jcb noise l
 have hz:ZOK (zsO noise l) tail:=⟨by omega,jgz hn hs,ht⟩
 have hall:=hz.all
 unfold y30
 have hsum0:=jlg (rate:=rate) (noise:=noise) (tail:=tail) (a:=0) hs hl hn ht (Nat.zero_le _)
 rw[List.drop_zero]at hsum0
 have hsum0:y35 rate l noise tail 0=_:=hsum0
 rw[hsum0,jaa]
 have hP:∀t,t<l.length→y63 (sLo ((zsO noise l).drop t)) (sHi (zsO noise l)+tail) f=some (fB (sLo ((zsO noise l).drop t)) (sHi (zsO noise l)+tail) f):=fun t ht'=>by
  have:=hz.at_ (i:=t) (by omega)
  exact jp3 (by omega) (by omega) hf
 have hQ:∀t,t<l.length→y63 (sHi ((zsO noise l).drop t)+tail) (sLo (zsO noise l)) f=some (fB (sHi ((zsO noise l).drop t)+tail) (sLo (zsO noise l)) f):=fun t ht'=>by
  have:=hz.at_ (i:=t) (by omega)
  exact jp3 (by omega) (by omega) hf
 have emax:∀z:Int,-9223372036854775807≤z∧z≤9223372036854775807→(if wrap IntKind.i64 (z-(1:Int))>(0:Int)then wrap IntKind.i64 (z-(1:Int))else(0:Int))=max 0 (z-1):=fun z hz=>by
  rw[jap (by omega)]
  split<;>omega
 have hbody:∀t,t<l.length→y28 rate l noise tail f (sLo (zsO noise l),sHi (zsO noise l)+tail) ((t:Int),jct (phI (zsO noise l) tail f) t) =
   if fB (sHi ((zsO noise l).drop t)+tail) (sLo (zsO noise l)) f=true then some (.inr (.inl (max 0 (jct (phI (zsO noise l) tail f) (t+1)-1),(t:Int))))else some (.inl (((t+1:Nat):Int),jct (phI (zsO noise l) tail f) (t+1))):=by
  intro t ht'
  rw[jwK (by omega)]
  have hlr:=jvr (phI (zsO noise l) tail f) t
  generalize jct (phI (zsO noise l) tail f) t=u at *
  unfold y28
  dsimp only
  rw[if_pos (by omega),jlg hs hl hn ht (Nat.le_of_lt ht'),jaa,hP t ht',hQ t ht',emax _ (by omega),emax _ (by omega),jap (by omega)]
  simp only[jaa]
  by_cases c1:u<0
  ·have hu:u=-1:=by omega
   subst hu
   by_cases c2:fB (sLo ((zsO noise l).drop t)) (sHi (zsO noise l)+tail) f=true
   ·simp only[c2,if_true,show((-1:Int)<0)=True by simp]; rfl
   ·simp only[c2,if_false,if_true,Bool.false_eq_true,show((-1:Int)<0)=True by simp]; rfl
  ·simp only[c1,if_false]; rfl
 have hend:y28 rate l noise tail f (sLo (zsO noise l),sHi (zsO noise l)+tail) ((l.length:Int),jct (phI (zsO noise l) tail f) l.length)=some (.inr (.inr ())):=by
  unfold y28
  dsimp only
  rw[if_neg (by omega)]
 unfold jaL
 have hfin:∀j,sfI (zsO noise l) tail f=some j→j<l.length→jae (y28 rate l noise tail f (sLo (zsO noise l),sHi (zsO noise l)+tail)) big (0,-1)=some (.inl (max 0 (ixZ (phI (zsO noise l) tail f)-1),(j:Int))):=by
  intro j hsf hj
  obtain⟨h1,h2,h3⟩:=jfS hsf
  obtain⟨i,hi,hij⟩:=jmR hz hsf
  have:=jbp (body:=y28 rate l noise tail f (sLo (zsO noise l),sHi (zsO noise l)+tail)) (fun t=>((t:Int),jct (phI (zsO noise l) tail f) t)) (k:=j) (y:=.inl (max 0 (ixZ (phI (zsO noise l) tail f)-1),(j:Int))) (fun t ht'=>by
   rw[hbody t (by omega),h3 t ht']
   rfl) (by
   rw[hbody j hj,if_pos h2,hi,jhR (show i<j+1 by omega)]
   rfl) (by omega)
  rw[jp4]at this
  exact this
 have hnone:(∀t,t<l.length→fB (sHi ((zsO noise l).drop t)+tail) (sLo (zsO noise l)) f=false)→jae (y28 rate l noise tail f (sLo (zsO noise l),sHi (zsO noise l)+tail)) big (0,-1)=some (.inr ()):=by
  intro hn'
  have:=jbp (body:=y28 rate l noise tail f (sLo (zsO noise l),sHi (zsO noise l)+tail)) (fun t=>((t:Int),jct (phI (zsO noise l) tail f) t)) (k:=l.length) (y:=.inr ()) (fun t ht'=>by
   rw[hbody t ht',hn' t ht']
   rfl) hend (by omega)
  rw[jp4]at this
  exact this
 cases hsf:sfI (zsO noise l) tail f with
 |none =>
  rw[hnone fun t ht'=>by
   have:=jmQ [] hsf t (by rw[jb5]; omega)
   rw[(jde (show t≤(zsO noise l).length by omega)).2]at this
   exact this]
  rfl
 |some j =>
  obtain⟨h1,h2,h3⟩:=jfS hsf
  dsimp only
  by_cases he:j=(zsO noise l).length
  ·rw[if_pos he,hnone fun t ht'=>h3 t (by omega)]
   rfl
  ·rw[if_neg he,hfin j hsf (by omega)]
   rfl
end
end Go.Sh
end

section
namespace Go.Sh
open Go Go.Proofs Go.RowKit Go.Sx Go.Sx06 Ieee Go.Fl
open Go.IntKind (wrap)
def dcT (times rate blo bhi elo ehi:Int):Int × Int × Int:=(times*max 0 (elo-bhi)*1000000/rate,(times*(ehi-blo)*1000000+rate-1)/rate,0)
def jbt (rate:Int) (zs:List (List Int)) (T kind:Int):Int × Int × Int :=
 if sLo zs=0 then(0,0,11)else
 if kind=0 then(if(jaL zs T 2).2.2=false then(0,0,12)else dcT 6 rate 0 0 (jaL zs T 2).1 (jaL zs T 2).2.1)else
 if kind=1 then(if(jaL zs T 1).2.2=false then(0,0,12)else if(jaL zs T 5).2.2=false then(0,0,12)else dcT 3 rate (jaL zs T 1).1 (jaL zs T 1).2.1 (jaL zs T 5).1 (jaL zs T 5).2.1)else
 (if(jaL zs T 1).2.2=false then(0,0,12)else if(jaL zs T 7).2.2=false then(0,0,12)else dcT 2 rate (jaL zs T 1).1 (jaL zs T 1).2.1 (jaL zs T 7).1 (jaL zs T 7).2.1)
theorem jeJ {rate:Int} {l:List Nat} {noise tail:Int} (h:(jbs rate l noise tail).2=0):ZOK (zsO noise l) tail∧(8000≤rate∧rate≤192000)∧(∀x∈l,se x=0)∧l.length≤1024∧(0≤noise∧noise≤32767)∧(0≤tail∧tail≤1000000000000)∧0<l.length:=by
 obtain⟨hr,hn,ht⟩:=jpV h
 obtain⟨h1,h2,h3,h4⟩:=jpU hr
 exact⟨⟨by rw[jcb]; omega,jgz hn h4,ht⟩,h1,h4,h3,hn,ht,h2⟩
theorem jyQ {rate:Int} {l:List Nat} {noise tail:Int} (hl:l.length<1000000000000) (h:(jbs rate l noise tail).2≠0):jao rate l noise tail=some ((jbs rate l noise tail).2,[],[]):=by
 rw[jpj rate noise tail hl,if_pos h]
theorem jwL {rate:Int} {l:List Nat} {noise tail:Int} (hl:l.length<1000000000000) (h:(jbs rate l noise tail).2=0):jao rate l noise tail=some (0,zsO noise l,ssO (zsO noise l) tail):=by
 rw[jpj rate noise tail hl,if_neg (by omega)]
theorem jiT {a:Int} (h:a≠0):(a != (0:Int))=true:=by simpa using h
theorem jqX {a:Int} (h:a=0):(a != (0:Int))=false:=by rw[h]; rfl
section
variable {zs:List (List Int)} {T f:Int} {rate noise tl:Int} {l:List Nat}
theorem jb4 (hz:ZOK zs T) (h:(jaL zs T f).2.2=true):0≤(jaL zs T f).1∧(jaL zs T f).1≤(jaL zs T f).2.1∧(jaL zs T f).2.1<(zs.length:Int):=by
 obtain⟨i,j,_,_,hij,hj,e⟩:=jdf hz h
 rw[e]
 dsimp only
 omega
theorem jgT {g:Int} (hz:ZOK zs T) (hfg:p10 f≤p10 g) (hf:(jaL zs T f).2.2=true) (hg:(jaL zs T g).2.2=true):(jaL zs T f).1≤(jaL zs T g).2.1:=by
 obtain⟨i,j,hs,_,hij,hj,e⟩:=jdf hz hf
 obtain⟨i',j',hs',_,hij',hj',e'⟩:=jdf hz hg
 obtain⟨k,hk,hkj⟩:=jmS hfg hs'
 rw[hs]at hk
 cases hk
 rw[e,e']
 dsimp only
 omega
theorem jof {times rate d:Int} (ht:0≤times∧times≤6) (hr:8000≤rate) (hd:-1024≤d∧d≤1024) :
  wrap IntKind.i64 (wrap IntKind.i64 (times*if wrap IntKind.i64 d>(0:Int)then wrap IntKind.i64 d else(0:Int))*(1000000:Int))=times*max 0 d*1000000∧0≤times*max 0 d*1000000∧times*max 0 d*1000000≤6144000000:=by
 rw[jap (x:=d) (by omega)]
 have e:(if d>0 then d else 0)=max 0 d:=by split<;>omega
 have h1:=Int.mul_nonneg ht.1 (show 0≤max 0 d by omega)
 have h2:=Int.mul_le_mul ht.2 (show max 0 d≤1024 by omega) (by omega) (by omega)
 rw[e,jap (x:=times*max 0 d) (by omega),jap (by omega)]
 omega
theorem jog {times d:Int} (ht:0≤times∧times≤6) (hd:0≤d∧d≤1024) :
  wrap IntKind.i64 (wrap IntKind.i64 (times*wrap IntKind.i64 d)*(1000000:Int))=times*d*1000000∧0≤times*d*1000000∧times*d*1000000≤6144000000:=by
 have h1:=Int.mul_nonneg ht.1 hd.1
 have h2:=Int.mul_le_mul ht.2 hd.2 (by omega) (by omega)
 rw[jap (x:=d) (by omega),jap (x:=times*d) (by omega),jap (by omega)]
 omega
theorem jsL {n rate:Int} (hr:8000≤rate) (hn:0≤n∧n≤9223372036854775807):wrap IntKind.i64 (Int.tdiv n rate)=n/rate:=by
 have h1:0≤n/rate:=Int.ediv_nonneg hn.1 (by omega)
 have h2:=Int.ediv_le_self rate hn.1
 rw[Int.tdiv_eq_ediv_of_nonneg hn.1,jap (by omega)]
theorem jfv {kind:Int} (hz:ZOK zs T) (hr:8000≤rate∧rate≤192000) (hk:0≤kind∧kind≤2):y34 rate l noise tl zs (ssO zs T) kind=some (jbt rate zs T kind):=by
 unfold y34 jbt
 have hlen:=hz.len
 rw[jb5,if_pos (by omega),if_pos (by omega),jlh.1]
 by_cases h0:sLo zs=0
 ·rw[if_pos (show(sLo zs==0)=true by simpa using h0),if_pos h0]
 rw[if_neg (show ¬(sLo zs==0)=true by simpa using h0),if_neg h0,if_pos (show(0:Int)≤kind∧kind<((3:Nat):Int) by omega)]
 have hk3:kind=0∨kind=1∨kind=2:=by omega
 rcases hk3 with rfl|rfl|rfl
 ·rw[if_pos (show Int.toNat 0<jaW.length by decide),if_pos (show(0:Int)=0 from rfl)]
  have e1:((jaW.getD (Int.toNat 0) []).getD 0 0:Int)=0:=rfl
  have e2:((jaW.getD (Int.toNat 0) []).getD 1 0:Int)=2:=rfl
  have e3:((jaW.getD (Int.toNat 0) []).getD 2 0:Int)=6:=rfl
  rw[e1,e2,e3,if_neg (show ¬((0:Int)>0) by omega),jdt hz (by omega),jaa]
  cases hp:(jaL zs T 2).2.2 with
  |false=>rw[if_pos (by rfl),if_pos rfl]
  |true =>
   have hg:=jb4 hz hp
   rw[if_neg (show ¬((!true)=true) by decide),if_neg (show ¬(true=false) by decide),if_pos (show rate≠0 by omega)]
   obtain⟨a1,a2,a3⟩:=jof (times:=6) (rate:=rate) (d:=(jaL zs T 2).1-0) (by omega) (by omega) (by omega)
   obtain⟨b1,b2,b3⟩:=jog (times:=6) (d:=(jaL zs T 2).2.1-0) (by omega) (by omega)
   rw[a1,b1,jeu (by omega) b2 (by omega),jaa,jsL (by omega) (by omega)]
   rfl
 ·rw[if_pos (show Int.toNat 1<jaW.length by decide),if_neg (show ¬((1:Int)=0) by omega),if_pos (show(1:Int)=1 from rfl)]
  have e1:((jaW.getD (Int.toNat 1) []).getD 0 0:Int)=1:=rfl
  have e2:((jaW.getD (Int.toNat 1) []).getD 1 0:Int)=5:=rfl
  have e3:((jaW.getD (Int.toNat 1) []).getD 2 0:Int)=3:=rfl
  rw[e1,e2,e3,if_pos (show(1:Int)>0 by omega),jdt hz (by omega),jaa]
  cases hp:(jaL zs T 1).2.2 with
  |false=>rw[if_pos (by rfl),if_pos rfl]
  |true =>
   have hg:=jb4 hz hp
   rw[if_neg (show ¬((!true)=true) by decide),if_neg (show ¬(true=false) by decide),jdt hz (by omega),jaa]
   cases hq:(jaL zs T 5).2.2 with
   |false=>rw[if_pos (by rfl),if_pos rfl]
   |true =>
    have hg':=jb4 hz hq
    have haf:=jgT (f:=1) (g:=5) hz (by decide) hp hq
    rw[if_neg (show ¬((!true)=true) by decide),if_neg (show ¬(true=false) by decide),if_pos (show rate≠0 by omega)]
    obtain⟨a1,a2,a3⟩:=jof (times:=3) (rate:=rate) (d:=(jaL zs T 5).1-(jaL zs T 1).2.1) (by omega) (by omega) (by omega)
    obtain⟨b1,b2,b3⟩:=jog (times:=3) (d:=(jaL zs T 5).2.1-(jaL zs T 1).1) (by omega) (by omega)
    rw[a1,b1,jeu (by omega) b2 (by omega),jaa,jsL (by omega) (by omega)]
    rfl
 ·rw[if_pos (show Int.toNat 2<jaW.length by decide),if_neg (show ¬((2:Int)=0) by omega),if_neg (show ¬((2:Int)=1) by omega)]
  have e1:((jaW.getD (Int.toNat 2) []).getD 0 0:Int)=1:=rfl
  have e2:((jaW.getD (Int.toNat 2) []).getD 1 0:Int)=7:=rfl
  have e3:((jaW.getD (Int.toNat 2) []).getD 2 0:Int)=2:=rfl
  rw[e1,e2,e3,if_pos (show(1:Int)>0 by omega),jdt hz (by omega),jaa]
  cases hp:(jaL zs T 1).2.2 with
  |false=>rw[if_pos (by rfl),if_pos rfl]
  |true =>
   have hg:=jb4 hz hp
   rw[if_neg (show ¬((!true)=true) by decide),if_neg (show ¬(true=false) by decide),jdt hz (by omega),jaa]
   cases hq:(jaL zs T 7).2.2 with
   |false=>rw[if_pos (by rfl),if_pos rfl]
   |true =>
    have hg':=jb4 hz hq
    have haf:=jgT (f:=1) (g:=7) hz (by decide) hp hq
    rw[if_neg (show ¬((!true)=true) by decide),if_neg (show ¬(true=false) by decide),if_pos (show rate≠0 by omega)]
    obtain⟨a1,a2,a3⟩:=jof (times:=2) (rate:=rate) (d:=(jaL zs T 7).1-(jaL zs T 1).2.1) (by omega) (by omega) (by omega)
    obtain⟨b1,b2,b3⟩:=jog (times:=2) (d:=(jaL zs T 7).2.1-(jaL zs T 1).1) (by omega) (by omega)
    rw[a1,b1,jeu (by omega) b2 (by omega),jaa,jsL (by omega) (by omega)]
    rfl
theorem jkP {tail kind:Int} (hs:∀x∈l,se x=0) (hl:l.length≤1024) (hn:0≤noise∧noise≤32767) (ht:0≤tail∧tail≤1000000000000) (hr:8000≤rate∧rate≤192000) (hk:0≤kind∧kind≤2) :
  y11 rate l noise tail kind=some (jbt rate (zsO noise l) tail kind):=by
 have hzl:=jcb noise l
 have hz:ZOK (zsO noise l) tail:=⟨by omega,jgz hn hs,ht⟩
 have hlen:=hz.len
 have hall:=hz.all
 unfold y11 jbt
 have hsum0:=jlg (rate:=rate) (noise:=noise) (tail:=tail) (a:=0) hs hl hn ht (Nat.zero_le _)
 rw[List.drop_zero]at hsum0
 have hsum0:y35 rate l noise tail 0=_:=hsum0
 rw[hsum0,jaa]
 by_cases h0:sLo (zsO noise l)=0
 ·rw[if_pos (show(sLo (zsO noise l)==0)=true by simpa using h0),if_pos h0]
 rw[if_neg (show ¬(sLo (zsO noise l)==0)=true by simpa using h0),if_neg h0]
 have hp0:0<sLo (zsO noise l):=by omega
 have hP:∀f,0≤f∧f≤12→y30 rate l noise tail f=some (jaL (zsO noise l) tail f):=fun f hf=>jtD hs hl hn ht hf hp0
 have hk3:kind=0∨kind=1∨kind=2:=by omega
 rcases hk3 with rfl|rfl|rfl
 ·rw[if_pos (show((0:Int)==0)=true from rfl),if_pos (show(0:Int)=0 from rfl),hP 2 (by omega),jaa]
  cases hp:(jaL (zsO noise l) tail 2).2.2 with
  |false=>rw[if_pos (by rfl),if_pos rfl]
  |true =>
   have hg:=jb4 hz hp
   rw[if_neg (show ¬((!true)=true) by decide),if_neg (show ¬(true=false) by decide)]
   have e1:max 0 ((jaL (zsO noise l) tail 2).1-0)=(jaL (zsO noise l) tail 2).1:=by omega
   rw[jap (x:=6*(jaL (zsO noise l) tail 2).1) (by omega),jap (x:=6*(jaL (zsO noise l) tail 2).1*1000000) (by omega),jap (x:=6*(jaL (zsO noise l) tail 2).2.1) (by omega),jap (x:=6*(jaL (zsO noise l) tail 2).2.1*1000000) (by omega),
    jcp (by omega) (by omega),jaa,jdc (by omega) (by omega),jaa,jdI (by omega)]
   unfold dcT
   rw[e1,Int.sub_zero]
 ·rw[if_neg (show ¬((1:Int)==0)=true by decide),if_neg (show ¬((1:Int)==2)=true by decide),if_neg (show ¬((1:Int)=0) by decide),if_pos (show(1:Int)=1 from rfl),hP 1 (by omega),jaa,hP 5 (by omega),jaa]
  cases hp:(jaL (zsO noise l) tail 1).2.2 with
  |false=>rw[if_pos (by rfl),if_pos rfl]
  |true =>
   have hg:=jb4 hz hp
   rw[if_neg (show ¬((!true)=true) by decide),if_neg (show ¬(true=false) by decide)]
   cases hq:(jaL (zsO noise l) tail 5).2.2 with
   |false=>rw[if_pos (by rfl),if_pos rfl]
   |true =>
    have hg':=jb4 hz hq
    have haf:=jgT (f:=1) (g:=5) hz (by decide) hp hq
    rw[if_neg (show ¬((!true)=true) by decide),if_neg (show ¬(true=false) by decide)]
    obtain⟨a1,a2,a3⟩:=jof (times:=3) (rate:=rate) (d:=(jaL (zsO noise l) tail 5).1-(jaL (zsO noise l) tail 1).2.1) (by omega) (by omega) (by omega)
    obtain⟨b1,b2,b3⟩:=jog (times:=3) (d:=(jaL (zsO noise l) tail 5).2.1-(jaL (zsO noise l) tail 1).1) (by omega) (by omega)
    rw[a1,b1,jcp (by omega) (by omega),jaa,jdc (by omega) (by omega),jaa,jdI (by omega)]
    rfl
 ·rw[if_neg (show ¬((2:Int)==0)=true by decide),if_pos (show((2:Int)==2)=true from rfl),if_neg (show ¬((2:Int)=0) by decide),if_neg (show ¬((2:Int)=1) by decide),hP 1 (by omega),jaa,hP 7 (by omega),jaa]
  cases hp:(jaL (zsO noise l) tail 1).2.2 with
  |false=>rw[if_pos (by rfl),if_pos rfl]
  |true =>
   have hg:=jb4 hz hp
   rw[if_neg (show ¬((!true)=true) by decide),if_neg (show ¬(true=false) by decide)]
   cases hq:(jaL (zsO noise l) tail 7).2.2 with
   |false=>rw[if_pos (by rfl),if_pos rfl]
   |true =>
    have hg':=jb4 hz hq
    have haf:=jgT (f:=1) (g:=7) hz (by decide) hp hq
    rw[if_neg (show ¬((!true)=true) by decide),if_neg (show ¬(true=false) by decide)]
    obtain⟨a1,a2,a3⟩:=jof (times:=2) (rate:=rate) (d:=(jaL (zsO noise l) tail 7).1-(jaL (zsO noise l) tail 1).2.1) (by omega) (by omega) (by omega)
    obtain⟨b1,b2,b3⟩:=jog (times:=2) (d:=(jaL (zsO noise l) tail 7).2.1-(jaL (zsO noise l) tail 1).1) (by omega) (by omega)
    rw[a1,b1,jcp (by omega) (by omega),jaa,jdc (by omega) (by omega),jaa,jdI (by omega)]
    rfl
end
def jpn (l:List Nat):Bool:=decide (l.length≤700∨(1024<l.length∧l.length≤1026))
theorem jAu (rate:Int) (l:List Nat):jeF rate l=some (jpn l):=by
 unfold jeF jpn
 by_cases h:l.length≤700
 ·rw[if_pos (by omega),decide_eq_true (show _∨_ from .inl h)]
 ·rw[if_neg (by omega)]
  by_cases h2:1024<l.length
  ·rw[if_pos (by omega)]
   congr 1
   rw[decide_eq_decide]
   omega
  ·rw[if_neg (by omega),decide_eq_false (by omega)]
theorem jzQ {l:List Nat} (h:jpn l=true):l.length<1000000000000:=by
 unfold jpn at h
 simp only[decide_eq_true_eq]at h
 omega
theorem joh (rate:Int) {l:List Nat} (h:l.length<1000000000000):y81 rate l=some (rate,l):=by
 unfold y81
 rw[if_pos (by omega),List.nil_append]
theorem jyR (rate:Int) {l:List Nat} (noise tail:Int) (h:l.length<1000000000000):jhi rate l noise tail=some (rate,l,noise,tail):=by
 unfold jhi
 rw[joh rate h]
 rfl
end Go.Sh
end

section
namespace Go.Sh
open Go Go.Proofs Go.RowKit Go.Sx Go.Sx06 Ieee Go.Fl
end Go.Sh
end

section
namespace Go.Sh
open Go Go.Proofs Go.RowKit Go.Sx Go.Sx06 Ieee Go.Fl
end Go.Sh
end

section
namespace Go.Sh
open Go Go.Proofs Go.RowKit Go.Sx Go.Sx06 Ieee Go.Fl
open Go.IntKind (wrap)
theorem jiU {f:Int} (h:0≤f∧f≤9):1≤p10 f∧p10 f≤1000000000:=by
 rcases(by omega:f=0∨f=1∨f=2∨f=3∨f=4∨f=5∨f=6∨f=7∨f=8∨f=9)with rfl|rfl|rfl|rfl|rfl|rfl|rfl|rfl|rfl|rfl<;>exact⟨by decide,by decide⟩
theorem jkQ {num den parts tens:Int} (hn:1≤num∧num≤10000000000000) (hd:1≤den∧den≤10000000000000) (hp:1≤parts∧parts≤8000000000) (ht:-9≤tens∧tens≤9) :
  y43 num den parts tens=some (if parts*p10 (max tens 0)*den<1000000000*p10 (max (-tens) 0)*num then -1 else if 1000000000*p10 (max (-tens) 0)*num<parts*p10 (max tens 0)*den then 1 else 0):=by
 have h9:y6 (1000000000:Int) num=some (1000000000*num/18446744073709551616,1000000000*num%18446744073709551616):=jcF (by omega) (by omega) (by omega) (by omega)
 unfold y43
 by_cases h:tens≥0
 ·obtain⟨hq,_⟩:=jkN (f:=tens) (by omega)
  have hp9:=jiU (f:=tens) (by omega)
  rw[if_pos h,if_pos (by omega),if_pos (by rw[jiS]; omega),hq]
  have hL0:0≤parts*p10 tens:=Int.mul_nonneg (by omega) (by omega)
  have hL1:=Int.mul_le_mul hp.2 hp9.2 (show 0≤p10 tens by omega) (show(0:Int)≤8000000000 by omega)
  have eL:wrap IntKind.u64 (parts*p10 tens)=parts*p10 tens:=by rw[jbE]; exact Int.emod_eq_of_lt hL0 (by omega)
  rw[eL]
  have m1:=jcF (x:=parts*p10 tens) (y:=den) (by omega) (by omega) (by omega) (by omega)
  rw[m1,jaa,h9,jaa]
  unfold y6 at m1
  have e1:=congrArg Prod.fst (Option.some.inj m1)
  dsimp only at e1
  rw[e1,show max tens 0=tens by omega,show max (-tens) 0=0 by omega,show p10 0=1 from rfl,Int.mul_one]
  have e2:wrap IntKind.u64 (wrap IntKind.u64 (wrap IntKind.u64 (Int.fdiv (1000000000:Int) ((2:Int)^min (32:Nat) (IntKind.bits IntKind.u64))*Int.fdiv num ((2:Int)^min (32:Nat) (IntKind.bits IntKind.u64)))+Int.fdiv (wrap IntKind.u64 (wrap IntKind.u64 (Int.fdiv (1000000000:Int) ((2:Int)^min (32:Nat) (IntKind.bits IntKind.u64))*wrap IntKind.u64 (↑(BitVec.toNat (BitVec.ofInt (IntKind.bits IntKind.u64) num &&& BitVec.ofInt (IntKind.bits IntKind.u64) (4294967295:Int))):Int))+Int.fdiv (wrap IntKind.u64 ((1000000000:Int)*wrap IntKind.u64 (↑(BitVec.toNat (BitVec.ofInt (IntKind.bits IntKind.u64) num &&& BitVec.ofInt (IntKind.bits IntKind.u64) (4294967295:Int))):Int))) ((2:Int)^min (32:Nat) (IntKind.bits IntKind.u64)))) ((2:Int)^min (32:Nat) (IntKind.bits IntKind.u64)))+Int.fdiv (wrap IntKind.u64 (wrap IntKind.u64 (↑(BitVec.toNat (BitVec.ofInt (IntKind.bits IntKind.u64) (wrap IntKind.u64 (wrap IntKind.u64 (Int.fdiv (1000000000:Int) ((2:Int)^min (32:Nat) (IntKind.bits IntKind.u64))*wrap IntKind.u64 (↑(BitVec.toNat (BitVec.ofInt (IntKind.bits IntKind.u64) num &&& BitVec.ofInt (IntKind.bits IntKind.u64) (4294967295:Int))):Int))+Int.fdiv (wrap IntKind.u64 ((1000000000:Int)*wrap IntKind.u64 (↑(BitVec.toNat (BitVec.ofInt (IntKind.bits IntKind.u64) num &&& BitVec.ofInt (IntKind.bits IntKind.u64) (4294967295:Int))):Int))) ((2:Int)^min (32:Nat) (IntKind.bits IntKind.u64)))) &&& BitVec.ofInt (IntKind.bits IntKind.u64) (4294967295:Int))):Int)+wrap IntKind.u64 ((1000000000:Int)*Int.fdiv num ((2:Int)^min (32:Nat) (IntKind.bits IntKind.u64))))) ((2:Int)^min (32:Nat) (IntKind.bits IntKind.u64)))=1000000000*num/18446744073709551616:=by
   have e9:=h9
   unfold y6 at e9
   have e9:=congrArg Prod.fst (Option.some.inj e9)
   dsimp only at e9
   simp only[jeT,jgi,jbE,mw]at e9 ⊢
   rw[show(1000000000:Int)%4294967296=1000000000 from by decide]at e9
   exact e9
  rw[e2,jbE,jbE,jgj,jaa,jsf]
 ·obtain⟨hq,_⟩:=jkN (f:=-tens) (by omega)
  have hp9:=jiU (f:=-tens) (by omega)
  have e0:wrap IntKind.i64 ((0:Int)-tens)=-tens:=by rw[jap (by omega),Int.zero_sub]
  rw[if_neg h,e0,if_pos (by omega),if_pos (by rw[jiS]; omega),hq]
  have eL:wrap IntKind.u64 (1000000000*p10 (-tens))=1000000000*p10 (-tens):=by rw[jbE]; exact Int.emod_eq_of_lt (by omega) (by omega)
  rw[eL]
  have m1:=jcF (x:=parts) (y:=den) (by omega) (by omega) (by omega) (by omega)
  have m2:=jcF (x:=1000000000*p10 (-tens)) (y:=num) (by omega) (by omega) (by omega) (by omega)
  rw[m1,jaa,m2,jaa]
  unfold y6 at m1 m2
  have e1:=congrArg Prod.fst (Option.some.inj m1)
  have e2:=congrArg Prod.fst (Option.some.inj m2)
  dsimp only at e1 e2
  rw[e1,e2,show max (-tens) 0=-tens by omega,show max tens 0=0 by omega,show p10 0=1 from rfl,Int.mul_one,jbE,jbE,jgj,jaa,jsf]
end Go.Sh
end

section
namespace Go.Sh
open Go Go.Proofs Go.RowKit Go.Sx Go.Sx06 Ieee Go.Fl
open Go.IntKind (wrap)
theorem jsM {L:Int} (h:-900≤L∧L≤900):jcW L=some (L/10,L%10):=by
 unfold jcW
 rw[jap (x:=L+900) (by omega),Int.tdiv_eq_ediv_of_nonneg (by omega),Int.tmod_eq_emod_of_nonneg (by omega),jap (x:=(L+900)/10) (by omega),jap (by omega)]
 congr 2
 ·omega
 ·omega
theorem jzR {n:Int} (h:-1000≤n∧n≤1000):jiC n 10=some (n%10):=by
 unfold jiC
 rw[if_pos (by decide),Int.tmod_eq_emod]
 by_cases hd:0≤n∨(10:Int)∣n
 ·rw[if_pos hd,show((0:Nat):Int)=0 from rfl,Int.sub_zero,if_neg (by omega)]
 ·rw[if_neg hd]
  have e:((10:Int).natAbs:Int)=10:=rfl
  rw[e,if_pos (by omega),jap (by omega)]
  congr 1
  omega
theorem jiV {k:Int} (h:0≤k∧k<10):1000000000≤ja3.getD k.toNat 0∧ja3.getD k.toNat 0≤7943282347:=by
 rcases(by omega:k=0∨k=1∨k=2∨k=3∨k=4∨k=5∨k=6∨k=7∨k=8∨k=9)with rfl|rfl|rfl|rfl|rfl|rfl|rfl|rfl|rfl|rfl<;>exact⟨by decide,by decide⟩
theorem jvs {k:Int} (h:0≤k∧k<10):jo6 k=some (ja3.getD k.toNat 0):=by
 rcases(by omega:k=0∨k=1∨k=2∨k=3∨k=4∨k=5∨k=6∨k=7∨k=8∨k=9)with rfl|rfl|rfl|rfl|rfl|rfl|rfl|rfl|rfl|rfl<;>rfl
theorem jkR {a:Int} (h:0≤a∧a≤9):p10 (9+a)=1000000000*p10 a:=by
 rcases(by omega:a=0∨a=1∨a=2∨a=3∨a=4∨a=5∨a=6∨a=7∨a=8∨a=9)with rfl|rfl|rfl|rfl|rfl|rfl|rfl|rfl|rfl|rfl<;>decide
def nuL (u L:Int):Int:=(ja3.getD (L%10).toNat 0+if 0<L%10 then u else 0)*p10 (max (L/10) 0)
def deL (L:Int):Int:=1000000000*p10 (max (-(L/10)) 0)
theorem jsN {u L:Int} (hu:0≤u∧u≤1) (h:-90≤L∧L≤90):1≤nuL u L∧nuL u L≤8000000000000000000:=by
 have ht:=jiV (k:=L%10) (by omega)
 have hp:=jiU (f:=max (L/10) 0) (by omega)
 have e:1≤ja3.getD (L%10).toNat 0+(if 0<L%10 then u else 0)∧ja3.getD (L%10).toNat 0+(if 0<L%10 then u else 0)≤8000000000:=by split<;>omega
 unfold nuL
 have a:=Int.mul_le_mul e.2 hp.2 (by omega) (by omega)
 have b:=Int.mul_le_mul e.1 hp.1 (by omega) (by omega)
 omega
theorem jeK {L:Int} (h:-90≤L∧L≤90):1≤deL L∧deL L≤1000000000000000000:=by
 have hp:=jiU (f:=max (-(L/10)) 0) (by omega)
 unfold deL
 omega
theorem jzj (x y:Int):decide ((if x<y then(-1:Int)else if y<x then 1 else 0)≤0)=decide (x≤y):=by
 by_cases h1:x<y
 ·rw[if_pos h1,decide_eq_true (by omega),decide_eq_true (by omega)]
 ·by_cases h2:y<x
  ·rw[if_neg h1,if_pos h2,decide_eq_false (by omega),decide_eq_false (by omega)]
  ·rw[if_neg h1,if_neg h2,decide_eq_true (by omega),decide_eq_true (by omega)]
theorem triGe (x y:Int):decide ((if x<y then(-1:Int)else if y<x then 1 else 0)≥0)=decide (y≤x):=by
 by_cases h1:x<y
 ·rw[if_pos h1,decide_eq_false (by omega),decide_eq_false (by omega)]
 ·by_cases h2:y<x
  ·rw[if_neg h1,if_pos h2,decide_eq_true (by omega),decide_eq_true (by omega)]
  ·rw[if_neg h1,if_neg h2,decide_eq_true (by omega),decide_eq_true (by omega)]
section
variable {num den L:Int}
theorem jp5 (hn:1≤num∧num≤10000000000000) (hd:1≤den∧den≤10000000000000) (h:-90≤L∧L≤90) :
  y90 (wrap IntKind.u64 num) (wrap IntKind.u64 den) L=some (decide (nuL 1 L*den≤deL L*num)):=by
 have ht:=jiV (k:=L%10) (by omega)
 have e1:wrap IntKind.u64 num=num:=by rw[jbE]; omega
 have e2:wrap IntKind.u64 den=den:=by rw[jbE]; omega
 unfold y90
 rw[jsM (by omega),jaa,jap (x:=L+900) (by omega),Int.tmod_eq_emod_of_nonneg (by omega),Int.tdiv_eq_ediv_of_nonneg (by omega),jap (x:=(L+900)/10) (by omega),jap (by omega),e1,e2]
 rw[show(L+900)%10=L%10 by omega,show(L+900)/10-90=L/10 by omega]
 have hl:ja3.length=10:=rfl
 rw[if_pos (by omega),if_pos (by rw[hl]; omega)]
 unfold nuL deL
 by_cases hk:L%10>0
 ·rw[if_pos hk,if_pos hk]
  have e3:wrap IntKind.u64 (ja3.getD (L%10).toNat 0+1)=ja3.getD (L%10).toNat 0+1:=by rw[jbE]; omega
  rw[e3,jkQ hn hd (by omega) (by omega),jaa,jzj]
 ·rw[if_neg hk,if_neg hk,jkQ hn hd (by omega) (by omega),jaa,jzj,Int.add_zero]
theorem jsO (hn:1≤num∧num≤10000000000000) (hd:1≤den∧den≤10000000000000) (h:-90≤L∧L≤90) :
  jj9 (wrap IntKind.u64 num) (wrap IntKind.u64 den) L=some (decide (deL L*num≤nuL 0 L*den)):=by
 have ht:=jiV (k:=L%10) (by omega)
 have e1:wrap IntKind.u64 num=num:=by rw[jbE]; omega
 have e2:wrap IntKind.u64 den=den:=by rw[jbE]; omega
 unfold jj9
 rw[jsM (by omega),jaa,jap (x:=L+900) (by omega),Int.tmod_eq_emod_of_nonneg (by omega),Int.tdiv_eq_ediv_of_nonneg (by omega),jap (x:=(L+900)/10) (by omega),jap (by omega),e1,e2]
 rw[show(L+900)%10=L%10 by omega,show(L+900)/10-90=L/10 by omega]
 have hl:ja3.length=10:=rfl
 rw[if_pos (by omega),if_pos (by rw[hl]; omega)]
 unfold nuL deL
 rw[jkQ hn hd (by omega) (by omega),jaa,triGe,show(if 0<L%10 then(0:Int)else 0)=0 by split<;>rfl,Int.add_zero]
theorem jeW {u:Int} (hu:0≤u∧u≤1) (hn:1≤num∧num≤10000000000000) (hd:1≤den∧den≤10000000000000) (h:-90≤L∧L≤90) :
  y78 num den L u=some (jcq num den (nuL u L) (deL L)):=by
 have ht:=jiV (k:=L%10) (by omega)
 have hnu:=jsN hu h
 have hde:=jeK h
 unfold y78
 rw[jzR (by omega),jaa,jcp (by omega) (by omega),jaa,jvs (by omega),jaa]
 by_cases hk:L%10>0
 ·rw[if_pos hk]
  by_cases ha:L/10≥0
  ·have e1:nuL u L=(ja3.getD (L%10).toNat 0+u)*p10 (L/10):=by unfold nuL; rw[if_pos hk,show max (L/10) 0=L/10 by omega]
   have e2:deL L=1000000000:=by unfold deL; rw[show max (-(L/10)) 0=0 by omega]; rfl
   rw[if_pos ha,jkO (by omega),jaa,jap (x:=ja3.getD (L%10).toNat 0+u) (by omega),←e1,jap (x:=nuL u L) (by omega),jcL (by omega) (by omega) (by omega) (by omega) (by omega) (by omega) (by omega) (by omega),jaa,e2]
  ·have e1:nuL u L=ja3.getD (L%10).toNat 0+u:=by unfold nuL; rw[if_pos hk,show max (L/10) 0=0 by omega]; exact Int.mul_one _
   have e2:deL L=p10 (9-L/10):=by unfold deL; rw[show max (-(L/10)) 0=-(L/10) by omega,←jkR (by omega),Int.sub_eq_add_neg]
   rw[if_neg ha,jap (x:=9-L/10) (by omega),jkO (by omega),jaa,jap (x:=ja3.getD (L%10).toNat 0+u) (by omega),←e1,←e2,jcL (by omega) (by omega) (by omega) (by omega) (by omega) (by omega) (by omega) (by omega),jaa]
 ·rw[if_neg hk]
  by_cases ha:L/10≥0
  ·have e1:nuL u L=ja3.getD (L%10).toNat 0*p10 (L/10):=by unfold nuL; rw[if_neg hk,Int.add_zero,show max (L/10) 0=L/10 by omega]
   have e2:deL L=1000000000:=by unfold deL; rw[show max (-(L/10)) 0=0 by omega]; rfl
   rw[if_pos ha,jkO (by omega),jaa,←e1,jap (x:=nuL u L) (by omega),jcL (by omega) (by omega) (by omega) (by omega) (by omega) (by omega) (by omega) (by omega),jaa,e2]
  ·have e1:nuL u L=ja3.getD (L%10).toNat 0:=by unfold nuL; rw[if_neg hk,Int.add_zero,show max (L/10) 0=0 by omega]; exact Int.mul_one _
   have e2:deL L=p10 (9-L/10):=by unfold deL; rw[show max (-(L/10)) 0=-(L/10) by omega,←jkR (by omega),Int.sub_eq_add_neg]
   rw[if_neg ha,jap (x:=9-L/10) (by omega),jkO (by omega),jaa,←e1,←e2,jcL (by omega) (by omega) (by omega) (by omega) (by omega) (by omega) (by omega) (by omega),jaa]
end
end Go.Sh
end

section
namespace Go.Sh
open Go Go.Proofs Go.RowKit Go.Sx Go.Sx06 Ieee Go.Fl
def tmE (time:Int):Int:=if 0≤time∧time≤1000000 then 0 else 2
theorem jt9 {time:Int} (h:tmE time=0):0≤time∧time≤1000000:=by
 unfold tmE at h
 by_cases h':0≤time∧time≤1000000
 ·exact h'
 ·rw[if_neg h']at h; omega
theorem joi {zs:List (List Int)} (hz:∀r∈zs,okZ r) (hl:zs.length≤1024) (c:Nat):0≤sLo (zs.take c)∧sLo (zs.take c)≤sHi (zs.take c)∧sHi (zs.take c)≤5000000000000:=by
 have:=jcD (zs:=zs.take c) fun r hr=>hz r (List.mem_of_mem_take hr)
 have h2:((zs.take c).length:Int)≤1024:=by rw[List.length_take]; omega
 omega
theorem joj {zs:List (List Int)} (hz:∀r∈zs,okZ r) (hl:zs.length≤1024) (c:Nat):0≤sLo (zs.drop c)∧sLo (zs.drop c)≤sHi (zs.drop c)∧sHi (zs.drop c)≤5000000000000:=by
 have:=jcD (zs:=zs.drop c) fun r hr=>hz r (List.mem_of_mem_drop hr)
 have h2:((zs.drop c).length:Int)≤1024:=by rw[List.length_drop]; omega
 omega
def unI (num den:Int):Option Nat:=(List.range 181).findIdx? fun(i:Nat)=>decide (nuL 1 (90-(i:Int))*den≤deL (90-(i:Int))*num)
def ovI (num den:Int):Option Nat:=(List.range 181).findIdx? fun(i:Nat)=>decide (deL ((i:Int)-90)*num≤nuL 0 ((i:Int)-90)*den)
def lvS (num den:Int):Int × Int × Int :=
 if ¬(1≤num∧num≤10000000000000)then(0,0,2)else if ¬(1≤den∧den≤10000000000000)then(0,0,2)else
 if den*1000000000<num then(0,0,8)else if num*1000000000<den then(0,0,8)else(90-(((unI num den).getD 0:Nat):Int),(((ovI num den).getD 0:Nat):Int)-90,0)
theorem rg {i:Nat} (h:i<181):(List.range 181).getD i 0=i:=by simp[List.getD,h]
section
variable {num den:Int}
theorem jvt (h:den≤num*1000000000):∃j:Nat,unI num den=some j∧j<181∧decide (nuL 1 (90-(j:Int))*den≤deL (90-(j:Int))*num)=true∧∀i:Nat,i<j→decide (nuL 1 (90-(i:Int))*den≤deL (90-(i:Int))*num)=false:=by
 have hx:∃j,unI num den=some j∧j≤180:=by
  refine joe (d:=0) (j:=180) (by simp) ?_
  rw[rg (by omega)]
  have e1:nuL 1 (90-((180:Nat):Int))=1000000000:=by decide
  have e2:deL (90-((180:Nat):Int))=1000000000000000000:=by decide
  rw[e1,e2]
  exact decide_eq_true (by omega)
 obtain⟨j,hj,hle⟩:=hx
 obtain⟨a,b,c⟩:=jgA (d:=0) hj
 rw[rg (by omega)]at b
 refine⟨j,hj,by omega,b,fun i hi=>?_⟩
 have:=c i hi
 rw[rg (by omega)]at this
 exact this
theorem jvu (h:num≤den*1000000000):∃j:Nat,ovI num den=some j∧j<181∧decide (deL ((j:Int)-90)*num≤nuL 0 ((j:Int)-90)*den)=true∧∀i:Nat,i<j→decide (deL ((i:Int)-90)*num≤nuL 0 ((i:Int)-90)*den)=false:=by
 have hx:∃j,ovI num den=some j∧j≤180:=by
  refine joe (d:=0) (j:=180) (by simp) ?_
  rw[rg (by omega)]
  have e1:nuL 0 (((180:Nat):Int)-90)=1000000000000000000:=by decide
  have e2:deL (((180:Nat):Int)-90)=1000000000:=by decide
  rw[e1,e2]
  exact decide_eq_true (by omega)
 obtain⟨j,hj,hle⟩:=hx
 obtain⟨a,b,c⟩:=jgA (d:=0) hj
 rw[rg (by omega)]at b
 refine⟨j,hj,by omega,b,fun i hi=>?_⟩
 have:=c i hi
 rw[rg (by omega)]at this
 exact this
theorem jp6:jgg num den=some (lvS num den):=by
 unfold jgg lvS y86
 rw[jd8,jaa,jaa]
 by_cases hn:1≤num∧num≤10000000000000
 ·rw[jkK hn,if_neg Bool.false_ne_true,if_neg (fun h=>h hn),jd8,jaa,jaa]
  by_cases hd:1≤den∧den≤10000000000000
  ·rw[jkK hd,if_neg Bool.false_ne_true,if_neg (fun h=>h hd)]
   have great:∀{a b:Int},1≤a∧a≤10000000000000→1≤b∧b≤10000000000000→y75 a b=some (decide (b*1000000000<a)):=by
    intro a b ha hb
    unfold y75
    by_cases h:b≤10000
    ·rw[if_pos h,jap (by omega)]
    ·rw[if_neg h,decide_eq_false (by omega)]
   rw[great hn hd,jaa]
   by_cases g1:den*1000000000<num
   ·rw[decide_eq_true g1,if_pos rfl,if_pos g1]
   ·rw[decide_eq_false g1,if_neg Bool.false_ne_true,if_neg g1,great hd hn,jaa]
    by_cases g2:num*1000000000<den
    ·rw[decide_eq_true g2,if_pos rfl,if_pos g2]
    ·rw[decide_eq_false g2,if_neg Bool.false_ne_true,if_neg g2]
     obtain⟨j,hj,j1,j2,j3⟩:=jvt (num:=num) (den:=den) (by omega)
     obtain⟨k,hk,k1,k2,k3⟩:=jvu (num:=num) (den:=den) (by omega)
     have i1:jae (jka num den) big (90:Int)=some (90-(j:Int)):=by
      refine jbp (fun i=>(90:Int)-(i:Int)) (k:=j) (fun i hi=>?_) ?_ (by omega)
      ·unfold jka
       rw[jp5 hn hd (by omega),jaa,j3 i hi,if_pos (by decide),jap (by omega)]
       congr 2; omega
      ·unfold jka
       rw[jp5 hn hd (by omega),jaa,j2,if_neg (by decide)]
     have i2:jae (jkb num den) big (-90:Int)=some ((k:Int)-90):=by
      refine jbp (fun i=>(i:Int)-90) (k:=k) (fun i hi=>?_) ?_ (by omega)
      ·unfold jkb
       rw[jsO hn hd (by omega),jaa,k3 i hi,if_pos (by decide),jap (by omega)]
       congr 2; omega
      ·unfold jkb
       rw[jsO hn hd (by omega),jaa,k2,if_neg (by decide)]
     rw[i1,jaa]
     unfold joQ
     rw[i2,jaa,hj,hk]
     rfl
  ·rw[jmM hd,if_pos rfl,if_pos hd]
 ·rw[jmM hn,if_pos rfl,if_pos hn]
theorem jp7:y79 num den=some (lvS num den):=by
 unfold y79 lvS
 rw[jcM,jaa]
 by_cases hn:1≤num∧num≤10000000000000
 ·rw[jkK hn,if_neg Bool.false_ne_true,if_neg (fun h=>h hn),jcM,jaa]
  by_cases hd:1≤den∧den≤10000000000000
  ·rw[jkK hd,if_neg Bool.false_ne_true,if_neg (fun h=>h hd)]
   rw[jcL (by omega) (by omega) (by omega) (by omega) (by omega) (by omega) (by omega) (by omega),jaa]
   have c1:jcq num den 1000000000 1>0↔den*1000000000<num:=by unfold jcq; split<;>(try split)<;>omega
   have c2:jcq num den 1 1000000000<0↔num*1000000000<den:=by unfold jcq; split<;>(try split)<;>omega
   by_cases g1:den*1000000000<num
   ·rw[if_pos (c1.2 g1),if_pos g1]
   ·rw[if_neg (fun h=>g1 (c1.1 h)),if_neg g1,jcL (by omega) (by omega) (by omega) (by omega) (by omega) (by omega) (by omega) (by omega),jaa]
    by_cases g2:num*1000000000<den
    ·rw[if_pos (c2.2 g2),if_pos g2]
    ·rw[if_neg (fun h=>g2 (c2.1 h)),if_neg g2]
     obtain⟨j,hj,j1,j2,j3⟩:=jvt (num:=num) (den:=den) (by omega)
     obtain⟨k,hk,k1,k2,k3⟩:=jvu (num:=num) (den:=den) (by omega)
     have d1:∀L:Int,jcq num den (nuL 1 L) (deL L)<0↔¬nuL 1 L*den≤deL L*num:=by
      intro L
      unfold jcq
      rw[Int.mul_comm num (deL L)]
      split<;>(try split)<;>omega
     have d2:∀L:Int,jcq num den (nuL 0 L) (deL L)>0↔¬deL L*num≤nuL 0 L*den:=by
      intro L
      unfold jcq
      rw[Int.mul_comm num (deL L)]
      split<;>(try split)<;>omega
     have i1:jae (y82 num den) big (90:Int)=some (90-(j:Int)):=by
      refine jbp (fun i=>(90:Int)-(i:Int)) (k:=j) (fun i hi=>?_) ?_ (by omega)
      ·unfold y82
       rw[jeW (by omega) hn hd (by omega),jaa,if_pos ((d1 _).2 (of_decide_eq_false (j3 i hi))),jap (by omega)]
       congr 2; omega
      ·unfold y82
       rw[jeW (by omega) hn hd (by omega),jaa,if_neg (fun h=>(d1 _).1 h (of_decide_eq_true j2))]
     have i2:jae (y83 num den) big (-90:Int)=some ((k:Int)-90):=by
      refine jbp (fun i=>(i:Int)-90) (k:=k) (fun i hi=>?_) ?_ (by omega)
      ·unfold y83
       rw[jeW (by omega) hn hd (by omega),jaa,if_pos ((d2 _).2 (of_decide_eq_false (k3 i hi))),jap (by omega)]
       congr 2; omega
      ·unfold y83
       rw[jeW (by omega) hn hd (by omega),jaa,if_neg (fun h=>(d2 _).1 h (of_decide_eq_true k2))]
     rw[i1,jaa]
     unfold jo9
     rw[i2,jaa,hj,hk]
     rfl
  ·rw[jmM hd,if_pos rfl,if_pos hd]
 ·rw[jmM hn,if_pos rfl,if_pos hn]
end
def clS (rate:Int) (zs:List (List Int)) (T time:Int):Int × Int × Int :=
 if jaA rate time zs.length=zs.length then(0,0,12)else
 if sLo (zs.take (jaA rate time zs.length))=0 then(0,0,11)else
 if sLo (zs.drop (jaA rate time zs.length))=0 then(0,0,11)else
 if(lvS (sLo (zs.take (jaA rate time zs.length))) (sHi (zs.drop (jaA rate time zs.length))+T)).2.2≠0 then(0,0,(lvS (sLo (zs.take (jaA rate time zs.length))) (sHi (zs.drop (jaA rate time zs.length))+T)).2.2)else
 if(lvS (sHi (zs.take (jaA rate time zs.length))) (sLo (zs.drop (jaA rate time zs.length)))).2.2≠0 then(0,0,(lvS (sHi (zs.take (jaA rate time zs.length))) (sLo (zs.drop (jaA rate time zs.length)))).2.2)else
 ((lvS (sLo (zs.take (jaA rate time zs.length))) (sHi (zs.drop (jaA rate time zs.length))+T)).1,(lvS (sHi (zs.take (jaA rate time zs.length))) (sLo (zs.drop (jaA rate time zs.length)))).2.1,0)
theorem jAv {rate noise tail T time:Int} {l:List Nat} {zs:List (List Int)} (hz:ZOK zs T) (hr:8000≤rate∧rate≤192000) (ht:0≤time∧time≤1000000) :
  y44 rate l noise tail zs (ssO zs T) time=some (clS rate zs T time):=by
 unfold y44 clS
 rw[jpZ hz.ok hz.len hr ht,jaa,jsK hr ht,jaa,jpl hr ht,jaa]
 dsimp only
 by_cases h0:jaA rate time zs.length=zs.length
 ·rw[if_pos (show((jaA rate time zs.length:Int)==(zs.length:Int))=true by rw[h0]; simp),if_pos h0]
 ·rw[if_neg (show ¬((jaA rate time zs.length:Int)==(zs.length:Int))=true by simp; omega),if_neg h0]
  generalize sLo (zs.take (jaA rate time zs.length))=el at *
  generalize sHi (zs.take (jaA rate time zs.length))=eh at *
  generalize sLo (zs.drop (jaA rate time zs.length))=ll at *
  generalize sHi (zs.drop (jaA rate time zs.length))=lh at *
  by_cases h1:el=0
  ·rw[if_pos (show(el==0)=true by simpa using h1),if_pos h1]
  ·rw[if_neg (show ¬(el==0)=true by simpa using h1),if_neg h1]
   by_cases h2:ll=0
   ·rw[if_pos (show(ll==0)=true by simpa using h2),if_pos h2]
   ·rw[if_neg (show ¬(ll==0)=true by simpa using h2),if_neg h2,jp6,jaa,jp6,jaa,jsg (by simp),jaa,firE2]
    by_cases h3:(lvS el (lh+T)).2.2=0
    ·rw[if_neg (show ¬(lvS el (lh+T)).2.2≠0 from fun h=>h h3),if_neg (show ¬(lvS el (lh+T)).2.2≠0 from fun h=>h h3)]
     by_cases h4:(lvS eh ll).2.2=0
     ·rw[jqX h4,if_neg Bool.false_ne_true,if_neg (show ¬(lvS eh ll).2.2≠0 from fun h=>h h4)]
     ·rw[jiT h4,if_pos rfl,if_pos (show(lvS eh ll).2.2≠0 from h4)]
    ·rw[if_pos (show(lvS el (lh+T)).2.2≠0 from h3),jiT h3,if_pos rfl,if_pos (show(lvS el (lh+T)).2.2≠0 from h3)]
theorem jtE {rate noise tail time:Int} {l:List Nat} (h:(jbs rate l noise tail).2=0) (ht:tmE time=0):y23 rate l noise tail time=some (clS rate (zsO noise l) tail time):=by
 obtain⟨hz,hr,hs,hl2,hn,htl,_⟩:=jeJ h
 have ht':=jt9 ht
 have hna:=jpY hr ht'
 unfold y23 clS
 rw[jkM hr ht',jaa,jp0 hs hl2 hn htl hr ht',jaa,jcb]
 dsimp only
 by_cases h0:jaA rate time l.length=l.length
 ·rw[if_pos (show nAt rate time≥(l.length:Int) by unfold jaA at h0; omega),if_pos h0]
 ·rw[if_neg (show ¬nAt rate time≥(l.length:Int) by unfold jaA at h0; omega),if_neg h0]
  generalize sLo ((zsO noise l).take (jaA rate time l.length))=el at *
  generalize sHi ((zsO noise l).take (jaA rate time l.length))=eh at *
  generalize sLo ((zsO noise l).drop (jaA rate time l.length))=ll at *
  generalize sHi ((zsO noise l).drop (jaA rate time l.length))=lh at *
  by_cases h1:el=0
  ·rw[if_pos (show(el==0)=true by simpa using h1),if_pos h1]
  ·rw[if_neg (show ¬(el==0)=true by simpa using h1),if_neg h1]
   by_cases h2:ll=0
   ·rw[if_pos (show(ll==0)=true by simpa using h2),if_pos h2]
   ·rw[if_neg (show ¬(ll==0)=true by simpa using h2),if_neg h2,jp7,jaa]
    by_cases h3:(lvS el (lh+tail)).2.2=0
    ·rw[jqX h3,if_neg Bool.false_ne_true,if_neg (show ¬(lvS el (lh+tail)).2.2≠0 from fun h=>h h3),jp7,jaa]
     by_cases h4:(lvS eh ll).2.2=0
     ·rw[jqX h4,if_neg Bool.false_ne_true,if_neg (show ¬(lvS eh ll).2.2≠0 from fun h=>h h4)]
     ·rw[jiT h4,if_pos rfl,if_pos (show(lvS eh ll).2.2≠0 from h4)]
    ·rw[jiT h3,if_pos rfl,if_pos (show(lvS el (lh+tail)).2.2≠0 from h3)]
end Go.Sh
end

section
namespace Go.Sh
open Go Go.Proofs Go.RowKit Go.Sx Go.Sx06 Ieee Go.Fl
open Go.IntKind (wrap)
def dwS (el eh ll lh:Int):Int × Int × Int:=if el+ll=0 then(0,0,11)else(1000*el/(el+lh),(1000*eh+(eh+ll)-1)/(eh+ll),0)
def dwW (rate:Int) (l:List Nat) (noise tail time:Int):Int × Int × Int :=
 if(jbs rate l noise tail).2≠0 then(0,0,(jbs rate l noise tail).2)else if tmE time≠0 then(0,0,tmE time)else
 dwS (sLo ((zsO noise l).take (jaA rate time l.length))) (sHi ((zsO noise l).take (jaA rate time l.length))) (sLo ((zsO noise l).drop (jaA rate time l.length))) (sHi ((zsO noise l).drop (jaA rate time l.length))+tail)
theorem jAw {rate noise tail T time:Int} {l:List Nat} {zs:List (List Int)} (hz:ZOK zs T) (hr:8000≤rate∧rate≤192000) (ht:0≤time∧time≤1000000) :
  y45 rate l noise tail zs (ssO zs T) time=some (dwS (sLo (zs.take (jaA rate time zs.length))) (sHi (zs.take (jaA rate time zs.length))) (sLo (zs.drop (jaA rate time zs.length))) (sHi (zs.drop (jaA rate time zs.length))+T)):=by
 have a:=joi hz.ok hz.len (jaA rate time zs.length)
 have b:=joj hz.ok hz.len (jaA rate time zs.length)
 have hT:=hz.tail
 unfold y45
 rw[jpZ hz.ok hz.len hr ht,jaa,jsK hr ht,jaa]
 dsimp only
 generalize sLo (zs.take (jaA rate time zs.length))=el at *
 generalize sHi (zs.take (jaA rate time zs.length))=eh at *
 generalize sLo (zs.drop (jaA rate time zs.length))=ll at *
 generalize sHi (zs.drop (jaA rate time zs.length))=lh at *
 unfold dwS
 have main:¬el+ll=0→(if wrap IntKind.i64 (el+(lh+T))≠(0:Int)then
   Option.bind (jbh (wrap IntKind.i64 ((1000:Int)*eh)) (wrap IntKind.i64 (eh+ll))) fun r2 =>
   some ((wrap IntKind.i64 (Int.tdiv (wrap IntKind.i64 ((1000:Int)*el)) (wrap IntKind.i64 (el+(lh+T)))),r2,(0:Int)))else none)=some (1000*el/(el+(lh+T)),(1000*eh+(eh+ll)-1)/(eh+ll),0):=by
  intro h0
  rw[jap (x:=el+(lh+T)) (by omega),if_pos (by omega),jap (x:=1000*eh) (by omega),jap (x:=eh+ll) (by omega),jap (x:=1000*el) (by omega),jeu (by omega) (by omega) (by omega),jaa,Int.tdiv_eq_ediv_of_nonneg (by omega)]
  have h1:0≤1000*el/(el+(lh+T)):=Int.ediv_nonneg (by omega) (by omega)
  have h2:1000*el/(el+(lh+T))≤1000*el:=Int.ediv_le_self _ (by omega)
  rw[jap (by omega)]
 by_cases h1:el=0
 ·rw[if_pos (show(el==0)=true by simpa using h1)]
  by_cases h2:ll=0
  ·rw[if_pos (show(ll==0)=true by simpa using h2),if_pos (by omega)]
  ·rw[if_neg (show ¬(ll==0)=true by simpa using h2),if_neg (show ¬el+ll=0 by omega)]
   exact main (by omega)
 ·rw[if_neg (show ¬(el==0)=true by simpa using h1),if_neg (show ¬el+ll=0 by omega)]
  exact main (by omega)
theorem jiW {rate noise tail time:Int} {l:List Nat} (h:(jbs rate l noise tail).2=0) (ht:tmE time=0):y5 rate l noise tail time=some (dwW rate l noise tail time):=by
 obtain⟨hz,hr,hs,hl2,hn,htl,_⟩:=jeJ h
 have a:=joi hz.ok hz.len (jaA rate time l.length)
 have b:=joj hz.ok hz.len (jaA rate time l.length)
 unfold y5 dwW dwS
 rw[if_neg (show ¬(jbs rate l noise tail).2≠0 from fun hh=>hh h),if_neg (show ¬tmE time≠0 from fun hh=>hh ht)]
 rw[jp0 hs hl2 hn htl hr (jt9 ht),jaa]
 dsimp only
 generalize sLo ((zsO noise l).take (jaA rate time l.length))=el at *
 generalize sHi ((zsO noise l).take (jaA rate time l.length))=eh at *
 generalize sLo ((zsO noise l).drop (jaA rate time l.length))=ll at *
 generalize sHi ((zsO noise l).drop (jaA rate time l.length))=lh at *
 rw[jap (x:=el+ll) (by omega),jap (x:=el+(lh+tail)) (by omega),jap (x:=1000*eh) (by omega),jap (x:=eh+ll) (by omega),jap (x:=1000*el) (by omega)]
 by_cases h0:el+ll=0
 ·rw[if_pos (show(el+ll==0)=true by simpa using h0),if_pos h0]
 ·rw[if_neg (show ¬(el+ll==0)=true by simpa using h0),if_neg h0,jcp (by omega) (by omega),jaa,jdc (by omega) (by omega),jaa,jdI (by omega)]
end Go.Sh
end

section
namespace Go.Sh
open Go Go.Proofs Go.RowKit Go.Sx Go.Sx06 Ieee Go.Fl
theorem half {X:Type} {body:X→Option (X ⊕ Int)} (mk:Int→Int→X) {yn1 yn0 u c:Int}
  (hb:∀q r,0≤q→q≤4294967297→0≤r→r<4294967296→body (mk q r)=if 4294967296≤q∨4294967296*r+c<q*yn0 then(if 4294967296≤r+yn1 then some (.inr (q-1))else some (.inl (mk (q-1) (r+yn1))))else some (.inr q))
  (hy1:2147483648≤yn1∧yn1<4294967296) (hy0:0≤yn0∧yn0<4294967296) (hu:0≤u∧u<yn1*4294967296+yn0) (hc:0≤c∧c<4294967296) :
  jae body big (mk (u/yn1) (u%yn1))=some ((u*4294967296+c)/(yn1*4294967296+yn0)):=by
 have hv:0<yn1*4294967296+yn0:=by omega
 generalize hQ:(u*4294967296+c)/(yn1*4294967296+yn0)=Q
 have q0:0≤Q:=by rw[←hQ]; exact Int.ediv_nonneg (by omega) (by omega)
 have qB:Q<4294967296:=by rw[←hQ]; exact Int.ediv_lt_of_lt_mul hv (by omega)
 have le_of:∀q,q*(yn1*4294967296+yn0)≤u*4294967296+c→q≤Q:=fun q h=>by rw[←hQ]; exact(Int.le_ediv_iff_mul_le hv).2 h
 have gt:∀q,u*4294967296+c<q*(yn1*4294967296+yn0)→Q<q:=fun q h=>by rw[←hQ]; exact Int.ediv_lt_of_lt_mul hv h
 have exp:∀q r,q*yn1+r=u→q*(yn1*4294967296+yn0)=(u-r)*4294967296+q*yn0:=by
  intro q r h
  rw[Int.mul_add,←Int.mul_assoc,show u-r=q*yn1 by omega]
 have main:∀(n:Nat) (q r:Int) (M:Nat),q*yn1+r=u→Q≤q→q≤4294967297→0≤r→r<4294967296→4294967296≤r+(n:Int)*yn1→n<M→jae body M (mk q r)=some Q:=by
  intro n
  induction n with
  |zero =>
   intro q r M _ _ _ _ h1 h2 _
   rw[show((0:Nat):Int)=0 from rfl,Int.zero_mul]at h2
   omega
  |succ n ih =>
   intro q r M e hq hq2 hr hr2 hn hM
   obtain⟨K,rfl⟩:∃K,M=K+1:=⟨M-1,by omega⟩
   unfold jae
   rw[hb q r (by omega) hq2 hr hr2]
   have ex:=exp q r e
   by_cases hcnd:4294967296≤q∨4294967296*r+c<q*yn0
   ·rw[if_pos hcnd]
    have hlt:Q<q:=by
     rcases hcnd with h|h
     ·omega
     ·exact gt q (by rw[ex]; omega)
    have e2:(q-1)*yn1+(r+yn1)=u:=by rw[Int.sub_mul]; omega
    by_cases hbr:4294967296≤r+yn1
    ·rw[if_pos hbr]
     have:q-1≤Q:=by
      refine le_of _ ?_
      rw[exp _ _ e2]
      have:=Int.mul_le_mul (show q-1≤4294967296 by omega) (show yn0≤4294967296 by omega) hy0.1 (by omega)
      omega
     show some (q-1)=some Q
     congr 1; omega
    ·rw[if_neg hbr]
     refine ih (q-1) (r+yn1) K e2 (by omega) (by omega) (by omega) (by omega) ?_ (by omega)
     rw[show((n+1:Nat):Int)=(n:Int)+1 from rfl,Int.add_mul]at hn
     omega
   ·rw[if_neg hcnd]
    have:q≤Q:=le_of _ (by rw[ex]; omega)
    show some q=some Q
    congr 1; omega
 have em:=Int.mul_ediv_add_emod u yn1
 have e0:=Int.emod_nonneg u (show yn1≠0 by omega)
 have e1:=Int.emod_lt_of_pos u (show 0<yn1 by omega)
 refine main 2 _ _ big (by rw[Int.mul_comm]; exact em) ?_ ?_ e0 (by omega) (by omega) (by unfold big; omega)
 ·refine(Int.le_ediv_iff_mul_le (by omega)).2 ?_
  have h1:Q*(yn1*4294967296+yn0)≤u*4294967296+c:=by rw[←hQ]; exact Int.ediv_mul_le _ (by omega)
  rw[Int.mul_add,←Int.mul_assoc]at h1
  have:=Int.mul_nonneg q0 hy0.1
  omega
 ·have:u/yn1<4294967298:=Int.ediv_lt_of_lt_mul (by omega) (by omega)
  omega
end Go.Sh
end

section
namespace Go.Sh
open Go Go.Proofs Go.RowKit Go.Sx Go.Sx06 Ieee Go.Fl
open Go.IntKind (wrap)
theorem jzS:∀b:Fin 256,1≤b.val→1≤(Array.getD (ByteArray.data jba) b.val (0:UInt8)).toNat∧(Array.getD (ByteArray.data jba) b.val (0:UInt8)).toNat≤8∧(2:Int)^((Array.getD (ByteArray.data jba) b.val (0:UInt8)).toNat-1)≤(b.val:Int)∧(b.val:Int)<(2:Int)^(Array.getD (ByteArray.data jba) b.val (0:UInt8)).toNat:=by
 decide +kernel
theorem u8m (n:Int):wrap IntKind.u8 n=n%256:=by
 have h:=jbE n
 rfl
theorem shr16 (x:Int):Int.fdiv x ((2:Int)^min (16:Nat) (IntKind.bits IntKind.u64))=x/65536:=by
 rw[show(2:Int)^min (16:Nat) (IntKind.bits IntKind.u64)=65536 from rfl]
 exact Int.fdiv_eq_ediv_of_nonneg _ (by decide)
theorem shr8 (x:Int):Int.fdiv x ((2:Int)^min (8:Nat) (IntKind.bits IntKind.u64))=x/256:=by
 rw[show(2:Int)^min (8:Nat) (IntKind.bits IntKind.u64)=256 from rfl]
 exact Int.fdiv_eq_ediv_of_nonneg _ (by decide)
def jzk (x:Int) (r:Option Int):Prop:=∃n:Nat,r=some (n:Int)∧1≤n∧n≤64∧(2:Int)^(n-1)≤x∧x<(2:Int)^n
theorem jgU {x b c:Int} (s:Nat) (hs:s≤56) (hc:c=(s:Int)) (hb:1≤b∧b<256) (hx:b*(2:Int)^s≤x∧x<(b+1)*(2:Int)^s) :
  jzk x (if(0:Int)≤wrap IntKind.u8 b∧wrap IntKind.u8 b<(↑(ByteArray.size jba):Int)then
   some (wrap IntKind.i64 (c+wrap IntKind.i64 (↑(UInt8.toNat (Array.getD (ByteArray.data jba) (Int.toNat (wrap IntKind.u8 b)) (0:UInt8))):Int)))else none):=by
 have e:wrap IntKind.u8 b=b:=by rw[u8m]; omega
 have hsz:ByteArray.size jba=256:=by decide +kernel
 rw[e,hsz,if_pos (by omega)]
 obtain⟨b',rfl⟩:=Int.eq_ofNat_of_zero_le (show 0≤b by omega)
 obtain⟨h1,h2,h3,h4⟩:=jzS ⟨b',by omega⟩ (by show 1≤b'; omega)
 rw[Int.toNat_natCast]
 change 1≤(Array.getD (ByteArray.data jba) b' (0:UInt8)).toNat at h1
 change (Array.getD (ByteArray.data jba) b' (0:UInt8)).toNat≤8 at h2
 change (2:Int)^((Array.getD (ByteArray.data jba) b' (0:UInt8)).toNat-1)≤(b':Int)at h3
 change (b':Int)<(2:Int)^(Array.getD (ByteArray.data jba) b' (0:UInt8)).toNat at h4
 generalize (Array.getD (ByteArray.data jba) b' (0:UInt8)).toNat=t at *
 rw[hc,jap (x:=(t:Int)) (by omega),jap (x:=(s:Int)+(t:Int)) (by omega)]
 have hp:(0:Int)<(2:Int)^s:=Int.pow_pos (by decide)
 refine⟨s+t,rfl,by omega,by omega,?_,?_⟩
 ·have:=Int.mul_le_mul_of_nonneg_right h3 (Int.le_of_lt hp)
  rw[show s+t-1=(t-1)+s by omega,Int.pow_add]
  omega
 ·have:=Int.mul_le_mul_of_nonneg_right (show(b':Int)+1≤(2:Int)^t by omega) (Int.le_of_lt hp)
  rw[Nat.add_comm s t,Int.pow_add]
  omega
theorem jyS {x:Int} (hx:1≤x∧x<18446744073709551616):jzk x (y71 x):=by
 unfold y71
 simp only[jeT,shr16,shr8]
 have k56:(2:Int)^56=72057594037927936:=by decide
 have k48:(2:Int)^48=281474976710656:=by decide
 have k40:(2:Int)^40=1099511627776:=by decide
 have k32:(2:Int)^32=4294967296:=by decide
 have k24:(2:Int)^24=16777216:=by decide
 have k16:(2:Int)^16=65536:=by decide
 have k8:(2:Int)^8=256:=by decide
 have k0:(2:Int)^0=1:=by decide
 by_cases h1:x≥4294967296
 ·rw[if_pos h1]
  by_cases h2:x/4294967296≥65536
  ·rw[if_pos h2]
   by_cases h3:x/4294967296/65536≥256
   ·rw[if_pos h3]; exact jgU 56 (by omega) (by decide) (by omega) (by rw[k56]; omega)
   ·rw[if_neg h3]; exact jgU 48 (by omega) (by decide) (by omega) (by rw[k48]; omega)
  ·rw[if_neg h2]
   by_cases h3:x/4294967296≥256
   ·rw[if_pos h3]; exact jgU 40 (by omega) (by decide) (by omega) (by rw[k40]; omega)
   ·rw[if_neg h3]; exact jgU 32 (by omega) (by decide) (by omega) (by rw[k32]; omega)
 ·rw[if_neg h1]
  by_cases h2:x≥65536
  ·rw[if_pos h2]
   by_cases h3:x/65536≥256
   ·rw[if_pos h3]; exact jgU 24 (by omega) (by decide) (by omega) (by rw[k24]; omega)
   ·rw[if_neg h3]; exact jgU 16 (by omega) (by decide) (by omega) (by rw[k16]; omega)
  ·rw[if_neg h2]
   by_cases h3:x≥256
   ·rw[if_pos h3]; exact jgU 8 (by omega) (by decide) (by omega) (by rw[k8]; omega)
   ·rw[if_neg h3]; exact jgU 0 (by omega) (by decide) (by omega) (by rw[k0]; omega)
theorem jwM {y:Int} (hy:1≤y∧y<18446744073709551616):∃s:Nat,y10 y=some (s:Int)∧s≤63∧9223372036854775808≤y*(2:Int)^s∧y*(2:Int)^s<18446744073709551616:=by
 obtain⟨n,hn,h1,h2,h3,h4⟩:=jyS hy
 have hp:(0:Int)<(2:Int)^(64-n):=Int.pow_pos (by decide)
 refine⟨64-n,?_,by omega,?_,?_⟩
 ·unfold y10
  rw[hn,jaa,jap (by omega)]
  congr 1; omega
 ·have:=Int.mul_le_mul_of_nonneg_right h3 (Int.le_of_lt hp)
  rw[←Int.pow_add,show n-1+(64-n)=63 by omega,show(2:Int)^63=9223372036854775808 by decide]at this
  exact this
 ·have:=Int.mul_lt_mul_of_pos_right h4 hp
  rw[←Int.pow_add,show n+(64-n)=64 by omega,show(2:Int)^64=18446744073709551616 by decide]at this
  exact this
end Go.Sh
end

section
namespace Go.Sh
open Go Go.Proofs Go.RowKit Go.Sx Go.Sx06 Ieee Go.Fl
open Go.IntKind (wrap)
theorem jAy {a C:Int} {s:Nat} (ha:0≤a) (hA:a*(2:Int)^s<18446744073709551616) (hC:0≤C∧C<(2:Int)^s) (hs:s≤63) :
  (↑(BitVec.toNat (BitVec.ofInt (IntKind.bits IntKind.u64) (a*(2:Int)^s) ||| BitVec.ofInt (IntKind.bits IntKind.u64) C)):Int)=a*(2:Int)^s+C:=by
 obtain⟨a',rfl⟩:=Int.eq_ofNat_of_zero_le ha
 obtain⟨C',rfl⟩:=Int.eq_ofNat_of_zero_le hC.1
 have hp:(2:Int)^s=((2^s:Nat):Int):=by simp
 have hC2:C'<2^s:=by have:=hC.2; rw[hp]at this; exact Int.ofNat_lt.1 this
 have hs64:2^s≤2^63:=Nat.pow_le_pow_right (by omega) hs
 have hCs:C'<18446744073709551616:=by
  have:(2:Nat)^63=9223372036854775808:=by decide
  omega
 rw[hp]at hA ⊢
 have hA2:a' * 2^s<18446744073709551616:=by
  have:((a' * 2^s:Nat):Int)<18446744073709551616:=by rw[Int.natCast_mul]; exact hA
  omega
 rw[BitVec.toNat_or,←Int.natCast_mul,BitVec.ofInt_natCast,BitVec.ofInt_natCast,BitVec.toNat_ofNat,BitVec.toNat_ofNat,b64,show 2^64=18446744073709551616 from by decide,Nat.mod_eq_of_lt hA2,Nat.mod_eq_of_lt hCs,Nat.mul_comm,←Nat.two_pow_add_eq_or_of_lt hC2,Int.natCast_add]
structure Sh64 (hi lo y P R v u n:Int):Prop where
 hv:v=y*P
 v1:9223372036854775808≤v∧v<18446744073709551616
 hu:u=hi*P+lo/R
 u1:0≤u∧u<v
 hn:n=lo*P%18446744073709551616
 tot:u*18446744073709551616+n=(hi*18446744073709551616+lo)*P
theorem sh64 {hi lo y:Int} (hh:0≤hi∧hi<y) (hy:y<18446744073709551616) (hl:0≤lo∧lo<18446744073709551616) {s:Nat} (hs:s≤63) (h1:9223372036854775808≤y*(2:Int)^s) (h2:y*(2:Int)^s<18446744073709551616) :
  Sh64 hi lo y ((2:Int)^s) ((2:Int)^(64-s)) (y*(2:Int)^s) (hi*(2:Int)^s+lo/(2:Int)^(64-s)) (lo*(2:Int)^s%18446744073709551616)∧(0≤lo/(2:Int)^(64-s)∧lo/(2:Int)^(64-s)<(2:Int)^s)∧0≤hi*(2:Int)^s∧hi*(2:Int)^s<18446744073709551616:=by
 have hP:(0:Int)<(2:Int)^s:=Int.pow_pos (by decide)
 have hR:(0:Int)<(2:Int)^(64-s):=Int.pow_pos (by decide)
 have hPR:(2:Int)^s*(2:Int)^(64-s)=18446744073709551616:=by rw[←Int.pow_add,show s+(64-s)=64 by omega]; decide
 generalize (2:Int)^s=P at *
 generalize (2:Int)^(64-s)=R at *
 have c0:0≤lo/R:=Int.ediv_nonneg hl.1 (Int.le_of_lt hR)
 have c1:lo/R<P:=Int.ediv_lt_of_lt_mul hR (by rw[hPR]; exact hl.2)
 have c2:=Int.mul_ediv_add_emod lo R
 have c3:=Int.emod_nonneg lo (show R≠0 by omega)
 have c4:=Int.emod_lt_of_pos lo hR
 have a0:=Int.mul_nonneg hh.1 (Int.le_of_lt hP)
 have a1:=Int.mul_le_mul_of_nonneg_right (show hi+1≤y by omega) (Int.le_of_lt hP)
 rw[Int.add_mul,Int.one_mul]at a1
 have n1:lo*P=lo/R*18446744073709551616+lo%R*P:=by
  conv=>lhs; rw[←c2]
  rw[Int.add_mul,←hPR]
  grind
 have n2:0≤lo%R*P:=Int.mul_nonneg c3 (Int.le_of_lt hP)
 have n3:lo%R*P<18446744073709551616:=by
  have:=Int.mul_lt_mul_of_pos_right c4 hP
  rw[Int.mul_comm R P,hPR]at this
  exact this
 refine⟨⟨rfl,⟨h1,h2⟩,rfl,⟨by omega,by omega⟩,rfl,?_⟩,⟨c0,c1⟩,a0,by omega⟩
 have e:lo*P%18446744073709551616=lo%R*P:=by rw[n1]; omega
 rw[e,Int.add_mul (hi*18446744073709551616),n1]
 grind
theorem wu {x:Int} (h:0≤x∧x<18446744073709551616):wrap IntKind.u64 x=x:=by rw[jbE]; omega
theorem shn {s:Nat} (hs:s≤63):wrap IntKind.u64 (s:Int)=(s:Int)∧min s (IntKind.bits IntKind.u64)=s:=⟨wu (by omega),by rw[b64]; omega⟩
theorem shm {s:Nat} (hs:s≤63):Int.toNat (wrap IntKind.u64 ((64:Int)-(s:Int)))=64-s∧min (64-s) (IntKind.bits IntKind.u64)=64-s:=⟨by rw[wu (by omega)]; omega,by rw[b64]; omega⟩
theorem jiX {w q c:Int} (hw:0<w) (hc:0≤c) (hq:q=c/w):q*w≤c∧c<q*w+w:=by
 have h1:=Int.mul_ediv_add_emod c w
 have h2:=Int.emod_nonneg c (show w≠0 by omega)
 have h3:=Int.emod_lt_of_pos c hw
 rw[←hq,Int.mul_comm]at h1
 omega
section
variable {lo y v n:Int} {s:Nat}
theorem body0 (hs:s≤63) (hv:y*(2:Int)^s=v) (v1:9223372036854775808≤v∧v<18446744073709551616) (hn:lo*(2:Int)^s%18446744073709551616=n) (q r:Int) (hq:0≤q) (hq2:q≤4294967297) (hr:0≤r) (hr2:r<4294967296) :
  y46 lo y (s:Int) (q,r)=if 4294967296≤q∨4294967296*r+n/4294967296<q*(v%4294967296)then(if 4294967296≤r+v/4294967296 then some (.inr (q-1))else some (.inl (q-1,r+v/4294967296)))else some (.inr q):=by
 have hn1:0≤n∧n<18446744073709551616:=by omega
 unfold y46
 simp only[(shn hs).1,Int.toNat_natCast,(shn hs).2,hv,wu (x:=v) (by omega),jeT,jgi,jbE (lo*(2:Int)^s),hn]
 have m0:0≤v%4294967296∧v%4294967296≤4294967295:=by omega
 have p1:=Int.mul_le_mul hq2 m0.2 m0.1 (by omega)
 have p0:=Int.mul_nonneg hq m0.1
 rw[wu (x:=v%4294967296) (by omega),wu (x:=q*(v%4294967296)) (by omega),wu (x:=4294967296*r) (by omega),wu (x:=4294967296*r+n/4294967296) (by omega),wu (x:=r+v/4294967296) (by omega)]
 by_cases h1:q≥4294967296
 ·rw[if_pos h1,if_pos (Or.inl h1),wu (x:=q-1) (by omega)]
 ·rw[if_neg h1]
  by_cases h2:q*(v%4294967296)>4294967296*r+n/4294967296
  ·have hq1:1≤q:=by
    rcases Int.lt_or_eq_of_le hq with h|h
    ·omega
    ·rw[←h,Int.zero_mul]at h2; omega
   rw[if_pos h2,if_pos (Or.inr h2),wu (x:=q-1) (by omega)]
  ·rw[if_neg h2,if_neg (by omega)]
theorem body1 (hs:s≤63) (hv:y*(2:Int)^s=v) (v1:9223372036854775808≤v∧v<18446744073709551616) (hn:lo*(2:Int)^s%18446744073709551616=n) (q r:Int) (hq:0≤q) (hq2:q≤4294967297) (hr:0≤r) (hr2:r<4294967296) :
  y84 lo y (s:Int) (r,q)=if 4294967296≤q∨4294967296*r+n%4294967296<q*(v%4294967296)then(if 4294967296≤r+v/4294967296 then some (.inr (q-1))else some (.inl (r+v/4294967296,q-1)))else some (.inr q):=by
 have hn1:0≤n∧n<18446744073709551616:=by omega
 unfold y84
 simp only[(shn hs).1,Int.toNat_natCast,(shn hs).2,hv,wu (x:=v) (by omega),jeT,jgi,jbE (lo*(2:Int)^s),hn]
 have m0:0≤v%4294967296∧v%4294967296≤4294967295:=by omega
 have p1:=Int.mul_le_mul hq2 m0.2 m0.1 (by omega)
 have p0:=Int.mul_nonneg hq m0.1
 rw[wu (x:=v%4294967296) (by omega),wu (x:=n%4294967296) (by omega),wu (x:=q*(v%4294967296)) (by omega),wu (x:=4294967296*r) (by omega),wu (x:=4294967296*r+n%4294967296) (by omega),wu (x:=r+v/4294967296) (by omega)]
 by_cases h1:q≥4294967296
 ·rw[if_pos h1,if_pos (Or.inl h1),wu (x:=q-1) (by omega)]
 ·rw[if_neg h1]
  by_cases h2:q*(v%4294967296)>4294967296*r+n%4294967296
  ·have hq1:1≤q:=by
    rcases Int.lt_or_eq_of_le hq with h|h
    ·omega
    ·rw[←h,Int.zero_mul]at h2; omega
   rw[if_pos h2,if_pos (Or.inr h2),wu (x:=q-1) (by omega)]
  ·rw[if_neg h2,if_neg (by omega)]
end
end Go.Sh
end

section
namespace Go.Sh
open Go Go.Proofs Go.RowKit Go.Sx Go.Sx06 Ieee Go.Fl
open Go.IntKind (wrap)
theorem jyT {hi lo y:Int} (hh:0≤hi∧hi<y) (hy:y<18446744073709551616) (hl:0≤lo∧lo<18446744073709551616) :
  y72 hi lo y=some ((hi*18446744073709551616+lo)/y,(hi*18446744073709551616+lo)%y):=by
 unfold y72
 rw[if_neg (show ¬(y==0)=true by simp; omega),if_neg (by omega)]
 by_cases h0:hi=0
 ·subst h0
  rw[if_pos (by rfl),if_pos (by omega),if_pos (by omega),Int.tdiv_eq_ediv_of_nonneg hl.1,Int.tmod_eq_emod_of_nonneg hl.1,Int.zero_mul,Int.zero_add]
  have a:0≤lo/y:=Int.ediv_nonneg hl.1 (by omega)
  have b:lo/y≤lo:=Int.ediv_le_self _ hl.1
  rw[wu (by omega)]
 ·rw[if_neg (show ¬(hi==0)=true by simpa using h0)]
  obtain⟨s,hs,s1,g1,g2⟩:=jwM (y:=y) (by omega)
  obtain⟨sh,hC,hA0,hA⟩:=sh64 hh hy hl s1 g1 g2
  have hP:(0:Int)<(2:Int)^s:=Int.pow_pos (by decide)
  have hor:=jAy hh.1 hA hC s1
  have hR:(2:Int)^(64-s)≥0:=Int.le_of_lt (Int.pow_pos (by decide))
  rw[hs,jaa]
  generalize hv:y*(2:Int)^s=v at *
  generalize hn:lo*(2:Int)^s%18446744073709551616=n at *
  generalize hu:hi*(2:Int)^s+lo/(2:Int)^(64-s)=u at *
  have hv1:=sh.v1
  have hu1:=sh.u1
  have hn1:0≤n∧n<18446744073709551616:=by omega
  have tot:=sh.tot
  have y1:2147483648≤v/4294967296∧v/4294967296<4294967296:=by omega
  have y0:0≤v%4294967296∧v%4294967296<4294967296:=by omega
  have yv:v/4294967296*4294967296+v%4294967296=v:=by omega
  have c1:0≤n/4294967296∧n/4294967296<4294967296:=by omega
  have c0:0≤n%4294967296∧n%4294967296<4294967296:=by omega
  have L0:=half (body:=y46 lo y (s:Int)) (fun q r=>(q,r)) (fun q r a b c d=>body0 s1 hv hv1 hn q r a b c d) y1 y0 (by rw[yv]; exact hu1) c1
  rw[yv]at L0
  generalize hq1:(u*4294967296+n/4294967296)/v=q1 at *
  have Q1:=jiX (w:=v) (c:=u*4294967296+n/4294967296) (by omega) (by omega) hq1.symm
  have q10:0≤q1:=by rw[←hq1]; exact Int.ediv_nonneg (by omega) (by omega)
  have q1B:q1<4294967296:=by rw[←hq1]; exact Int.ediv_lt_of_lt_mul (by omega) (by omega)
  generalize hr1:u*4294967296+n/4294967296-q1*v=r1 at *
  have r1b:0≤r1∧r1<v:=by omega
  have L1:=half (body:=y84 lo y (s:Int)) (fun q r=>(r,q)) (fun q r a b c d=>body1 s1 hv hv1 hn q r a b c d) y1 y0 (by rw[yv]; exact r1b) c0
  rw[yv]at L1
  generalize hq0:(r1*4294967296+n%4294967296)/v=q0 at *
  have Q0:=jiX (w:=v) (c:=r1*4294967296+n%4294967296) (by omega) (by omega) hq0.symm
  have q00:0≤q0:=by rw[←hq0]; exact Int.ediv_nonneg (by omega) (by omega)
  have q0B:q0<4294967296:=by rw[←hq0]; exact Int.ediv_lt_of_lt_mul (by omega) (by omega)
  have dS:∀x:Int,Int.fdiv x ((2:Int)^s)=x/(2:Int)^s:=fun x=>Int.fdiv_eq_ediv_of_nonneg _ (Int.le_of_lt hP)
  have dR:∀x:Int,Int.fdiv x ((2:Int)^(64-s))=x/(2:Int)^(64-s):=fun x=>Int.fdiv_eq_ediv_of_nonneg _ hR
  have m1:=jiX (w:=v/4294967296) (c:=u) (q:=u/(v/4294967296)) (by omega) hu1.1 rfl
  have m1':=Int.mul_ediv_add_emod u (v/4294967296)
  have m1d:0≤u/(v/4294967296):=Int.ediv_nonneg hu1.1 (by omega)
  have m1e:u/(v/4294967296)≤u:=Int.ediv_le_self _ hu1.1
  have m1f:0≤u/(v/4294967296)*(v/4294967296):=Int.mul_nonneg m1d (by omega)
  have k1:=jiX (w:=v/4294967296) (c:=r1) (q:=r1/(v/4294967296)) (by omega) r1b.1 rfl
  have k1':=Int.mul_ediv_add_emod r1 (v/4294967296)
  have k1d:0≤r1/(v/4294967296):=Int.ediv_nonneg r1b.1 (by omega)
  have k1e:r1/(v/4294967296)≤r1:=Int.ediv_le_self _ r1b.1
  have k1f:0≤r1/(v/4294967296)*(v/4294967296):=Int.mul_nonneg k1d (by omega)
  have e21:wrap .u64 (wrap .u64 (wrap .u64 (u*4294967296)+n/4294967296)-wrap .u64 (q1*v))=r1:=by
   simp only[jbE]
   omega
  have er:wrap .u64 (wrap .u64 (wrap .u64 (r1*4294967296)+n%4294967296)-wrap .u64 (q0*v))=r1*4294967296+n%4294967296-q0*v:=by
   simp only[jbE]
   omega
  simp only[(shn s1).1,Int.toNat_natCast,(shn s1).2,(shm s1).1,(shm s1).2,dS,dR,hv,wu (x:=v) (by omega),jeT,wu (x:=hi*(2:Int)^s) ⟨hA0,hA⟩,hor,hu]
  rw[wu (x:=u) (by omega),Int.tdiv_eq_ediv_of_nonneg hu1.1,wu (x:=u/(v/4294967296)) (by omega),wu (x:=u/(v/4294967296)*(v/4294967296)) (by omega),wu (x:=u-u/(v/4294967296)*(v/4294967296)) (by omega)]
  rw[show u-u/(v/4294967296)*(v/4294967296)=u%(v/4294967296) by rw[Int.mul_comm]; omega]
  have w64:(0:Int)≤wrap IntKind.u64 ((64:Int)-(s:Int)):=by rw[wu (by omega)]; omega
  rw[if_pos (by omega),if_pos (by omega),if_pos w64,if_pos (by omega),if_pos (by omega),L0,jaa]
  unfold y67
  simp only[(shn s1).1,Int.toNat_natCast,(shn s1).2,(shm s1).1,(shm s1).2,dS,dR,hv,wu (x:=v) (by omega),jeT,wu (x:=hi*(2:Int)^s) ⟨hA0,hA⟩,hor,hu,jbE (lo*(2:Int)^s),hn,wu (x:=u) (by omega),e21]
  rw[Int.tdiv_eq_ediv_of_nonneg r1b.1,wu (x:=r1/(v/4294967296)) (by omega),wu (x:=r1/(v/4294967296)*(v/4294967296)) (by omega),wu (x:=r1-r1/(v/4294967296)*(v/4294967296)) (by omega)]
  rw[show r1-r1/(v/4294967296)*(v/4294967296)=r1%(v/4294967296) by rw[Int.mul_comm]; omega]
  rw[if_pos (by omega),L1,jaa]
  unfold y20
  simp only[(shn s1).1,Int.toNat_natCast,(shn s1).2,(shm s1).1,(shm s1).2,dS,dR,hv,wu (x:=v) (by omega),jeT,jgi,wu (x:=hi*(2:Int)^s) ⟨hA0,hA⟩,hor,hu,jbE (lo*(2:Int)^s),hn,wu (x:=u) (by omega),e21,wu (x:=n%4294967296) (by omega),er]
  rw[if_pos (by omega),wu (x:=q1*4294967296) (by omega),wu (x:=q1*4294967296+q0) (by omega)]
  have fin:(hi*18446744073709551616+lo)*(2:Int)^s=(q1*4294967296+q0)*v+(r1*4294967296+n%4294967296-q0*v):=by
   rw[←tot,Int.add_mul,Int.mul_right_comm]
   omega
  generalize hrem:r1*4294967296+n%4294967296-q0*v=rem at *
  have remb:0≤rem∧rem<v:=by omega
  generalize (hi*18446744073709551616+lo)=x at *
  generalize (2:Int)^s=P at *
  have hdiv:x/y=q1*4294967296+q0:=by
   have h1:(q1*4294967296+q0)*v≤x*P:=by omega
   have h2:x*P<(q1*4294967296+q0+1)*v:=by rw[Int.add_mul _ 1,Int.one_mul]; omega
   rw[←hv,←Int.mul_assoc]at h1 h2
   have h3:=Int.le_of_mul_le_mul_right h1 hP
   have h4:=Int.lt_of_mul_lt_mul_right h2 (Int.le_of_lt hP)
   have h5:q1*4294967296+q0≤x/y:=(Int.le_ediv_iff_mul_le (by omega)).2 h3
   have h6:x/y<q1*4294967296+q0+1:=Int.ediv_lt_of_lt_mul (by omega) h4
   omega
  have hmod:rem/P=x%y:=by
   have h1:=Int.mul_ediv_add_emod x y
   rw[hdiv]at h1
   have:rem=x%y*P:=by
    have h2:x*P=(q1*4294967296+q0)*v+x%y*P:=by
     conv=>lhs; rw[←h1]
     rw[Int.add_mul,←hv,Int.mul_comm y,Int.mul_assoc]
    omega
   rw[this]
   exact Int.mul_ediv_cancel _ (by omega)
  rw[hdiv,hmod]
end Go.Sh
end

section
namespace Go.Sh
open Go Go.Proofs Go.RowKit Go.Sx Go.Sx06 Ieee Go.Fl
open Go.IntKind (wrap)
def mo (j:Nat) (zs:List (List Int)):Nat→Int
 |0=>0
 |k+1=>mo j zs k+(k:Int)*(zs.getD k []).getD j 0
theorem jpo {zs:List (List Int)} (hz:∀r∈zs,okZ r) (hl:zs.length≤1024) {k:Nat} (hk:k<zs.length) :
  0≤(k:Int)*(zs.getD k []).getD 0 0∧(k:Int)*(zs.getD k []).getD 0 0≤(k:Int)*(zs.getD k []).getD 1 0∧(k:Int)*(zs.getD k []).getD 1 0≤4398046511104:=by
 have ho:=hz (zs.getD k []) (by simp[List.getD,hk])
 unfold okZ at ho
 have a:=Int.mul_nonneg (show 0≤(k:Int) by omega) ho.1
 have b:=Int.mul_le_mul_of_nonneg_left ho.2.1 (show 0≤(k:Int) by omega)
 have c:=Int.mul_le_mul (show(k:Int)≤1024 by omega) ho.2.2 (by omega) (by omega)
 omega
theorem jiY {zs:List (List Int)} (hz:∀r∈zs,okZ r) (hl:zs.length≤1024):∀k:Nat,k≤zs.length→0≤mo 0 zs k∧mo 0 zs k≤mo 1 zs k∧mo 1 zs k≤(k:Int)*4398046511104
 |0,_=>by simp[mo]
 |k+1,h=>by
  have ih:=jiY hz hl k (by omega)
  have t:=jpo hz hl (k:=k) (by omega)
  unfold mo
  rw[show((k+1:Nat):Int)=(k:Int)+1 from rfl,Int.add_mul]
  omega
theorem momG {zs:List (List Int)} (hz:∀r∈zs,okZ r) (hl:zs.length≤1024):jae (y61 zs) big (0,0,0)=some (mo 0 zs zs.length,mo 1 zs zs.length):=by
 refine jbp (fun i=>((i:Int),mo 0 zs i,mo 1 zs i)) (k:=zs.length) (fun i hi=>?_) ?_ (by omega)
 ·have r:=jiY hz hl i (by omega)
  have t:=jpo hz hl (k:=i) hi
  unfold y61 jc9
  dsimp only
  rw[if_pos (by omega),if_pos (by omega),Int.toNat_natCast,if_pos hi,jaa,jap (x:=(i:Int)+1) (by omega),jap (x:=(i:Int)*(zs.getD i []).getD 0 0) (by omega),jap (x:=(i:Int)*(zs.getD i []).getD 1 0) (by omega),jap (by omega),jap (by omega)]
  rfl
 ·unfold y61
  dsimp only
  rw[if_neg (by omega)]
theorem momR {rate noise tail:Int} {l:List Nat} (hs:∀b∈l,se b=0) (hn:0≤noise∧noise≤32767) (hl:l.length≤1024):jae (y92 rate l noise tail) big (0,0,0)=some (mo 0 (zsO noise l) l.length,mo 1 (zsO noise l) l.length):=by
 have hz:=jgz hn hs
 have hzl:=jcb noise l
 refine jbp (fun i=>((i:Int),mo 0 (zsO noise l) i,mo 1 (zsO noise l) i)) (k:=l.length) (fun i hi=>?_) ?_ (by omega)
 ·have r:=jiY hz (by omega) i (by omega)
  have t:=jpo hz (by omega) (k:=i) (by omega)
  unfold y92
  dsimp only
  rw[if_pos (by omega),jod hi hs hn,jaa,jap (x:=(i:Int)+1) (by omega),jap (x:=(i:Int)*((zsO noise l).getD i []).getD 0 0) (by omega),jap (x:=(i:Int)*((zsO noise l).getD i []).getD 1 0) (by omega),jap (by omega),jap (by omega)]
  rfl
 ·unfold y92
  dsimp only
  rw[if_neg (by omega)]
theorem jp8 {m e rate noise tail:Int} {l:List Nat} {zs ss:List (List Int)} (hm:0≤m∧m≤4600000000000000) (he:1≤e∧e≤6000000000000) (hr:8000≤rate∧rate≤192000) :
  y21 m e rate l noise tail zs ss=some (m*1000000/(e*rate),decide (m*1000000%(e*rate)>0)):=by
 have y0:8000≤e*rate:=by
  have:=Int.mul_le_mul he.1 hr.1 (by omega) (by omega)
  omega
 have y1:e*rate≤1152000000000000000:=by
  have:=Int.mul_le_mul he.2 hr.2 (by omega) (by omega)
  omega
 have h9:y6 m (1000000:Int)=some (m*1000000/18446744073709551616,m*1000000%18446744073709551616):=jcF (by omega) (by omega) (by omega) (by omega)
 have e9:=h9
 unfold y6 at e9
 have e9:=congrArg Prod.fst (Option.some.inj e9)
 dsimp only at e9
 simp only[jeT,jgi,jbE,mw]at e9
 rw[show(1000000:Int)%4294967296=1000000 from by decide]at e9
 unfold y21
 rw[wu (x:=m) (by omega),h9,jaa,jap (x:=e*rate) (by omega),wu (x:=e*rate) (by omega)]
 simp only[jeT,jgi,jbE,mw]
 first
  |rw[e9]
  |(rw[show(1000000:Int)%4294967296%18446744073709551616=1000000 from by decide,e9])
  |(rw[show(1000000:Int)%4294967296=1000000 from by decide,e9])
 have hq0:0≤m*1000000/(e*rate):=Int.ediv_nonneg (by omega) (by omega)
 have hq1:m*1000000/(e*rate)<9000000000000000000:=by
  refine Int.ediv_lt_of_lt_mul (by omega) ?_
  omega
 have ex:m*1000000/18446744073709551616*18446744073709551616+m*1000000%18446744073709551616=m*1000000:=by omega
 rw[jyT (by omega) (by omega) (by omega),jaa,ex,jap (by omega)]
theorem jp9 {a b:Int} (hb:0<b):-(-a/b)=a/b+if a%b>0 then 1 else 0:=by
 have h1:=Int.mul_ediv_add_emod a b
 have h2:=Int.emod_nonneg a (show b≠0 by omega)
 have h3:=Int.emod_lt_of_pos a hb
 by_cases h:a%b>0
 ·rw[if_pos h]
  have:-a/b=-(a/b)-1:=by
   refine Int.ediv_eq_iff_of_pos hb |>.2 ?_
   grind
  omega
 ·rw[if_neg h]
  have:-a/b=-(a/b):=by
   refine Int.ediv_eq_iff_of_pos hb |>.2 ?_
   grind
  omega
theorem jzT {M H rate:Int} (hH:0<H) (hr:0<rate):(M/H*1000000+M%H*1000000/H)/rate=M*1000000/(H*rate):=by
 have h1:=Int.mul_ediv_add_emod M H
 have e:M*1000000=M%H*1000000+(M/H*1000000)*H:=by
  conv=>lhs; rw[←h1]
  grind
 have:M*1000000/H=M/H*1000000+M%H*1000000/H:=by
  rw[e,Int.add_mul_ediv_right _ _ (by omega),Int.add_comm]
 rw[←this,Int.ediv_ediv_of_nonneg (by omega)]
theorem jzU {M H rate:Int} (hH:0<H) (hr:0<rate):-(-(M/H*1000000 + -(-(M%H*1000000)/H))/rate)=-(-(M*1000000)/(H*rate)):=by
 have h1:=Int.mul_ediv_add_emod M H
 have e:-(M*1000000)=-(M%H*1000000)+(-(M/H*1000000))*H:=by
  conv=>lhs; rw[←h1]
  grind
 have:-(M*1000000)/H=-(M/H*1000000) + -(M%H*1000000)/H:=by
  rw[e,Int.add_mul_ediv_right _ _ (by omega),Int.add_comm]
 rw[←Int.ediv_ediv_of_nonneg (by omega),this]
 congr 2
 omega
theorem jzl {zs:List (List Int)} (hz:∀r∈zs,okZ r) (hl:zs.length≤1024):∀k:Nat,k≤zs.length→mo 0 zs k≤1024*sLo (zs.take k)
 |0,_=>by simp[mo,sLo]
 |k+1,h=>by
  have ih:=jzl hz hl k (by omega)
  have ho:=hz (zs.getD k []) (by simp[List.getD,show k<zs.length by omega])
  unfold okZ at ho
  have t:=Int.mul_le_mul_of_nonneg_right (show(k:Int)≤1024 by omega) ho.1
  rw[jpX (by omega),jmP]
  unfold mo
  omega
def cap (n rate:Int):Int:=((n-1)*1000000+rate-1)/rate
def ceS (rate:Int) (zs:List (List Int)):Int × Int × Int :=
 (
  mo 0 zs zs.length*1000000/(sHi zs*rate),
  (if cap zs.length rate < -(-(mo 1 zs zs.length*1000000)/(sLo zs*rate))then cap zs.length rate else -(-(mo 1 zs zs.length*1000000)/(sLo zs*rate))),0)
def ceW (rate:Int) (zs:List (List Int)) (T:Int):Int × Int × Int:=if T≠0 then(0,0,23)else if sLo zs=0 then(0,0,11)else ceS rate zs
theorem jsP {zs:List (List Int)} (hz:∀r∈zs,okZ r) (hl:zs.length≤1024):0≤mo 0 zs zs.length∧mo 0 zs zs.length≤mo 1 zs zs.length∧mo 1 zs zs.length≤4600000000000000:=by
 have:=jiY hz hl zs.length (Nat.le_refl _)
 omega
theorem jwN {rate noise T:Int} {l:List Nat} {zs:List (List Int)} (hz:ZOK zs T) (hr:8000≤rate∧rate≤192000) (hp:0<zs.length):y2 rate l noise T zs (ssO zs T)=some (ceW rate zs T):=by
 unfold y2 ceW
 by_cases hT:T=0
 ·subst hT
  have hl:=hz.len
  have hm:=jsP hz.ok hz.len
  have ha:=hz.all
  have z0:=jlh (zs:=zs) (T:=0)
  rw[if_neg (by decide),jb5,if_pos (by omega),if_pos (by omega),if_neg (show ¬(0:Int)≠0 by simp),z0.1]
  by_cases h0:sLo zs=0
  ·rw[if_pos (show(sLo zs==0)=true by simpa using h0),if_pos h0]
  ·rw[if_neg (show ¬(sLo zs==0)=true by simpa using h0),if_neg h0,momG hz.ok hz.len,jaa]
   unfold y89 ceS
   dsimp only
   rw[jb5,if_pos (by omega),if_pos (by omega),z0.1,z0.2,Int.add_zero,jp8 ⟨hm.1,by omega⟩ (by omega) hr,jaa,jp8 ⟨by omega,hm.2.2⟩ (by omega) hr,jaa]
   dsimp only
   have yp:0<sLo zs*rate:=Int.mul_pos (by omega) (by omega)
   have hce:=jp9 (a:=mo 1 zs zs.length*1000000) yp
   have q0:0≤mo 1 zs zs.length*1000000/(sLo zs*rate):=Int.ediv_nonneg (by omega) (by omega)
   have q1:mo 1 zs zs.length*1000000/(sLo zs*rate)≤mo 1 zs zs.length*1000000/8000:=by
    have y8:8000≤sLo zs*rate:=by
     have:=Int.mul_le_mul (show 1≤sLo zs by omega) hr.1 (by omega) (by omega)
     omega
    have a:=Int.ediv_mul_le (mo 1 zs zs.length*1000000) (show sLo zs*rate≠0 by omega)
    refine(Int.le_ediv_iff_mul_le (by omega)).2 ?_
    have b:=Int.mul_le_mul_of_nonneg_left y8 q0
    omega
   have hcap:jbh (wrap IntKind.i64 (wrap IntKind.i64 ((zs.length:Int)-1)*1000000)) rate=some (cap zs.length rate):=by
    rw[jap (x:=(zs.length:Int)-1) (by omega),jap (by omega),jeu (by omega) (by omega) (by omega)]
    rfl
   rw[hcap]
   by_cases hmore:mo 1 zs zs.length*1000000%(sLo zs*rate)>0
   ·rw[if_pos hmore]at hce
    rw[decide_eq_true hmore,if_pos rfl,jaa,jap (by omega),hce,if_pos (by omega),if_pos (by omega)]
   ·rw[if_neg hmore,Int.add_zero]at hce
    rw[decide_eq_false hmore,if_neg Bool.false_ne_true,jaa,hce,if_pos (by omega),if_pos (by omega)]
 ·rw[if_pos (show(T != 0)=true by simpa using hT),if_pos (show T≠0 from hT)]
theorem jvv {rate noise tail:Int} {l:List Nat} (h:(jbs rate l noise tail).2=0):y3 rate l noise tail=some (ceW rate (zsO noise l) tail):=by
 obtain⟨hz,hr,hs,hl2,hn,ht,hp⟩:=jeJ h
 have hzl:=jcb noise l
 unfold y3 ceW
 by_cases hT:tail=0
 ·subst hT
  have hm:=jsP hz.ok hz.len
  have ha:=hz.all
  rw[hzl]at hm
  have hml:=jzl hz.ok hz.len l.length (by omega)
  rw[List.take_of_length_le (by omega)]at hml
  have e0:y35 rate l noise 0 0=_:=jlg (rate:=rate) (noise:=noise) (tail:=0) (l:=l) (a:=0) hs hl2 hn ht (by omega)
  rw[List.drop_zero]at e0
  rw[if_neg (by decide),e0,jaa,if_neg (show ¬(0:Int)≠0 by simp)]
  dsimp only
  by_cases h0:sLo (zsO noise l)=0
  ·rw[if_pos (show(sLo (zsO noise l)==0)=true by simpa using h0),if_pos h0]
  ·rw[if_neg (show ¬(sLo (zsO noise l)==0)=true by simpa using h0),if_neg h0,momR hs hn hl2,jaa]
   unfold jpe ceS
   rw[hzl]
   dsimp only
   rw[Int.add_zero]
   generalize sLo (zsO noise l)=L at *
   generalize sHi (zsO noise l)=H at *
   generalize mo 0 (zsO noise l) l.length=M at *
   generalize mo 1 (zsO noise l) l.length=K at *
   have a1:0≤M/H:=Int.ediv_nonneg hm.1 (by omega)
   have a2:M/H≤M:=Int.ediv_le_self _ hm.1
   have a3:=Int.emod_nonneg M (show H≠0 by omega)
   have a4:=Int.emod_lt_of_pos M (show 0<H by omega)
   have a5:0≤M%H*1000000/H:=Int.ediv_nonneg (by omega) (by omega)
   have a6:M%H*1000000/H≤M%H*1000000:=Int.ediv_le_self _ (by omega)
   have a7:M/H≤1024:=by
    have:M/H<1025:=Int.ediv_lt_of_lt_mul (by omega) (by omega)
    omega
   have b1:0≤K/L:=Int.ediv_nonneg (by omega) (by omega)
   have b2:K/L≤K:=Int.ediv_le_self _ (by omega)
   have b3:=Int.emod_nonneg K (show L≠0 by omega)
   have b4:=Int.emod_lt_of_pos K (show 0<L by omega)
   have b5:=jp9 (a:=K%L*1000000) (show 0<L by omega)
   have b6:0≤K%L*1000000/L:=Int.ediv_nonneg (by omega) (by omega)
   have b7:K%L*1000000/L≤K%L*1000000:=Int.ediv_le_self _ (by omega)
   have b8:0≤-(-(K%L*1000000)/L)∧-(-(K%L*1000000)/L)≤K%L*1000000+1:=by rw[b5]; split<;>omega
   rw[if_pos (show H≠0 by omega),if_pos (show H≠0 by omega),Int.tmod_eq_emod_of_nonneg hm.1,Int.tdiv_eq_ediv_of_nonneg hm.1,jap (x:=M%H*1000000) (by omega),jcp (by omega) (by omega),jaa,jap (x:=M/H) (by omega),jap (x:=M/H*1000000) (by omega),jap (x:=M/H*1000000+M%H*1000000/H) (by omega),jcp (by omega) (by omega),jaa,jap (x:=(l.length:Int)-1) (by omega),jap (x:=((l.length:Int)-1)*1000000) (by omega),jdc (by omega) (by omega),jaa,jdI (n:=((l.length:Int)-1)*1000000) (by omega),if_pos (show L≠0 by omega),Int.tdiv_eq_ediv_of_nonneg (by omega),jap (x:=K/L) (by omega),jzT (by omega) (by omega)]
   have hcapd:(((l.length:Int)-1)*1000000+rate-1)/rate=cap (l.length:Int) rate:=rfl
   rw[hcapd]
   by_cases hc:K/L<(l.length:Int)
   ·rw[if_pos hc,if_pos (show L≠0 by omega),if_pos (show L≠0 by omega),Int.tmod_eq_emod_of_nonneg (by omega),jap (x:=K%L*1000000) (by omega),jdc (by omega) (by omega),jaa,jap (x:=K/L*1000000) (by omega),jap (x:=K/L*1000000 + -(-(K%L*1000000)/L)) (by omega),jdc (by omega) (by omega),jaa,jzU (by omega) (by omega)]
    congr 3
    split<;>split<;>omega
   ·rw[if_neg hc]
    have hle:cap (l.length:Int) rate≤-(-(K*1000000)/(L*rate)):=by
     rw[←hcapd,←jdI (by omega),←Int.ediv_ediv_of_nonneg (by omega)]
     have h1:-(K*1000000)/L≤-(((l.length:Int)-1)*1000000):=by
      have h2:(l.length:Int)*L≤K:=(Int.le_ediv_iff_mul_le (by omega)).1 (by omega)
      have h3:-(K*1000000)/L < -(((l.length:Int)-1)*1000000)+1:=by
       refine Int.ediv_lt_of_lt_mul (by omega) ?_
       have h4:(-(((l.length:Int)-1)*1000000)+1)*L=-((l.length:Int)*L*1000000)+1000001*L:=by grind
       rw[h4]
       omega
      omega
     have h2:=Int.ediv_le_ediv (show 0<rate by omega) h1
     omega
    congr 3
    split<;>omega
 ·rw[if_pos (show(tail != 0)=true by simpa using hT),if_pos (show tail≠0 from hT)]
end Go.Sh
end

section
namespace Go.Sh
open Go Go.Proofs Go.RowKit Go.Sx Go.Sx06 Ieee Go.Fl
def kn (e:Int × Int × Int):Bool:=e.2.2==0
def lo_ (e:Int × Int × Int):Int:=if kn e=true then e.1 else 0
def hi_ (e:Int × Int × Int):Int:=if kn e=true then e.2.1 else 0
section
variable {rate noise tail:Int} {l:List Nat}
def fgs (rate:Int) (l:List Nat) (noise tail:Int) (i:Nat):Int × Int × Int:=match i with
 |0=>jbt rate (zsO noise l) tail 0
 |1=>jbt rate (zsO noise l) tail 1
 |2=>jbt rate (zsO noise l) tail 2
 |3=>clS rate (zsO noise l) tail 80000
 |4=>dwW rate l noise tail 50000
 |_=>ceW rate (zsO noise l) tail
def fgT (f:Nat→Int × Int × Int):Bool × Bool × Bool × Bool × Bool × Bool × Int × Int × Int × Int × Int × Int × Int × Int × Int × Int × Int × Int :=
 (kn (f 0),kn (f 1),kn (f 2),kn (f 3),kn (f 4),kn (f 5),lo_ (f 0),hi_ (f 0),lo_ (f 1),hi_ (f 1),lo_ (f 2),hi_ (f 2),lo_ (f 3),hi_ (f 3),lo_ (f 4),hi_ (f 4),lo_ (f 5),hi_ (f 5))
def jsQ (f:Nat→Int × Int × Int) (e:Int):Bool × Bool × Bool × Bool × Bool × Bool × Int × Int × Int × Int × Int × Int × Int × Int × Int × Int × Int × Int × Int :=
 (kn (f 0),kn (f 1),kn (f 2),kn (f 3),kn (f 4),kn (f 5),lo_ (f 0),hi_ (f 0),lo_ (f 1),hi_ (f 1),lo_ (f 2),hi_ (f 2),lo_ (f 3),hi_ (f 3),lo_ (f 4),hi_ (f 4),lo_ (f 5),hi_ (f 5),e)
def bad0:Nat→Int × Int × Int:=fun _=>(0,0,1)
theorem tm8:tmE 80000=0:=by decide
theorem tm5:tmE 50000=0:=by decide
set_option maxHeartbeats 2000000 in
theorem jtF (h:(jbs rate l noise tail).2=0):y13 rate l noise tail=some (fgT (fgs rate l noise tail)):=by
 obtain⟨hz,hr,hs,hl2,hn,ht,hp⟩:=jeJ h
 unfold y13
 rw[jkP (kind:=0) hs hl2 hn ht hr (by omega),jkP (kind:=1) hs hl2 hn ht hr (by omega),jkP (kind:=2) hs hl2 hn ht hr (by omega),jtE h tm8,jiW h tm5,jvv h]
 unfold fgT
 show _=some (kn (jbt rate (zsO noise l) tail 0),kn (jbt rate (zsO noise l) tail 1),kn (jbt rate (zsO noise l) tail 2),kn (clS rate (zsO noise l) tail 80000),kn (dwW rate l noise tail 50000),kn (ceW rate (zsO noise l) tail),
  lo_ (jbt rate (zsO noise l) tail 0),hi_ (jbt rate (zsO noise l) tail 0),lo_ (jbt rate (zsO noise l) tail 1),hi_ (jbt rate (zsO noise l) tail 1),lo_ (jbt rate (zsO noise l) tail 2),hi_ (jbt rate (zsO noise l) tail 2),
  lo_ (clS rate (zsO noise l) tail 80000),hi_ (clS rate (zsO noise l) tail 80000),lo_ (dwW rate l noise tail 50000),hi_ (dwW rate l noise tail 50000),lo_ (ceW rate (zsO noise l) tail),hi_ (ceW rate (zsO noise l) tail))
 simp only[jaa]
 generalize jbt rate (zsO noise l) tail 0=e0
 generalize jbt rate (zsO noise l) tail 1=e1
 generalize jbt rate (zsO noise l) tail 2=e2
 generalize clS rate (zsO noise l) tail 80000=e3
 generalize dwW rate l noise tail 50000=e4
 generalize ceW rate (zsO noise l) tail=e5
 unfold lo_ hi_ kn
 cases h0:(e0.2.2==(0:Int))<;>simp only[if_true,if_false,Bool.false_eq_true]<;>cases h1:(e1.2.2==(0:Int))<;>simp only[if_true,if_false,Bool.false_eq_true]<;>cases h2:(e2.2.2==(0:Int))<;>simp only[if_true,if_false,Bool.false_eq_true] <;>
  cases h3:(e3.2.2==(0:Int))<;>simp only[if_true,if_false,Bool.false_eq_true]<;>cases h4:(e4.2.2==(0:Int))<;>simp only[if_true,if_false,Bool.false_eq_true]<;>cases h5:(e5.2.2==(0:Int))<;>simp only[if_true,if_false,Bool.false_eq_true]
set_option maxHeartbeats 2000000 in
theorem jtG (h:(jbs rate l noise tail).2=0):y12 rate l noise tail=some (jsQ (fgs rate l noise tail) 0):=by
 obtain⟨hz,hr,hs,hl2,hn,ht,hp⟩:=jeJ h
 have hl:l.length<1000000000000:=by omega
 unfold y12 y15 y4 y22
 rw[jwH rate noise tail hl,jqX h,if_neg Bool.false_ne_true,jwL hl h]
 simp only[jaa]
 rw[jfv (kind:=0) hz hr (by omega),jfv (kind:=1) hz hr (by omega),jfv (kind:=2) hz hr (by omega),jAv hz hr (by omega),jAw hz hr (by omega),jwN hz hr (by rw[jcb]; exact hp),jcb]
 have hd:dwS (sLo ((zsO noise l).take (jaA rate 50000 l.length))) (sHi ((zsO noise l).take (jaA rate 50000 l.length))) (sLo ((zsO noise l).drop (jaA rate 50000 l.length))) (sHi ((zsO noise l).drop (jaA rate 50000 l.length))+tail)=dwW rate l noise tail 50000:=by
  unfold dwW
  rw[if_neg (show ¬(jbs rate l noise tail).2≠0 from fun hh=>hh h),if_neg (show ¬tmE 50000≠0 from fun hh=>hh tm5)]
 rw[hd]
 unfold jsQ
 show _=some (kn (jbt rate (zsO noise l) tail 0),kn (jbt rate (zsO noise l) tail 1),kn (jbt rate (zsO noise l) tail 2),kn (clS rate (zsO noise l) tail 80000),kn (dwW rate l noise tail 50000),kn (ceW rate (zsO noise l) tail),
  lo_ (jbt rate (zsO noise l) tail 0),hi_ (jbt rate (zsO noise l) tail 0),lo_ (jbt rate (zsO noise l) tail 1),hi_ (jbt rate (zsO noise l) tail 1),lo_ (jbt rate (zsO noise l) tail 2),hi_ (jbt rate (zsO noise l) tail 2),
  lo_ (clS rate (zsO noise l) tail 80000),hi_ (clS rate (zsO noise l) tail 80000),lo_ (dwW rate l noise tail 50000),hi_ (dwW rate l noise tail 50000),lo_ (ceW rate (zsO noise l) tail),hi_ (ceW rate (zsO noise l) tail),0)
 simp only[jaa]
 generalize jbt rate (zsO noise l) tail 0=e0
 generalize jbt rate (zsO noise l) tail 1=e1
 generalize jbt rate (zsO noise l) tail 2=e2
 generalize clS rate (zsO noise l) tail 80000=e3
 generalize dwW rate l noise tail 50000=e4
 generalize ceW rate (zsO noise l) tail=e5
 unfold lo_ hi_ kn
 cases h0:(e0.2.2==(0:Int))<;>simp only[if_true,if_false,Bool.false_eq_true]<;>cases h1:(e1.2.2==(0:Int))<;>simp only[if_true,if_false,Bool.false_eq_true]<;>cases h2:(e2.2.2==(0:Int))<;>simp only[if_true,if_false,Bool.false_eq_true] <;>
  cases h3:(e3.2.2==(0:Int))<;>simp only[if_true,if_false,Bool.false_eq_true]<;>cases h4:(e4.2.2==(0:Int))<;>simp only[if_true,if_false,Bool.false_eq_true]<;>cases h5:(e5.2.2==(0:Int))<;>simp only[if_true,if_false,Bool.false_eq_true]
theorem jsR (hl:l.length<1000000000000) (h:(jbs rate l noise tail).2≠0):y12 rate l noise tail=some (jsQ bad0 (jbs rate l noise tail).2):=by
 unfold y12
 rw[jwH rate noise tail hl,jiT h,if_pos rfl,jyQ hl h,jaa]
 dsimp only
 rw[jiT h,if_pos rfl]
 rfl
end
end Go.Sh
end

section
namespace Go.Sh
open Go Go.Proofs Go.RowKit Go.Sx Go.Sx06 Ieee Go.Fl
def okE (e:Int × Int × Int):Prop:=e.2.2=0→e.1≤e.2.1∧-1000000000000<e.1∧e.2.1<1000000000000
theorem jbN {a b c:Int} (h:c≠0):okE (a,b,c):=fun e=>absurd e h
theorem jsS {times rate blo bhi elo ehi:Int} (ht:0<times∧times≤6) (hr:8000≤rate∧rate≤192000) (h1:elo-bhi≤ehi-blo) (h2:0≤ehi-blo∧ehi-blo≤2000):okE (dcT times rate blo bhi elo ehi):=by
 intro _
 unfold dcT
 dsimp only
 obtain⟨m,hm⟩:∃m,m=max 0 (elo-bhi):=⟨_,rfl⟩
 obtain⟨d,hd⟩:∃d,d=ehi-blo:=⟨_,rfl⟩
 rw[←hm,←hd]
 rw[←hd]at h1 h2
 have hmd:0≤m∧m≤d:=by omega
 have ha:times*m≤times*d:=Int.mul_le_mul_of_nonneg_left hmd.2 (by omega)
 have hb:0≤times*m:=Int.mul_nonneg (by omega) hmd.1
 have hc:times*d≤6*2000:=Int.mul_le_mul ht.2 h2.2 h2.1 (by omega)
 obtain⟨A,hA⟩:∃A,A=times*m:=⟨_,rfl⟩
 obtain⟨D,hD⟩:∃D,D=times*d:=⟨_,rfl⟩
 rw[←hA,←hD]
 rw[←hA,←hD]at ha
 rw[←hA]at hb
 rw[←hD]at hc
 have hrp:0<rate:=by omega
 refine⟨Int.ediv_le_ediv hrp (by omega),?_,?_⟩
 ·have:0≤A*1000000/rate:=Int.ediv_nonneg (by omega) (by omega)
  omega
 ·have:(D*1000000+rate-1)/rate≤D*1000000+rate-1:=Int.ediv_le_self _ (by omega)
  omega
section
variable {rate:Int} {zs:List (List Int)} {T:Int}
theorem jpp {kind:Int} (hz:ZOK zs T) (hr:8000≤rate∧rate≤192000):okE (jbt rate zs T kind):=by
 have hl:=hz.len
 unfold jbt
 split
 ·exact jbN (by decide)
 split
 ·split
  ·exact jbN (by decide)
  ·rename_i h
   obtain⟨i,j,h1,h2,h3,h4,h5⟩:=jdf hz (by simpa using h)
   rw[h5]
   refine jsS (by omega) hr ?_ ?_<;>dsimp only<;>omega
 split
 ·split
  ·exact jbN (by decide)
  split
  ·exact jbN (by decide)
  ·rename_i ha hb
   obtain⟨i,j,h1,h2,h3,h4,h5⟩:=jdf hz (by simpa using ha)
   obtain⟨i',j',g1,g2,g3,g4,g5⟩:=jdf hz (by simpa using hb)
   obtain⟨q,hq,hqj⟩:=jmS (f:=1) (g:=5) (by decide) g1
   rw[h1]at hq
   cases hq
   rw[h5,g5]
   refine jsS (by omega) hr ?_ ?_<;>dsimp only<;>omega
 ·split
  ·exact jbN (by decide)
  split
  ·exact jbN (by decide)
  ·rename_i ha hb
   obtain⟨i,j,h1,h2,h3,h4,h5⟩:=jdf hz (by simpa using ha)
   obtain⟨i',j',g1,g2,g3,g4,g5⟩:=jdf hz (by simpa using hb)
   obtain⟨q,hq,hqj⟩:=jmS (f:=1) (g:=7) (by decide) g1
   rw[h1]at hq
   cases hq
   rw[h5,g5]
   refine jsS (by omega) hr ?_ ?_<;>dsimp only<;>omega
theorem jqa {a b c d:Int} (hb:0<b) (hd:0<d) (h:a*d≤c*b):a/b≤(c+d-1)/d:=by
 have h1:=Int.ediv_mul_le a (Int.ne_of_gt hb)
 have h2:(c+d-1)/d*d+(c+d-1)%d=c+d-1:=by rw[Int.mul_comm]; exact Int.mul_ediv_add_emod _ _
 have h3:=Int.emod_lt_of_pos (c+d-1) hd
 obtain⟨x,hx⟩:∃x,x=a/b:=⟨_,rfl⟩
 obtain⟨y,hy⟩:∃y,y=(c+d-1)/d:=⟨_,rfl⟩
 rw[←hx]at h1 ⊢
 rw[←hy]at h2 ⊢
 have h4:c≤y*d:=by omega
 have h5:x*b*d≤a*d:=Int.mul_le_mul_of_nonneg_right h1 (by omega)
 have h6:c*b≤y*d*b:=Int.mul_le_mul_of_nonneg_right h4 (by omega)
 have h7:x*(b*d)≤y*(b*d):=by
  rw[←Int.mul_assoc,show y*(b*d)=y*d*b by rw[Int.mul_comm b d,Int.mul_assoc]]
  omega
 exact Int.le_of_mul_le_mul_right h7 (Int.mul_pos hb hd)
theorem jAz {el eh ll lh:Int} (h1:0≤el∧el≤eh) (h2:0≤ll∧ll≤lh) (h3:eh≤10000000000000∧lh≤10000000000000):okE (dwS el eh ll lh):=by
 unfold dwS
 split
 ·exact jbN (by decide)
 ·rename_i h
  intro _
  dsimp only
  have hb:0<el+lh:=by omega
  have hd:0<eh+ll:=by omega
  have hx:el*ll≤eh*lh:=Int.mul_le_mul h1.2 h2.2 h2.1 (by omega)
  refine⟨?_,?_,?_⟩
  ·have:=jqa (a:=1000*el) (b:=el+lh) (c:=1000*eh) (d:=eh+ll) hb hd (by
    rw[Int.mul_add,Int.mul_add,Int.mul_assoc,Int.mul_assoc,Int.mul_assoc,Int.mul_assoc,Int.mul_comm eh el]
    omega)
   exact this
  ·have:0≤1000*el/(el+lh):=Int.ediv_nonneg (by omega) (by omega)
   omega
  ·have:(1000*eh+(eh+ll)-1)/(eh+ll)≤1001:=by
    refine Int.lt_add_one_iff.1 (Int.ediv_lt_of_lt_mul hd ?_)
    omega
   omega
end
end Go.Sh
end
