/- Part 4 of the proof of EngineLate: the executor, the mirrors of the functions, the plain facts. -/
import Derived.Test.YtigliehhpdpaoaaGreatPC
import Derived.RangeFuncNested
import Derived.RangeFuncBound
import Derived.RangeFuncCalls
import Derived.RangeFuncLeaves
import Derived.Shelf.Abstract
import Derived.Shelf.RegionOpen
import Derived.WalkKit
import Derived.OwnWalkIn
import Derived.TacticsInMore
import Derived.LoopNIn
import Derived.LoopIn
import Derived.Test.YtigliehhpdpaoaaGreatProg
set_option maxRecDepth 100000
set_option linter.unusedSectionVars false
set_option linter.unusedSimpArgs false
set_option linter.unusedVariables false
set_option linter.defProp false
open Array renaming getD->qI,getElem?_eq_some_iff->zH,replicate_succ->je,replicate_zero->jf
open ByteArray renaming data->qf,mk->qD,size->xT
open Eq renaming mp->jI
open Go renaming CallsIn->fu,Oper->qu,Value->zt,World->zs,callsIn_of_wp->gy,callsIn_wide->fv,execOp->qR,results_none->jR,undef->z3,wpIn_block->fo,wpIn_cond_false->jD,wpIn_cond_true->jP,wpIn_region_list->gH,wpIn_seq->yw,wpIn_skip->g9,wpListIn_nil->jQ,wpListIn_plain->xy,wp_mono->x6
open Go.Act renaming put->jA
open Go.Deferred renaming ofValue->gG
open Go.Fence renaming wide->xI,wide_round->jn
open Go.FloatKind renaming nearest->qv
open Go.IntKind renaming i64->xu
open Go.IntWalk renaming i64_in->g7
open Go.Oper renaming semAt_none->jC,semAt_some->jB
open Go.Result renaming andThen_ok->zn
open Go.RowKit renaming Below->x8,intOf->fY
open Go.RowKit.Below renaming refl->xA
open Go.Sem renaming run_bind->zr,run_pure->zx
open Go.Value renaming agg->kz,int->xR,pointer->xb,slice->qd
open Go.Value.pointer renaming inj->kx
open Go.World renaming block_lt_of_cell?->qO,cell?->g8,cell?_of_block->qV,cell?_setCell_same'->yG,frozen?->f6,grownBy_alloc->fc,size_alloc->fF
open Go.World.grownBy renaming refl->gi
open Ieee renaming Format->j7
open Ieee.Format renaming order->qn
open Int renaming toNat->zg
open List renaming all_eq_true->zy,append_toArray->js,cons_append->qq,drop->yI,getD->za,getElem?_eq_getElem->zG,getElem?_map->zK,headD->qg,length->ze,length_cons->zA,length_nil->qi,map->xj,map_cons->zJ,map_nil->qZ,map_toArray->yi,mem_append->qE,mem_cons->qp,mem_cons_of_mem->zu,mem_cons_self->zw,mem_map->qa,mem_singleton->zW,nil_append->qP,not_mem_nil->gI,push_toArray->jS,replicate->zf,set->qw,size_toArray->xQ,take->yH,take_length->yk
open Nat renaming le_of_ble_eq_true->zh,le_refl->zq,le_trans->qS,lt_succ_self->zp,reduceAdd->gz,reduceSub->gA
open Ne renaming symm->yN
open Option renaming bind->zb,bind_eq_some_iff->zQ,getD->zM,isSome->gC
open Option.some renaming inj->yc,injEq->zk
open Sum renaming elim->qC
open UInt8 renaming toNat->qA
section
namespace Go.Sh
open Go Go.Proofs Go.RowKit Go.Sx
open Go.IntKind (wrap)
def jfP:List SV:=[.a [.d,.x (.st zS [])],.c (.d)]
def jtz (u1:List (List NC)) (i x0:Int):Option (Int ⊕ (Unit ⊕ Unit)) :=
 if x0<i then
  if 0<=x0∧x0<(↑u1.length:Int)then
  if zg x0<ze u1 then
   if(nS u1 x0.toNat (0:Nat)==nS u1 i.toNat (0:Nat))=true then
   some (.inr ((.inl ())))
   else
   some (.inl (wrap .i64 (x0+1)))
  else none
  else none
 else
  some (.inr ((.inr ())))
def jql (u1:List (List NC)) (i:Int) (u4:Unit):Option Int :=
 some (5:Int)
def y13 (u1:List (List NC)) (i x1:Int):Option (Int ⊕ (Unit ⊕ Unit)) :=
 if x1<(↑(ze (nL u1 i.toNat (2:Nat))):Int)then
  if 0<=x1∧x1<(↑(ze (nL u1 i.toNat (2:Nat))):Int)then
  if zg x1<ze (nL u1 i.toNat (2:Nat))then
   zb (y21 (za (nL u1 i.toNat (2:Nat)) x1.toNat (0:Int)) (0:Int) (wrap .i64 ((↑u1.length:Int)-1))) fun r3 =>
   if(!r3)=true then
   some (.inr ((.inl ())))
   else
   some (.inl (wrap .i64 (x1+1)))
  else none
  else none
 else
  some (.inr ((.inr ())))
def jqm (u1:List (List NC)) (i:Int) (u26:Unit):Option Int :=
 some (6:Int)
def jqn (u1:List (List NC)) (i x2:Int):Option (Int ⊕ (Unit ⊕ Unit)) :=
 if x2<(↑(ze (nL u1 i.toNat (2:Nat))):Int)then
  if 0<=zM none (0:Int)∧zM none 0<=zM (some x2) (↑(ze (nL u1 i.toNat (2:Nat))):Int)∧zM (some x2) (↑(ze (nL u1 i.toNat (2:Nat))):Int)<=(↑(ze (nL u1 i.toNat (2:Nat))):Int)then
  if 0<=x2∧x2<(↑(ze (nL u1 i.toNat (2:Nat))):Int)then
   if zg x2<ze (nL u1 i.toNat (2:Nat))then
   zb (jfr (yH (zg (zM (some x2) (↑(ze (nL u1 i.toNat (2:Nat))):Int))-0) (yI (0:Nat) (nL u1 i.toNat (2:Nat)))) (za (nL u1 i.toNat (2:Nat)) x2.toNat (0:Int))) fun r5 =>
   if(r5)=true then
    some (.inr ((.inl ())))
   else
    some (.inl (wrap .i64 (x2+1)))
   else none
  else none
  else none
 else
  some (.inr ((.inr ())))
def jqo (u1:List (List NC)) (i:Int) (u52:Unit):Option Int :=
 some (26:Int)
def jtA (u1:List (List NC)) (i x3:Int):Option (Int ⊕ (Unit ⊕ Unit)) :=
 if x3<(↑(ze (nL u1 i.toNat (3:Nat))):Int)then
  if 0<=x3∧x3<(↑(ze (nL u1 i.toNat (3:Nat))):Int)then
  if zg x3<ze (nL u1 i.toNat (3:Nat))then
   zb (y21 (za (nL u1 i.toNat (3:Nat)) x3.toNat (0:Int)) (0:Int) (64:Int)) fun r6 =>
   if(!r6)=true then
   some (.inr ((.inl ())))
   else
   some (.inl (wrap .i64 (x3+1)))
  else none
  else none
 else
  some (.inr ((.inr ())))
def jqp (u1:List (List NC)) (i:Int) (u89:Unit):Option Int :=
 some (2:Int)
def jqq (u1:List (List NC)) (i x4:Int):Option (Int ⊕ (Unit ⊕ Unit)) :=
 if x4<(↑(ze (nL u1 i.toNat (4:Nat))):Int)then
  if 0<=x4∧x4<(↑(ze (nL u1 i.toNat (4:Nat))):Int)then
  if zg x4<ze (nL u1 i.toNat (4:Nat))then
   zb (y21 (za (nL u1 i.toNat (4:Nat)) x4.toNat (0:Int)) (-4000:Int) (4000:Int)) fun r7 =>
   if(!r7)=true then
   some (.inr ((.inl ())))
   else
   some (.inl (wrap .i64 (x4+1)))
  else none
  else none
 else
  some (.inr ((.inr ())))
def jqr (u1:List (List NC)) (i:Int) (u90:Unit):Option Int :=
 some (2:Int)
def y252 (u1:List (List NC)) (i:Int) (u91:Unit):Option Int :=
 zb (y21 (nI u1 i.toNat (5:Nat)) (0:Int) (64:Int)) fun r8 =>
 if(!r8)=true then
  some (2:Int)
 else
  if(nI u1 i.toNat (1:Nat)!=2)=true then
  if(nI u1 i.toNat (5:Nat)!=0)=true then
   some (2:Int)
  else
   if(nI u1 i.toNat (1:Nat)!=3)=true then
   if(↑(ze (nR u1 i.toNat (6:Nat))):Int)>0 then
    some (10:Int)
   else
    some (0:Int)
   else
   zb (y36 (nR u1 i.toNat (6:Nat))) fun r9 =>
   some r9.2
  else
  if(nI u1 i.toNat (1:Nat)!=3)=true then
   if(↑(ze (nR u1 i.toNat (6:Nat))):Int)>0 then
   some (10:Int)
   else
   some (0:Int)
  else
   zb (y36 (nR u1 i.toNat (6:Nat))) fun r9 =>
   some r9.2
def jeJ (u1:List (List NC)) (i:Int):(Unit ⊕ Unit)->Option Int :=
 (qC (jqr u1 i) (y252 u1 i))
def y253 (u1:List (List NC)) (i:Int) (u92:Unit):Option Int :=
 zb (jae (jqq u1 i) big (0:Int)) (jeJ u1 i)
def jjP (u1:List (List NC)) (i:Int):(Unit ⊕ Unit)->Option Int :=
 (qC (jqp u1 i) (y253 u1 i))
def y254 (u1:List (List NC)) (i:Int) (u58:Unit):Option Int :=
 zb (jae (jtA u1 i) big (0:Int)) (jjP u1 i)
def y228 (u1:List (List NC)) (i:Int):(Unit ⊕ Unit)->Option Int :=
 (qC (jqo u1 i) (y254 u1 i))
def y255 (u1:List (List NC)) (i:Int) (u33:Unit):Option Int :=
 zb (y21 (nI u1 i.toNat (7:Nat)) (-1:Int) (wrap .i64 ((↑u1.length:Int)-1))) fun r4 =>
 if(!r4)=true then
  some (6:Int)
 else
  zb (jae (jqn u1 i) big (0:Int)) (y228 u1 i)
def y31 (u1:List (List NC)) (i:Int):(Unit ⊕ Unit)->Option Int :=
 (qC (jqm u1 i) (y255 u1 i))
def y178 (u1:List (List NC)) (i:Int) (u9:Unit):Option Int :=
 zb (y21 (nI u1 i.toNat (1:Nat)) (0:Int) (4:Int)) fun r1 =>
 if(!r1)=true then
  some (15:Int)
 else
  if(nI u1 i.toNat (1:Nat)==0)=true then
  if(nI u1 i.toNat (1:Nat)==1)=true then
   if(nI u1 i.toNat (1:Nat)==1)=true then
   zb (y21 (↑(ze (nL u1 i.toNat (2:Nat))):Int) (0:Int) (6:Int)) fun r2 =>
   if(!r2)=true then
    some (10:Int)
   else
    if((↑(ze (nL u1 i.toNat (3:Nat))):Int)!=(↑(ze (nL u1 i.toNat (2:Nat))):Int))=true then
    some (10:Int)
    else
    if((↑(ze (nL u1 i.toNat (4:Nat))):Int)!=(↑(ze (nL u1 i.toNat (2:Nat))):Int))=true then
     some (10:Int)
    else
     zb (jae (y13 u1 i) big (0:Int)) (y31 u1 i)
   else
   zb (y21 (↑(ze (nL u1 i.toNat (2:Nat))):Int) (0:Int) (6:Int)) fun r2 =>
   if(!r2)=true then
    some (10:Int)
   else
    if((↑(ze (nL u1 i.toNat (3:Nat))):Int)!=(↑(ze (nL u1 i.toNat (2:Nat))):Int))=true then
    some (10:Int)
    else
    if((↑(ze (nL u1 i.toNat (4:Nat))):Int)!=0)=true then
     some (10:Int)
    else
     zb (jae (y13 u1 i) big (0:Int)) (y31 u1 i)
  else
   if(nI u1 i.toNat (1:Nat)==1)=true then
   zb (y21 (↑(ze (nL u1 i.toNat (2:Nat))):Int) (0:Int) (0:Int)) fun r10 =>
   if(!r10)=true then
    some (10:Int)
   else
    if((↑(ze (nL u1 i.toNat (3:Nat))):Int)!=(↑(ze (nL u1 i.toNat (2:Nat))):Int))=true then
    some (10:Int)
    else
    if((↑(ze (nL u1 i.toNat (4:Nat))):Int)!=(↑(ze (nL u1 i.toNat (2:Nat))):Int))=true then
     some (10:Int)
    else
     zb (jae (y13 u1 i) big (0:Int)) (y31 u1 i)
   else
   zb (y21 (↑(ze (nL u1 i.toNat (2:Nat))):Int) (0:Int) (0:Int)) fun r10 =>
   if(!r10)=true then
    some (10:Int)
   else
    if((↑(ze (nL u1 i.toNat (3:Nat))):Int)!=(↑(ze (nL u1 i.toNat (2:Nat))):Int))=true then
    some (10:Int)
    else
    if((↑(ze (nL u1 i.toNat (4:Nat))):Int)!=0)=true then
     some (10:Int)
    else
     zb (jae (y13 u1 i) big (0:Int)) (y31 u1 i)
  else
  if(nI u1 i.toNat (1:Nat)==1)=true then
   if(nI u1 i.toNat (1:Nat)==1)=true then
   zb (y21 (↑(ze (nL u1 i.toNat (2:Nat))):Int) (1:Int) (6:Int)) fun r11 =>
   if(!r11)=true then
    some (10:Int)
   else
    if((↑(ze (nL u1 i.toNat (3:Nat))):Int)!=(↑(ze (nL u1 i.toNat (2:Nat))):Int))=true then
    some (10:Int)
    else
    if((↑(ze (nL u1 i.toNat (4:Nat))):Int)!=(↑(ze (nL u1 i.toNat (2:Nat))):Int))=true then
     some (10:Int)
    else
     zb (jae (y13 u1 i) big (0:Int)) (y31 u1 i)
   else
   zb (y21 (↑(ze (nL u1 i.toNat (2:Nat))):Int) (1:Int) (6:Int)) fun r11 =>
   if(!r11)=true then
    some (10:Int)
   else
    if((↑(ze (nL u1 i.toNat (3:Nat))):Int)!=(↑(ze (nL u1 i.toNat (2:Nat))):Int))=true then
    some (10:Int)
    else
    if((↑(ze (nL u1 i.toNat (4:Nat))):Int)!=0)=true then
     some (10:Int)
    else
     zb (jae (y13 u1 i) big (0:Int)) (y31 u1 i)
  else
   if(nI u1 i.toNat (1:Nat)==1)=true then
   zb (y21 (↑(ze (nL u1 i.toNat (2:Nat))):Int) (1:Int) (1:Int)) fun r12 =>
   if(!r12)=true then
    some (10:Int)
   else
    if((↑(ze (nL u1 i.toNat (3:Nat))):Int)!=(↑(ze (nL u1 i.toNat (2:Nat))):Int))=true then
    some (10:Int)
    else
    if((↑(ze (nL u1 i.toNat (4:Nat))):Int)!=(↑(ze (nL u1 i.toNat (2:Nat))):Int))=true then
     some (10:Int)
    else
     zb (jae (y13 u1 i) big (0:Int)) (y31 u1 i)
   else
   zb (y21 (↑(ze (nL u1 i.toNat (2:Nat))):Int) (1:Int) (1:Int)) fun r12 =>
   if(!r12)=true then
    some (10:Int)
   else
    if((↑(ze (nL u1 i.toNat (3:Nat))):Int)!=(↑(ze (nL u1 i.toNat (2:Nat))):Int))=true then
    some (10:Int)
    else
    if((↑(ze (nL u1 i.toNat (4:Nat))):Int)!=0)=true then
     some (10:Int)
    else
     zb (jae (y13 u1 i) big (0:Int)) (y31 u1 i)
def jeK (u1:List (List NC)) (i:Int):(Unit ⊕ Unit)->Option Int :=
 (qC (jql u1 i) (y178 u1 i))
def jqs (u3:ByteArray) (u1:List (List NC)) (i:Int):Option Int :=
 if 0<=i∧i<(↑u1.length:Int)then
  if zg i<ze u1 then
  zb (jiW (nS u1 i.toNat (0:Nat))) fun r0 =>
  if(!r0)=true then
   some (4:Int)
  else
   if(nS u1 i.toNat (0:Nat)==qD #[(115:UInt8),(116:UInt8),(97:UInt8),(110:UInt8),(100:UInt8)])=true then
   some (4:Int)
   else
   zb (jae (jtz u1 i) big (0:Int)) (jeK u1 i)
  else none
 else none
def jfQ:List Lf->Option GT
 |[.d (.s u3),.x (.st [.s,.i .i64,.ints .i64,.ints .i64,.ints .i64,.i .i64,.recs 5,.i .i64] u1),.d (.i .i64 i)]=>some (.leaf (ok (jqs u3 u1 i)) [.c (.d (.i .i64 ((val (jqs u3 u1 i)))))])
 |_=>none
abbrev sp_82:jaa->jaa:=jan 82 true (jah jfP jfQ)
abbrev jjQ (u3:ByteArray) (u1:List (List NC)) (i r:Int):Lp (Int × Nat) Int (Unit ⊕ Unit) Int Int :=
 ⟨fun z=>z.1,fun z=>z.2,fun z x n=>(x,n),fun z=>jtz u1 i,fun z=>jeK u1 i,fun z=>top r,fun z=>0,[.c fun _=>i,.c fun _=>0,.c fun _=>0,.c fun vv=>vv.1,.c fun _=>u3,.c fun _=>nS u1 i.toNat (0:Nat),.c fun _=>nI u1 i.toNat (1:Nat),.c fun _=>nI u1 i.toNat (5:Nat),.c fun _=>nI u1 i.toNat (7:Nat),.c fun _=>u1,.c fun _=>nL u1 i.toNat (2:Nat),.c fun _=>nL u1 i.toNat (3:Nat),.c fun _=>nL u1 i.toNat (4:Nat),.c fun _=>nR u1 i.toNat (6:Nat)]⟩
abbrev jjR (u3:ByteArray) (u1:List (List NC)) (i r:Int):Lp (Unit × Int × Nat) Int (Unit ⊕ Unit) Int Int :=
 ⟨fun z=>z.2.1,fun z=>z.2.2,fun z x n=>((),x,n),fun z=>y13 u1 i,fun z=>y31 u1 i,fun z=>top r,fun z=>0,[.c fun _=>0,.c fun _=>0,.c fun vv=>vv.2.1,.c fun _=>u3,.c fun _=>nS u1 i.toNat (0:Nat),.c fun _=>nI u1 i.toNat (1:Nat),.c fun _=>nI u1 i.toNat (5:Nat),.c fun _=>nI u1 i.toNat (7:Nat),.c fun _=>u1,.c fun _=>nL u1 i.toNat (2:Nat),.c fun _=>nL u1 i.toNat (3:Nat),.c fun _=>nL u1 i.toNat (4:Nat),.c fun _=>nR u1 i.toNat (6:Nat)]⟩
abbrev jjS (u3:ByteArray) (u1:List (List NC)) (i r:Int):Lp (Unit × Unit × Int × Nat) Int (Unit ⊕ Unit) Int Int :=
 ⟨fun z=>z.2.2.1,fun z=>z.2.2.2,fun z x n=>((),(),x,n),fun z=>jqn u1 i,fun z=>y228 u1 i,fun z=>top r,fun z=>0,[.c fun _=>0,.c fun vv=>vv.2.2.1,.c fun _=>nS u1 i.toNat (0:Nat),.c fun _=>nI u1 i.toNat (1:Nat),.c fun _=>nI u1 i.toNat (5:Nat),.c fun _=>nI u1 i.toNat (7:Nat),.c fun _=>nL u1 i.toNat (2:Nat),.c fun _=>nL u1 i.toNat (3:Nat),.c fun _=>nL u1 i.toNat (4:Nat),.c fun _=>nR u1 i.toNat (6:Nat)]⟩
abbrev jjT (u3:ByteArray) (u1:List (List NC)) (i r:Int):Lp (Unit × Unit × Unit × Int × Nat) Int (Unit ⊕ Unit) Int Int :=
 ⟨fun z=>z.2.2.2.1,fun z=>z.2.2.2.2,fun z x n=>((),(),(),x,n),fun z=>jtA u1 i,fun z=>jjP u1 i,fun z=>top r,fun z=>0,[.c fun _=>0,.c fun vv=>vv.2.2.2.1,.c fun _=>nS u1 i.toNat (0:Nat),.c fun _=>nI u1 i.toNat (1:Nat),.c fun _=>nI u1 i.toNat (5:Nat),.c fun _=>nI u1 i.toNat (7:Nat),.c fun _=>nL u1 i.toNat (2:Nat),.c fun _=>nL u1 i.toNat (3:Nat),.c fun _=>nL u1 i.toNat (4:Nat),.c fun _=>nR u1 i.toNat (6:Nat)]⟩
abbrev jjU (u3:ByteArray) (u1:List (List NC)) (i r:Int):Lp (Unit × Unit × Unit × Unit × Int × Nat) Int (Unit ⊕ Unit) Int Int :=
 ⟨fun z=>z.2.2.2.2.1,fun z=>z.2.2.2.2.2,fun z x n=>((),(),(),(),x,n),fun z=>jqq u1 i,fun z=>jeJ u1 i,fun z=>top r,fun z=>0,[.c fun _=>0,.c fun vv=>vv.2.2.2.2.1,.c fun _=>nS u1 i.toNat (0:Nat),.c fun _=>nI u1 i.toNat (1:Nat),.c fun _=>nI u1 i.toNat (5:Nat),.c fun _=>nI u1 i.toNat (7:Nat),.c fun _=>nL u1 i.toNat (2:Nat),.c fun _=>nL u1 i.toNat (3:Nat),.c fun _=>nL u1 i.toNat (4:Nat),.c fun _=>nR u1 i.toNat (6:Nat)]⟩
def jtB (u3:ByteArray) (u1:List (List NC)) (i r:Int):Sk (top r) (zb (jae (jqq u1 i) big (0:Int)) (jeJ u1 i)) :=
 .loop (jjU u3 u1 i r) (fun kk=>((),(),(),(),0,big)) fun z0 =>
 .br
 (.ob (.ob (.call (.brB
 (.exit (.obT (.rc)))
 (.next)))))
 (.exit (.call (.brB
 (.obT (.rc))
 (.brB
 (.brB
 (.obT (.rc))
 (.brB
 (.br
 (.obT (.rc))
 (.obT (.rc)))
 (.call (.obT (.rc)))))
 (.brB
 (.br
 (.obT (.rc))
 (.obT (.rc)))
 (.call (.obT (.rc))))))))
def jtC (u3:ByteArray) (u1:List (List NC)) (i r:Int):Sk (top r) (zb (jae (jqn u1 i) big (0:Int)) (y228 u1 i)) :=
 .loop (jjS u3 u1 i r) (fun kk=>((),(),0,big)) fun z0 =>
 .br
 (.ob (.ob (.ob (.call (.brB
 (.exit (.obT (.rc)))
 (.next))))))
 (.exit (.loop (jjT u3 u1 i r) (fun kk=>((),(),(),0,big)) fun z0 =>
 .br
 (.ob (.ob (.call (.brB
 (.exit (.obT (.rc)))
 (.next)))))
 (.exit (jtB u3 u1 i r))))
def y76 (u3:ByteArray) (u1:List (List NC)) (i r:Int):Sk (top r) (zb (jae (y13 u1 i) big (0:Int)) (y31 u1 i)) :=
 .loop (jjR u3 u1 i r) (fun kk=>((),0,big)) fun z0 =>
 .br
 (.ob (.ob (.call (.brB
 (.exit (.obT (.rc)))
 (.next)))))
 (.exit (.call (.brB
 (.obT (.rc))
 (jtC u3 u1 i r))))
def jtD (u3:ByteArray) (u1:List (List NC)) (i r:Int):Sk (top r) (y178 u1 i ()) :=
 .call (.brB
 (.obT (.rc))
 (.brB
 (.brB
 (.brB
 (.call (.brB
 (.obT (.rc))
 (.brB
 (.obT (.rc))
 (.brB
 (.obT (.rc))
 (y76 u3 u1 i r)))))
 (.call (.brB
 (.obT (.rc))
 (.brB
 (.obT (.rc))
 (.brB
 (.obT (.rc))
 (y76 u3 u1 i r))))))
 (.brB
 (.call (.brB
 (.obT (.rc))
 (.brB
 (.obT (.rc))
 (.brB
 (.obT (.rc))
 (y76 u3 u1 i r)))))
 (.call (.brB
 (.obT (.rc))
 (.brB
 (.obT (.rc))
 (.brB
 (.obT (.rc))
 (y76 u3 u1 i r)))))))
 (.brB
 (.brB
 (.call (.brB
 (.obT (.rc))
 (.brB
 (.obT (.rc))
 (.brB
 (.obT (.rc))
 (y76 u3 u1 i r)))))
 (.call (.brB
 (.obT (.rc))
 (.brB
 (.obT (.rc))
 (.brB
 (.obT (.rc))
 (y76 u3 u1 i r))))))
 (.brB
 (.call (.brB
 (.obT (.rc))
 (.brB
 (.obT (.rc))
 (.brB
 (.obT (.rc))
 (y76 u3 u1 i r)))))
 (.call (.brB
 (.obT (.rc))
 (.brB
 (.obT (.rc))
 (.brB
 (.obT (.rc))
 (y76 u3 u1 i r)))))))))
def jvY (u3:ByteArray) (u1:List (List NC)) (i r:Int):Sk (top r) (jqs u3 u1 i) :=
 .ob (.ob (.call (.brB
 (.obT (.rc))
 (.brB
 (.obT (.rc))
 (.loop (jjQ u3 u1 i r) (fun kk=>((0:Int),big)) fun z0 =>
 .br
 (.ob (.ob (.brB
 (.exit (.obT (.rc)))
 (.next))))
 (.exit (jtD u3 u1 i r)))))))
def jtE (u3:ByteArray) (u1:List (List NC)) (i r:Int) (h:zb (jqs u3 u1 i) some=some r):jaG Tryz.f82 ((sp_81 (sp_48 (sp_45 (sp_131 sp0))))) (fun gs id _=>match id with
 |0=>some ⟨Int × Nat,fun z=>⟨[(1,.w (.c (.d (.i .i64 i)))),(2,.w (.c (.p 1 0 1 0))),(5,.w (.c (.p 2 0 1 0))),(6,.w (.c (.d (.i .i64 z.1))))],[(1,.box 24 [.d (.s u3),.o 0]),(2,.box 118 [.d (.s (nS u1 i.toNat (0:Nat))),.d (.i .i64 (nI u1 i.toNat (1:Nat))),.o 3,.o 4,.o 5,.d (.i .i64 (nI u1 i.toNat (5:Nat))),.o 6,.d (.i .i64 (nI u1 i.toNat (7:Nat)))]),(0,.xext (XC.st zS u1)),(3,.ext (.ints .i64 (nL u1 i.toNat (2:Nat)))),(4,.ext (.ints .i64 (nL u1 i.toNat (3:Nat)))),(5,.ext (.ints .i64 (nL u1 i.toNat (4:Nat)))),(6,.ext (.recs 5 (nR u1 i.toNat (6:Nat))))],7⟩,fun z=>(jjQ u3 u1 i r).inv z,fun z=>z.2⟩
 |2=>some ⟨Unit × Int × Nat,fun z=>⟨[(2,.w (.c (.p 1 0 1 0))),(5,.w (.c (.p 2 0 1 0))),(10,.w (.c (.d (.i .i64 z.2.1))))],[(1,.box 24 [.d (.s u3),.o 0]),(2,.box 118 [.d (.s (nS u1 i.toNat (0:Nat))),.d (.i .i64 (nI u1 i.toNat (1:Nat))),.o 3,.o 4,.o 5,.d (.i .i64 (nI u1 i.toNat (5:Nat))),.o 6,.d (.i .i64 (nI u1 i.toNat (7:Nat)))]),(0,.xext (XC.st zS u1)),(3,.ext (.ints .i64 (nL u1 i.toNat (2:Nat)))),(4,.ext (.ints .i64 (nL u1 i.toNat (3:Nat)))),(5,.ext (.ints .i64 (nL u1 i.toNat (4:Nat)))),(6,.ext (.recs 5 (nR u1 i.toNat (6:Nat))))],7⟩,fun z=>(jjR u3 u1 i r).inv z,fun z=>z.2.2⟩
 |4=>some ⟨Unit × Unit × Int × Nat,fun z=>⟨[(5,.w (.c (.p 1 0 1 0))),(11,.w (.c (.d (.i .i64 z.2.2.1))))],[(1,.box 118 [.d (.s (nS u1 i.toNat (0:Nat))),.d (.i .i64 (nI u1 i.toNat (1:Nat))),.o 2,.o 3,.o 4,.d (.i .i64 (nI u1 i.toNat (5:Nat))),.o 5,.d (.i .i64 (nI u1 i.toNat (7:Nat)))]),(2,.ext (.ints .i64 (nL u1 i.toNat (2:Nat)))),(3,.ext (.ints .i64 (nL u1 i.toNat (3:Nat)))),(4,.ext (.ints .i64 (nL u1 i.toNat (4:Nat)))),(5,.ext (.recs 5 (nR u1 i.toNat (6:Nat))))],6⟩,fun z=>(jjS u3 u1 i r).inv z,fun z=>z.2.2.2⟩
 |6=>some ⟨Unit × Unit × Unit × Int × Nat,fun z=>⟨[(5,.w (.c (.p 1 0 1 0))),(12,.w (.c (.d (.i .i64 z.2.2.2.1))))],[(1,.box 118 [.d (.s (nS u1 i.toNat (0:Nat))),.d (.i .i64 (nI u1 i.toNat (1:Nat))),.o 2,.o 3,.o 4,.d (.i .i64 (nI u1 i.toNat (5:Nat))),.o 5,.d (.i .i64 (nI u1 i.toNat (7:Nat)))]),(2,.ext (.ints .i64 (nL u1 i.toNat (2:Nat)))),(3,.ext (.ints .i64 (nL u1 i.toNat (3:Nat)))),(4,.ext (.ints .i64 (nL u1 i.toNat (4:Nat)))),(5,.ext (.recs 5 (nR u1 i.toNat (6:Nat))))],6⟩,fun z=>(jjT u3 u1 i r).inv z,fun z=>z.2.2.2.2⟩
 |8=>some ⟨Unit × Unit × Unit × Unit × Int × Nat,fun z=>⟨[(5,.w (.c (.p 1 0 1 0))),(13,.w (.c (.d (.i .i64 z.2.2.2.2.1))))],[(1,.box 118 [.d (.s (nS u1 i.toNat (0:Nat))),.d (.i .i64 (nI u1 i.toNat (1:Nat))),.o 2,.o 3,.o 4,.d (.i .i64 (nI u1 i.toNat (5:Nat))),.o 5,.d (.i .i64 (nI u1 i.toNat (7:Nat)))]),(2,.ext (.ints .i64 (nL u1 i.toNat (2:Nat)))),(3,.ext (.ints .i64 (nL u1 i.toNat (3:Nat)))),(4,.ext (.ints .i64 (nL u1 i.toNat (4:Nat)))),(5,.ext (.recs 5 (nR u1 i.toNat (6:Nat))))],6⟩,fun z=>(jjU u3 u1 i r).inv z,fun z=>z.2.2.2.2.2⟩
 |_=>none) (jaC jfP [.d (.s u3),.x (.st zS u1),.d (.i .i64 i)]) [.c (.d (.i .i64 r))] :=
 Sk.vc (jvY u3 u1 i r) (by kernel_rfl) h
def jtF:jaf Tryz.prog 82 true (jah jfP jfQ):=by
 refine jal (sp:=(sp_81 (sp_48 (sp_45 (sp_131 sp0))))) (fn:=Tryz.f82) (body:=bodyOf Tryz.f82) mixed (sp_81_ok (sp_48_ok (sp_45_ok (sp_131_ok jaj)))) Tryz.func82 (by kernel_rfl) (by kernel_rfl) fun ls t h ho b hb=>?_;unfold jfQ at h;split at h
 ·rename_i u3 u1 i;cases h;obtain rfl:=jap hb;exact⟨zh (by kernel_rfl),_,_,jtE u3 u1 i _ (jai ho)⟩
 ·cases h
def sp_82_ok {sp:jaa} (h:jab Tryz.prog sp):jab Tryz.prog (sp_82 sp):=jag jtF h
end Go.Sh
end

section
namespace Go.Sh
open Go Go.Proofs Go.RowKit Go.Sx
open Go.IntKind (wrap)
def y256:List SV:=[.a [.d,.x (.st zS [])]]
def y90 (u3:ByteArray) (u1:List (List NC)) (x0:Int):Option (Int ⊕ ((Int × Int) ⊕ Unit)) :=
 if x0<(↑u1.length:Int)then
  zb (jqs u3 u1 x0) fun r1 =>
  if(r1 != 0)=true then
  some (.inr ((.inl (x0,r1))))
  else
  some (.inl (wrap .i64 (x0+1)))
 else
  some (.inr ((.inr ())))
def jlP (u4:Int × Int):Option (Int × Int) :=
 some (u4.1,u4.2)
def jlQ (u9:Unit):Option (Int × Int) :=
 some (((0:Int),0))
def jgm:((Int × Int) ⊕ Unit)->Option (Int × Int) :=
 (qC (jlP) (jlQ))
def y77 (u3:ByteArray) (u1:List (List NC)):Option (Int × Int) :=
 zb (jiW u3) fun r0 =>
 if(!r0)=true then
  some (((0:Int),4))
 else
  if(↑u1.length:Int)>24 then
  some (((0:Int),8))
  else
  zb (jae (y90 u3 u1) big (0:Int)) (jgm)
def y257:List Lf->Option GT
 |[.d (.s u3),.x (.st [.s,.i .i64,.ints .i64,.ints .i64,.ints .i64,.i .i64,.recs 5,.i .i64] u1)]=>some (.leaf (ok (y77 u3 u1)) [.c (.d (.i .i64 ((val (y77 u3 u1)).1))),.c (.d (.i .i64 ((val (y77 u3 u1)).2)))])
 |_=>none
abbrev sp_21:jaa->jaa:=jan 21 true (jah y256 y257)
abbrev jgn (u3:ByteArray) (u1:List (List NC)) (r:Int × Int):Lp (Int × Nat) Int (((Int × Int) ⊕ Unit)) (Int × Int) (Int × Int) :=
 ⟨fun z=>z.1,fun z=>z.2,fun z x n=>(x,n),fun z=>y90 u3 u1,fun z=>jgm,fun z=>top r,fun z=>0,[.c fun _=>0,.c fun vv=>vv.1,.c fun _=>u3,.c fun _=>u1]⟩
def jqt (u3:ByteArray) (u1:List (List NC)) (r:Int × Int):Sk (top r) (y77 u3 u1) :=
 .call (.brB
 (.obT (.obT (.rc)))
 (.br
 (.obT (.obT (.rc)))
 (.loop (jgn u3 u1 r) (fun kk=>((0:Int),big)) fun z0 =>
 .br
 (.call (.brB
 (.exit (.obT (.obT (.rc))))
 (.next)))
 (.exit (.obT (.obT (.rc)))))))
def joH (u3:ByteArray) (u1:List (List NC)) (r:Int × Int) (h:zb (y77 u3 u1) some=some r):jaG Tryz.f21 ((sp_81 (sp_82 sp0))) (fun gs id _=>match id with
 |0=>some ⟨Int × Nat,fun z=>⟨[(1,.w (.c (.p 1 0 1 0))),(4,.w (.c (.d (.i .i64 z.1))))],[(1,.box 24 [.d (.s u3),.o 0]),(0,.xext (XC.st zS u1))],2⟩,fun z=>(jgn u3 u1 r).inv z,fun z=>z.2⟩
 |_=>none) (jaC y256 [.d (.s u3),.x (.st zS u1)]) [.c (.d (.i .i64 r.1)),.c (.d (.i .i64 r.2))] :=
 Sk.vc (jqt u3 u1 r) (by kernel_rfl) h
def joI:jaf Tryz.prog 21 true (jah y256 y257):=by
 refine jal (sp:=(sp_81 (sp_82 sp0))) (fn:=Tryz.f21) (body:=bodyOf Tryz.f21) mixed (sp_81_ok (sp_82_ok jaj)) Tryz.func21 (by kernel_rfl) (by kernel_rfl) fun ls t h ho b hb=>?_;unfold y257 at h;split at h
 ·rename_i u3 u1;cases h;obtain rfl:=jap hb;exact⟨zh (by kernel_rfl),_,_,joH u3 u1 _ (jai ho)⟩
 ·cases h
def sp_21_ok {sp:jaa} (h:jab Tryz.prog sp):jab Tryz.prog (sp_21 sp):=jag joI h
def jiX:List SV:=[.a [.d,.d,.r (.ints .i64 []),.r (.ints .i64 []),.r (.ints .i64 []),.d,.r (.recs 5 []),.d],.c (.d)]
def jdo (u27:ByteArray) (u22:Int) (u25 u24 u19:List Int) (u23:Int) (u28:List (List Int)) (u29 u59:Int):Option Bool :=
 zb (jfr u25 u59) fun r0 =>
 if(r0)=true then
  some true
 else
  some (u29==u59)
def jiY:List Lf->Option GT
 |[.d (.s u27),.d (.i .i64 u22),.r (.ints .i64 u25),.r (.ints .i64 u24),.r (.ints .i64 u19),.d (.i .i64 u23),.r (.recs 5 u28),.d (.i .i64 u29),.d (.i .i64 u59)]=>some (.leaf (ok (jdo u27 u22 u25 u24 u19 u23 u28 u29 u59)) [.c (.d (.b ((val (jdo u27 u22 u25 u24 u19 u23 u28 u29 u59)))))])
 |_=>none
abbrev sp_87:jaa->jaa:=jan 87 true (jah jiX jiY)
def jzL (u27:ByteArray) (u22:Int) (u25 u24 u19:List Int) (u23:Int) (u28:List (List Int)) (u29 u59:Int) (r:Bool):Sk (top r) (jdo u27 u22 u25 u24 u19 u23 u28 u29 u59) :=
 .call (.brB
 (.obT (.rc))
 (.obT (.rc)))
def jxZ (u27:ByteArray) (u22:Int) (u25 u24 u19:List Int) (u23:Int) (u28:List (List Int)) (u29 u59:Int) (r:Bool) (h:zb (jdo u27 u22 u25 u24 u19 u23 u28 u29 u59) some=some r):jaG Tryz.f87 ((sp_48 sp0)) (fun _ _ _=>none) (jaC jiX [.d (.s u27),.d (.i .i64 u22),.r (.ints .i64 u25),.r (.ints .i64 u24),.r (.ints .i64 u19),.d (.i .i64 u23),.r (.recs 5 u28),.d (.i .i64 u29),.d (.i .i64 u59)]) [.c (.d (.b r))] :=
 Sk.vc (jzL u27 u22 u25 u24 u19 u23 u28 u29 u59 r) (by kernel_rfl) h
def jx0:jaf Tryz.prog 87 true (jah jiX jiY):=by
 refine jal (sp:=(sp_48 sp0)) (fn:=Tryz.f87) (body:=bodyOf Tryz.f87) mixed (sp_48_ok jaj) Tryz.func87 (by kernel_rfl) (by kernel_rfl) fun ls t h ho b hb=>?_;unfold jiY at h;split at h
 ·rename_i u27 u22 u25 u24 u19 u23 u28 u29 u59;cases h;obtain rfl:=jap hb;exact⟨zh (by kernel_rfl),_,_,jxZ u27 u22 u25 u24 u19 u23 u28 u29 u59 _ (jai ho)⟩
 ·cases h
def sp_87_ok {sp:jaa} (h:jab Tryz.prog sp):jab Tryz.prog (sp_87 sp):=jag jx0 h
def jiZ:List SV:=[.a [.d,.x (.st zS [])],.c (.r (.ints .i64 [])),.c (.d)]
def jtG (u1:List (List NC)) (u55:List Int) (u42 x0:Int):Option (Int ⊕ (Unit ⊕ Unit)) :=
 if x0<(↑u1.length:Int)then
  if 0<=u42∧u42<(↑u1.length:Int)then
  if zg u42<ze u1 then
   zb (jdo (nS u1 u42.toNat (0:Nat)) (nI u1 u42.toNat (1:Nat)) (nL u1 u42.toNat (2:Nat)) (nL u1 u42.toNat (3:Nat)) (nL u1 u42.toNat (4:Nat)) (nI u1 u42.toNat (5:Nat)) (nR u1 u42.toNat (6:Nat)) (nI u1 u42.toNat (7:Nat)) x0) fun r0 =>
   if(r0)=true then
   zb (jfr u55 x0) fun r1 =>
   if(!r1)=true then
    some (.inr ((.inl ())))
   else
    some (.inl (wrap .i64 (x0+1)))
   else
   some (.inl (wrap .i64 (x0+1)))
  else none
  else none
 else
  some (.inr ((.inr ())))
def jtH (u4:Unit):Option Bool :=
 some false
def jtI (u9:Unit):Option Bool :=
 some true
def jmZ:(Unit ⊕ Unit)->Option Bool :=
 (qC (jtH) (jtI))
def jdp (u3:ByteArray) (u1:List (List NC)) (u55:List Int) (u42:Int):Option Bool :=
 zb (jae (jtG u1 u55 u42) big (0:Int)) (jmZ)
def ji0:List Lf->Option GT
 |[.d (.s u3),.x (.st [.s,.i .i64,.ints .i64,.ints .i64,.ints .i64,.i .i64,.recs 5,.i .i64] u1),.r (.ints .i64 u55),.d (.i .i64 u42)]=>some (.leaf (ok (jdp u3 u1 u55 u42)) [.c (.d (.b ((val (jdp u3 u1 u55 u42)))))])
 |_=>none
abbrev sp_83:jaa->jaa:=jan 83 true (jah jiZ ji0)
abbrev jm0 (u3:ByteArray) (u1:List (List NC)) (u55:List Int) (u42:Int) (r:Bool):Lp (Int × Nat) Int (Unit ⊕ Unit) Bool Bool :=
 ⟨fun z=>z.1,fun z=>z.2,fun z x n=>(x,n),fun z=>jtG u1 u55 u42,fun z=>jmZ,fun z=>top r,fun z=>0,[.c fun _=>u42,.c fun _=>0,.c fun vv=>vv.1,.c fun _=>u55,.c fun _=>u3,.c fun _=>u1]⟩
def jzM (u3:ByteArray) (u1:List (List NC)) (u55:List Int) (u42:Int) (r:Bool):Sk (top r) (jdp u3 u1 u55 u42) :=
 .loop (jm0 u3 u1 u55 u42 r) (fun kk=>((0:Int),big)) fun z0 =>
 .br
 (.ob (.ob (.call (.brB
 (.call (.brB
 (.exit (.obT (.rc)))
 (.next)))
 (.next)))))
 (.exit (.obT (.rc)))
def jx1 (u3:ByteArray) (u1:List (List NC)) (u55:List Int) (u42:Int) (r:Bool) (h:zb (jdp u3 u1 u55 u42) some=some r):jaG Tryz.f83 ((sp_87 (sp_48 sp0))) (fun gs id _=>match id with
 |0=>some ⟨Int × Nat,fun z=>⟨[(1,.w (.c (.o 1))),(2,.w (.c (.d (.i .i64 u42)))),(3,.w (.c (.p 2 0 1 0))),(7,.w (.c (.d (.i .i64 z.1))))],[(1,.ext (.ints .i64 u55)),(2,.box 24 [.d (.s u3),.o 0]),(0,.xext (XC.st zS u1))],3⟩,fun z=>(jm0 u3 u1 u55 u42 r).inv z,fun z=>z.2⟩
 |_=>none) (jaC jiZ [.d (.s u3),.x (.st zS u1),.r (.ints .i64 u55),.d (.i .i64 u42)]) [.c (.d (.b r))] :=
 Sk.vc (jzM u3 u1 u55 u42 r) (by kernel_rfl) h
def jx2:jaf Tryz.prog 83 true (jah jiZ ji0):=by
 refine jal (sp:=(sp_87 (sp_48 sp0))) (fn:=Tryz.f83) (body:=bodyOf Tryz.f83) mixed (sp_87_ok (sp_48_ok jaj)) Tryz.func83 (by kernel_rfl) (by kernel_rfl) fun ls t h ho b hb=>?_;unfold ji0 at h;split at h
 ·rename_i u3 u1 u55 u42;cases h;obtain rfl:=jap hb;exact⟨zh (by kernel_rfl),_,_,jx1 u3 u1 u55 u42 _ (jai ho)⟩
 ·cases h
def sp_83_ok {sp:jaa} (h:jab Tryz.prog sp):jab Tryz.prog (sp_83 sp):=jag jx2 h
def ji1:List SV:=[.a [.d,.x (.st zS [])]]
def jqu (u3:ByteArray) (u1:List (List NC)) (x0:List Int) (x1:(Int × Int)):Option ((Int × Int) ⊕ Int) :=
 if x1.2>=0 then
  zb (jfr x0 x1.2) fun r0 =>
  if(!r0)=true then
  zb (jdp u3 u1 x0 x1.2) fun r1 =>
  if(r1)=true then
   some (.inl ((x1.2,wrap .i64 (x1.2-1))))
  else
   some (.inl ((x1.1,wrap .i64 (x1.2-1))))
  else
  some (.inl ((x1.1,wrap .i64 (x1.2-1))))
 else
  some (.inr x1.1)
def jhh (x0:List Int) (u26:Int):Option ((List Int) ⊕ (Unit ⊕ (List Int))) :=
 if u26<0 then
  some (.inr ((.inl ())))
 else
  if(ze x0+ze [u26])*8<=140737488355328∧ze x0+ze [u26]<=9223372036854775807 then
  some (.inl (x0++[u26]))
  else none
def jtJ (u3:ByteArray) (u1:List (List NC)) (x0:(List Int)):Option ((List Int) ⊕ (Unit ⊕ (List Int))) :=
 if(↑x0.length:Int)<(↑u1.length:Int)then
  zb (jae (jqu u3 u1 x0) big (((-1:Int),wrap .i64 ((↑u1.length:Int)-1)))) (jhh x0)
 else
  some (.inr (.inr x0))
def jtK (u4:Unit):Option (List Int × Bool) :=
 some ([],false)
def jtL (u9:List Int):Option (List Int × Bool) :=
 some (u9,true)
def jhi:(Unit ⊕ (List Int))->Option (List Int × Bool) :=
 (qC (jtK) (jtL))
def jm1 (u3:ByteArray) (u1:List (List NC)):Option (List Int × Bool) :=
 zb (jae (jtJ u3 u1) big []) (jhi)
def ji2:List Lf->Option GT
 |[.d (.s u3),.x (.st [.s,.i .i64,.ints .i64,.ints .i64,.ints .i64,.i .i64,.recs 5,.i .i64] u1)]=>some (.leaf (ok (jm1 u3 u1)) [.c (.row 3 (.ints .i64 ((val (jm1 u3 u1)).1))),.c (.d (.b ((val (jm1 u3 u1)).2)))])
 |_=>none
abbrev sp_23:jaa->jaa:=jan 23 true (jah ji1 ji2)
abbrev jhj (u3:ByteArray) (u1:List (List NC)) (r:List Int × Bool):Lp (List Int × Nat) (List Int) ((Unit ⊕ (List Int))) (List Int × Bool) (List Int × Bool) :=
 ⟨fun z=>z.1,fun z=>z.2,fun z x n=>(x,n),fun z=>jtJ u3 u1,fun z=>jhi,fun z=>top r,fun z=>0,[.c fun _=>0,.c fun _=>u3,.c fun vv=>vv.1,.c fun _=>u1]⟩
abbrev jm2 (u3:ByteArray) (u1:List (List NC)) (r:List Int × Bool) (m1:Nat):Lp (List Int × Nat × (Int × Int) × Nat) (Int × Int) Int (((List Int) ⊕ (Unit ⊕ (List Int)))) (List Int × Bool) :=
 ⟨fun z=>z.2.2.1,fun z=>z.2.2.2,fun z x n=>(z.1,z.2.1,x,n),fun z=>jqu u3 u1 z.1,fun z=>jhh z.1,fun z=>(jhj u3 u1 r).cx (z.1,m1),fun z=>z.2.1,[.c fun _=>0,.c fun vv=>vv.2.2.1.1,.c fun vv=>vv.2.2.1.2,.c fun _=>u3,.c fun vv=>vv.1,.c fun _=>u1]⟩
def jx3 (u3:ByteArray) (u1:List (List NC)) (r:List Int × Bool):Sk (top r) (zb (jae (jtJ u3 u1) big []) (jhi)) :=
 .loopQ (jhj u3 u1 r) [.c fun _=>0,.c fun _=>u3,.p fun vv=>ze vv.1=(0:Nat),.c fun _=>u1] (fun kk=>([],big)) (fun z0 =>
 .br
 (.loop (jm2 u3 u1 r z0.2) (fun kk=>(z0.1,kk,((-1:Int),wrap .i64 ((↑u1.length:Int)-1)),big)) fun z1 =>
 .br
 (.call (.brB
 (.call (.brB
 (.next)
 (.next)))
 (.next)))
 (.exit (.br
 (.exit (.obT (.obT (.ret (fun r=>(Ob (ze r.1=(0:Nat)) ∧
 (Ob (false=r.2) ∧
 True))) ⟨⟨rfl⟩,⟨⟨rfl⟩,trivial⟩⟩))))
 (.ob (.next)))))
 (.exit (.obT (.obT (.rc))))) (fun _=>⟨rfl,trivial⟩)
def jzN (u3:ByteArray) (u1:List (List NC)) (r:List Int × Bool):Sk (top r) (jm1 u3 u1) :=
 jx3 u3 u1 r
def jx4 (u3:ByteArray) (u1:List (List NC)) (r:List Int × Bool) (h:zb (jm1 u3 u1) some=some r):jaG Tryz.f23 ((sp_48 (sp_83 sp0))) (fun gs id _=>match id with
 |0=>some ⟨List Int × Nat,fun z=>⟨[(1,.w (.c (.p 1 0 1 0))),(4,.w (.c (.o 2)))],[(1,.box 24 [.d (.s u3),.o 0]),(2,.row 3 (.ints .i64 z.1)),(0,.xext (XC.st zS u1))],3⟩,fun z=>(jhj u3 u1 r).inv z,fun z=>z.2⟩
 |2=>some ⟨List Int × Nat × (Int × Int) × Nat,fun z=>⟨[(1,.w (.c (.p 1 0 1 0))),(4,.w (.c (.o 2))),(5,.w (.c (.d (.i .i64 z.2.2.1.1)))),(6,.w (.c (.d (.i .i64 z.2.2.1.2))))],[(1,.box 24 [.d (.s u3),.o 0]),(2,.row 3 (.ints .i64 z.1)),(0,.xext (XC.st zS u1))],3⟩,fun z=>(jm2 u3 u1 r (gs.getD 0 0)).inv z,fun z=>z.2.2.2⟩
 |_=>none) (jaC ji1 [.d (.s u3),.x (.st zS u1)]) [.c (.row 3 (.ints .i64 r.1)),.c (.d (.b r.2))] :=
 Sk.vc (jzN u3 u1 r) (by kernel_rfl) h
def jx5:jaf Tryz.prog 23 true (jah ji1 ji2):=by
 refine jal (sp:=(sp_48 (sp_83 sp0))) (fn:=Tryz.f23) (body:=bodyOf Tryz.f23) mixed (sp_48_ok (sp_83_ok jaj)) Tryz.func23 (by kernel_rfl) (by kernel_rfl) fun ls t h ho b hb=>?_;unfold ji2 at h;split at h
 ·rename_i u3 u1;cases h;obtain rfl:=jap hb;exact⟨zh (by kernel_rfl),_,_,jx4 u3 u1 _ (jai ho)⟩
 ·cases h
def sp_23_ok {sp:jaa} (h:jab Tryz.prog sp):jab Tryz.prog (sp_23 sp):=jag jx5 h
def jeL:List SV:=[.a [.d,.x (.st zS [])]]
def jqv (u3:ByteArray) (u1:List (List NC)):Option Int :=
 zb (y77 u3 u1) fun r0 =>
 if(r0.2 != 0)=true then
  some r0.2
 else
  zb (jm1 u3 u1) fun r1 =>
  if(!r1.2)=true then
  some (19:Int)
  else
  some (0:Int)
def jeM:List Lf->Option GT
 |[.d (.s u3),.x (.st [.s,.i .i64,.ints .i64,.ints .i64,.ints .i64,.i .i64,.recs 5,.i .i64] u1)]=>some (.leaf (ok (jqv u3 u1)) [.c (.d (.i .i64 ((val (jqv u3 u1)))))])
 |_=>none
abbrev sp_22:jaa->jaa:=jan 22 true (jah jeL jeM)
def jtM (u3:ByteArray) (u1:List (List NC)) (r:Int):Sk (top r) (jqv u3 u1) :=
 .call (.brB
 (.obT (.rc))
 (.call (.brB
 (.obT (.rc))
 (.obT (.rc)))))
def jr9 (u3:ByteArray) (u1:List (List NC)) (r:Int) (h:zb (jqv u3 u1) some=some r):jaG Tryz.f22 ((sp_21 (sp_23 sp0))) (fun _ _ _=>none) (jaC jeL [.d (.s u3),.x (.st zS u1)]) [.c (.d (.i .i64 r))] :=
 Sk.vc (jtM u3 u1 r) (by kernel_rfl) h
def jsa:jaf Tryz.prog 22 true (jah jeL jeM):=by
 refine jal (sp:=(sp_21 (sp_23 sp0))) (fn:=Tryz.f22) (body:=bodyOf Tryz.f22) mixed (sp_21_ok (sp_23_ok jaj)) Tryz.func22 (by kernel_rfl) (by kernel_rfl) fun ls t h ho b hb=>?_;unfold jeM at h;split at h
 ·rename_i u3 u1;cases h;obtain rfl:=jap hb;exact⟨zh (by kernel_rfl),_,_,jr9 u3 u1 _ (jai ho)⟩
 ·cases h
def sp_22_ok {sp:jaa} (h:jab Tryz.prog sp):jab Tryz.prog (sp_22 sp):=jag jsa h
end Go.Sh
end

section
namespace Go.Sh
open Go Go.Proofs Go.RowKit Go.Sx
open Go.IntKind (wrap)
def jvm:List (Option Cont):=[some (.ints .i64 [])]
def jtN (l:List Int) (x0:Int):Option (Int ⊕ (Int ⊕ Unit)) :=
 if x0<(↑l.length:Int)then
  if 0<=x0∧x0<(↑l.length:Int)then
  if zg x0<ze l then
   if(za l x0.toNat (0:Int)!=0)=true then
   some (.inr ((.inl (za l x0.toNat (0:Int)))))
   else
   some (.inl (wrap .i64 (x0+1)))
  else none
  else none
 else
  some (.inr ((.inr ())))
def jx6 (u4:Int):Option Int :=
 some u4
def jx7 (u9:Unit):Option Int :=
 some (0:Int)
def jsb:(Int ⊕ Unit)->Option Int :=
 (qC (jx6) (jx7))
def jeN (l:List Int):Option Int :=
 zb (jae (jtN l) big (0:Int)) (jsb)
def jm3:List A->Option (Prop × List RV)
 |[.r (.ints .i64 l)]=>some (ok (jeN l),[.d (.i .i64 ((val (jeN l))))])
 |_=>none
abbrev sp_76:jaa->jaa:=jan 76 true (jar jvm jm3)
abbrev jsc (l:List Int) (r:Int):Lp (Int × Nat) Int (Int ⊕ Unit) Int Int :=
 ⟨fun z=>z.1,fun z=>z.2,fun z x n=>(x,n),fun z=>jtN l,fun z=>jsb,fun z=>top r,fun z=>0,[.c fun _=>(↑l.length:Int),.c fun vv=>vv.1,.c fun _=>l]⟩
def jDK (l:List Int) (r:Int):Sk (top r) (jeN l) :=
 .loop (jsc l r) (fun kk=>((0:Int),big)) fun z0 =>
 .br
 (.ob (.ob (.brB
 (.exit (.obT (.rc)))
 (.next))))
 (.exit (.obT (.rc)))
def jB4 (l:List Int) (r:Int) (h:zb (jeN l) some=some r):ja1 Tryz.f76 (sp0) (fun gs id _=>match id with
 |0=>some ⟨Int × Nat,fun z=>⟨[(5,.w (.c (.o 0))),(6,.w (.c (.d (.i .i64 ((↑l.length:Int)))))),(7,.w (.c (.d (.i .i64 z.1))))],[(0,.ext (.ints .i64 l))],1⟩,fun z=>(jsc l r).inv z,fun z=>z.2⟩
 |_=>none) [.r (.ints .i64 l)] [.d (.i .i64 r)] :=
 Sk.vc (jDK l r) (by kernel_rfl) h
def jB5:jaf Tryz.prog 76 true (jar jvm jm3):=by
 refine jaA (sp:=sp0) (fn:=Tryz.f76) (body:=bodyOf Tryz.f76) mixed jaj Tryz.func76 (by kernel_rfl) (by kernel_rfl) fun as_ ob rs h ho=>?_;unfold jm3 at h;split at h
 ·rename_i l;cases h;exact⟨zh rfl,_,_,jB4 l _ (jai ho)⟩
 ·cases h
def sp_76_ok {sp:jaa} (h:jab Tryz.prog sp):jab Tryz.prog (sp_76 sp):=jag jB5 h
def jsd:List (Option Cont):=[none]
def jqw (s:ByteArray) (x0:Int):Option (Int ⊕ (Unit ⊕ Unit)) :=
 if x0<(↑(xT s):Int)then
  if 0<=x0∧x0<(↑(xT s):Int)then
  if(↑(qA (qI (qf s) x0.toNat (0:UInt8))):Int)>=97 then
   if(↑(qA (qI (qf s) x0.toNat (0:UInt8))):Int)<=122 then
   some (.inl (wrap .i64 (x0+1)))
   else
   if(↑(qA (qI (qf s) x0.toNat (0:UInt8))):Int)>=65 then
    if(!decide ((↑(qA (qI (qf s) x0.toNat (0:UInt8))):Int)<=90))=true then
    if(x0==0)=true then
     some (.inr ((.inl ())))
    else
     if((↑(qA (qI (qf s) x0.toNat (0:UInt8))):Int)!=45)=true then
     if(↑(qA (qI (qf s) x0.toNat (0:UInt8))):Int)<48 then
      some (.inr ((.inl ())))
     else
      if(↑(qA (qI (qf s) x0.toNat (0:UInt8))):Int)>57 then
      some (.inr ((.inl ())))
      else
      some (.inl (wrap .i64 (x0+1)))
     else
     some (.inl (wrap .i64 (x0+1)))
    else
    some (.inl (wrap .i64 (x0+1)))
   else
    if(x0==0)=true then
    some (.inr ((.inl ())))
    else
    if((↑(qA (qI (qf s) x0.toNat (0:UInt8))):Int)!=45)=true then
     if(↑(qA (qI (qf s) x0.toNat (0:UInt8))):Int)<48 then
     some (.inr ((.inl ())))
     else
     if(↑(qA (qI (qf s) x0.toNat (0:UInt8))):Int)>57 then
      some (.inr ((.inl ())))
     else
      some (.inl (wrap .i64 (x0+1)))
    else
     some (.inl (wrap .i64 (x0+1)))
  else
   if(↑(qA (qI (qf s) x0.toNat (0:UInt8))):Int)>=65 then
   if(!decide ((↑(qA (qI (qf s) x0.toNat (0:UInt8))):Int)<=90))=true then
    if(x0==0)=true then
    some (.inr ((.inl ())))
    else
    if((↑(qA (qI (qf s) x0.toNat (0:UInt8))):Int)!=45)=true then
     if(↑(qA (qI (qf s) x0.toNat (0:UInt8))):Int)<48 then
     some (.inr ((.inl ())))
     else
     if(↑(qA (qI (qf s) x0.toNat (0:UInt8))):Int)>57 then
      some (.inr ((.inl ())))
     else
      some (.inl (wrap .i64 (x0+1)))
    else
     some (.inl (wrap .i64 (x0+1)))
   else
    some (.inl (wrap .i64 (x0+1)))
   else
   if(x0==0)=true then
    some (.inr ((.inl ())))
   else
    if((↑(qA (qI (qf s) x0.toNat (0:UInt8))):Int)!=45)=true then
    if(↑(qA (qI (qf s) x0.toNat (0:UInt8))):Int)<48 then
     some (.inr ((.inl ())))
    else
     if(↑(qA (qI (qf s) x0.toNat (0:UInt8))):Int)>57 then
     some (.inr ((.inl ())))
     else
     some (.inl (wrap .i64 (x0+1)))
    else
    some (.inl (wrap .i64 (x0+1)))
  else none
 else
  some (.inr ((.inr ())))
def jvZ (s:ByteArray) (u4:Unit):Option Bool :=
 some false
def jv0 (s:ByteArray) (u9:Unit):Option Bool :=
 if(s != qD #[])=true then
  some (decide ((↑(xT s):Int)<=12))
 else
  some false
def ji3 (s:ByteArray):(Unit ⊕ Unit)->Option Bool :=
 (qC (jvZ s) (jv0 s))
def jhk (s:ByteArray):Option Bool :=
 zb (jae (jqw s) big (0:Int)) (ji3 s)
def jk3:List A->Option (Prop × List RV)
 |[.d (.s s)]=>some (ok (jhk s),[.d (.b ((val (jhk s))))])
 |_=>none
abbrev sp_78:jaa->jaa:=jan 78 true (jar jsd jk3)
abbrev jpD (s:ByteArray) (r:Bool):Lp (Int × Nat) Int (Unit ⊕ Unit) Bool Bool :=
 ⟨fun z=>z.1,fun z=>z.2,fun z x n=>(x,n),fun z=>jqw s,fun z=>ji3 s,fun z=>top r,fun z=>0,[.c fun _=>s,.c fun _=>(↑(xT s):Int),.c fun vv=>vv.1]⟩
def jzO (s:ByteArray) (r:Bool):Sk (top r) (zb (jae (jqw s) big (0:Int)) (ji3 s)) :=
 .loop (jpD s r) (fun kk=>((0:Int),big)) fun z0 =>
 .br
 (.ob (.br
 (.br
 (.next)
 (.br
 (.brB
 (.brB
 (.exit (.obT (.rc)))
 (.brB
 (.br
 (.exit (.obT (.rc)))
 (.br
 (.exit (.obT (.rc)))
 (.next)))
 (.next)))
 (.next))
 (.brB
 (.exit (.obT (.rc)))
 (.brB
 (.br
 (.exit (.obT (.rc)))
 (.br
 (.exit (.obT (.rc)))
 (.next)))
 (.next)))))
 (.br
 (.brB
 (.brB
 (.exit (.obT (.rc)))
 (.brB
 (.br
 (.exit (.obT (.rc)))
 (.br
 (.exit (.obT (.rc)))
 (.next)))
 (.next)))
 (.next))
 (.brB
 (.exit (.obT (.rc)))
 (.brB
 (.br
 (.exit (.obT (.rc)))
 (.br
 (.exit (.obT (.rc)))
 (.next)))
 (.next))))))
 (.exit (.brB
 (.obT (.rc))
 (.obT (.rc))))
def jB6 (s:ByteArray) (r:Bool):Sk (top r) (jhk s) :=
 jzO s r
def jzP (s:ByteArray) (r:Bool) (h:zb (jhk s) some=some r):ja1 Tryz.f78 (sp0) (fun gs id _=>match id with
 |0=>some ⟨Int × Nat,fun z=>⟨[(0,.w (.c (.d (.s s)))),(7,.w (.c (.d (.i .i64 ((↑(xT s):Int)))))),(8,.w (.c (.d (.i .i64 z.1))))],[],1⟩,fun z=>(jpD s r).inv z,fun z=>z.2⟩
 |_=>none) [.d (.s s)] [.d (.b r)] :=
 Sk.vc (jB6 s r) (by kernel_rfl) h
def jzQ:jaf Tryz.prog 78 true (jar jsd jk3):=by
 refine jaA (sp:=sp0) (fn:=Tryz.f78) (body:=bodyOf Tryz.f78) mixed jaj Tryz.func78 (by kernel_rfl) (by kernel_rfl) fun as_ ob rs h ho=>?_;unfold jk3 at h;split at h
 ·rename_i s;cases h;exact⟨zh rfl,_,_,jzP s _ (jai ho)⟩
 ·cases h
def sp_78_ok {sp:jaa} (h:jab Tryz.prog sp):jab Tryz.prog (sp_78 sp):=jag jzQ h
def jfR:List SV:=[.c (.d),.c (.p [.d,.x (.st zS [])])]
def jk4 (n:Int) (u49:ByteArray) (u60:List (List NC)):Option Bool :=
 zb (y47 n (0:Int) (wrap .i64 ((↑u60.length:Int)-1))) fun r0 =>
 some r0
def jfS:List Lf->Option GT
 |[.d (.i .i64 n),.d (.s u49),.x (.st [.s,.i .i64,.ints .i64,.ints .i64,.ints .i64,.i .i64,.recs 5,.i .i64] u60)]=>some (.leaf (ok (jk4 n u49 u60)) [.c (.d (.b ((val (jk4 n u49 u60)))))])
 |_=>none
abbrev sp_122:jaa->jaa:=jan 122 true (jah jfR jfS)
def jv1 (n:Int) (u49:ByteArray) (u60:List (List NC)) (r:Bool):Sk (top r) (jk4 n u49 u60) :=
 .obT (.call (.obT (.rc)))
def jtO (n:Int) (u49:ByteArray) (u60:List (List NC)) (r:Bool) (h:zb (jk4 n u49 u60) some=some r):jaG Tryz.f122 ((sp_84 sp0)) (fun _ _ _=>none) (jaC jfR [.d (.i .i64 n),.d (.s u49),.x (.st zS u60)]) [.c (.d (.b r))] :=
 Sk.vc (jv1 n u49 u60 r) (by kernel_rfl) h
def jtP:jaf Tryz.prog 122 true (jah jfR jfS):=by
 refine jal (sp:=(sp_84 sp0)) (fn:=Tryz.f122) (body:=bodyOf Tryz.f122) mixed (sp_84_ok jaj) Tryz.func122 (by kernel_rfl) (by kernel_rfl) fun ls t h ho b hb=>?_;unfold jfS at h;split at h
 ·rename_i n u49 u60;cases h;obtain rfl:=jap hb;exact⟨zh (by kernel_rfl),_,_,jtO n u49 u60 _ (jai ho)⟩
 ·cases h
def sp_122_ok {sp:jaa} (h:jab Tryz.prog sp):jab Tryz.prog (sp_122 sp):=jag jtP h
def jfT:List SV:=[.c (.d),.c (.p [.f 122 [.p [.d,.x (.st zS [])]]])]
def jqx (n:Int) (u61:ByteArray) (u62:List (List NC)):Option Bool :=
 zb (jk4 n u61 u62) fun r0 =>
 some !r0
def jfU:List Lf->Option GT
 |[.d (.i .i64 n),.d (.s u61),.x (.st [.s,.i .i64,.ints .i64,.ints .i64,.ints .i64,.i .i64,.recs 5,.i .i64] u62)]=>some (.leaf (ok (jqx n u61 u62)) [.c (.d (.b ((val (jqx n u61 u62)))))])
 |_=>none
abbrev sp_124:jaa->jaa:=jan 124 true (jah jfT jfU)
def jv2 (n:Int) (u61:ByteArray) (u62:List (List NC)) (r:Bool):Sk (top r) (jqx n u61 u62) :=
 .obT (.call (.obT (.rc)))
def jtQ (n:Int) (u61:ByteArray) (u62:List (List NC)) (r:Bool) (h:zb (jqx n u61 u62) some=some r):jaG Tryz.f124 ((sp_122 sp0)) (fun _ _ _=>none) (jaC jfT [.d (.i .i64 n),.d (.s u61),.x (.st zS u62)]) [.c (.d (.b r))] :=
 Sk.vc (jv2 n u61 u62 r) (by kernel_rfl) h
def jtR:jaf Tryz.prog 124 true (jah jfT jfU):=by
 refine jal (sp:=(sp_122 sp0)) (fn:=Tryz.f124) (body:=bodyOf Tryz.f124) mixed (sp_122_ok jaj) Tryz.func124 (by kernel_rfl) (by kernel_rfl) fun ls t h ho b hb=>?_;unfold jfU at h;split at h
 ·rename_i n u61 u62;cases h;obtain rfl:=jap hb;exact⟨zh (by kernel_rfl),_,_,jtQ n u61 u62 _ (jai ho)⟩
 ·cases h
def sp_124_ok {sp:jaa} (h:jab Tryz.prog sp):jab Tryz.prog (sp_124 sp):=jag jtR h
def y124:List SV:=[.c (.r (.ints .i64 [])),.c (.f 124 [.p [.f 122 [.p [.d,.x (.st zS [])]]]])]
def y34 (s:List Int) (u43:ByteArray) (u44:List (List NC)) (x0:Int):Option (Int ⊕ (Int ⊕ Unit)) :=
 if x0<(↑s.length:Int)then
  if 0<=x0∧x0<(↑s.length:Int)then
  if zg x0<ze s then
   zb (jqx (za s x0.toNat (0:Int)) u43 u44) fun r0 =>
   if(r0)=true then
   some (.inr (.inl x0))
   else
   some (.inl (wrap .i64 (x0+1)))
  else none
  else none
 else
  some (.inr ((.inr ())))
def y300 (u4:Int):Option Int :=
 some u4
def y301 (u9:Unit):Option Int :=
 some (-1:Int)
def y172:(Int ⊕ Unit)->Option Int :=
 (qC (y300) (y301))
def y32 (s:List Int) (u43:ByteArray) (u44:List (List NC)):Option Int :=
 zb (jae (y34 s u43 u44) big (0:Int)) (y172)
def y125:List Lf->Option GT
 |[.r (.ints .i64 s),.d (.s u43),.x (.st [.s,.i .i64,.ints .i64,.ints .i64,.ints .i64,.i .i64,.recs 5,.i .i64] u44)]=>some (.leaf (ok (y32 s u43 u44)) [.c (.d (.i .i64 ((val (y32 s u43 u44)))))])
 |_=>none
abbrev sp_156_124:jaa->jaa:=jan 156 true (jah y124 y125)
abbrev y173 (s:List Int) (u43:ByteArray) (u44:List (List NC)) (r:Int):Lp (Int × Nat) Int (Int ⊕ Unit) Int Int :=
 ⟨fun z=>z.1,fun z=>z.2,fun z x n=>(x,n),fun z=>y34 s u43 u44,fun z=>y172,fun z=>top r,fun z=>0,[.c fun _=>(↑s.length:Int),.c fun vv=>vv.1,.c fun _=>s,.c fun _=>u43,.c fun _=>u44]⟩
def y328 (s:List Int) (u43:ByteArray) (u44:List (List NC)) (r:Int):Sk (top r) (y32 s u43 u44) :=
 .loop (y173 s u43 u44 r) (fun kk=>((0:Int),big)) fun z0 =>
 .br
 (.ob (.ob (.call (.brB
 (.exit (.obT (.rc)))
 (.next)))))
 (.exit (.obT (.rc)))
def y317 (s:List Int) (u43:ByteArray) (u44:List (List NC)) (r:Int) (h:zb (y32 s u43 u44) some=some r):jaG Tryz.f156 ((sp_124 (sp_122 sp0))) (fun gs id _=>match id with
 |0=>some ⟨Int × Nat,fun z=>⟨[(0,.w (.c (.o 0))),(1,.w (.c (.fn 124 [3]))),(7,.w (.c (.d (.i .i64 ((↑s.length:Int)))))),(8,.w (.c (.d (.i .i64 z.1))))],[(0,.ext (.ints .i64 s)),(3,.ebox [.fn 122 [2]]),(2,.ebox [.d (.s u43),.o 1]),(1,.xext (XC.st zS u44))],4⟩,fun z=>(y173 s u43 u44 r).inv z,fun z=>z.2⟩
 |_=>none) (jaC y124 [.r (.ints .i64 s),.d (.s u43),.x (.st zS u44)]) [.c (.d (.i .i64 r))] :=
 Sk.vc (y328 s u43 u44 r) (by kernel_rfl) h
def y318:jaf Tryz.prog 156 true (jah y124 y125):=by
 refine jal (sp:=(sp_124 (sp_122 sp0))) (fn:=Tryz.f156) (body:=bodyOf Tryz.f156) mixed (sp_124_ok (sp_122_ok jaj)) Tryz.func156 (by kernel_rfl) (by kernel_rfl) fun ls t h ho b hb=>?_;unfold y125 at h;split at h
 ·rename_i s u43 u44;cases h;obtain rfl:=jap hb;exact⟨zh (by kernel_rfl),_,_,y317 s u43 u44 _ (jai ho)⟩
 ·cases h
def sp_156_124_ok {sp:jaa} (h:jab Tryz.prog sp):jab Tryz.prog (sp_156_124 sp):=jag y318 h
def y97:List SV:=[.c (.r (.ints .i64 [])),.c (.f 124 [.p [.f 122 [.p [.d,.x (.st zS [])]]]])]
def y11 (s:List Int) (u43:ByteArray) (u44:List (List NC)):Option Bool :=
 zb (y32 s u43 u44) fun r0 =>
 some (decide (r0>=0))
def y98:List Lf->Option GT
 |[.r (.ints .i64 s),.d (.s u43),.x (.st [.s,.i .i64,.ints .i64,.ints .i64,.ints .i64,.i .i64,.recs 5,.i .i64] u44)]=>some (.leaf (ok (y11 s u43 u44)) [.c (.d (.b ((val (y11 s u43 u44)))))])
 |_=>none
abbrev sp_123_124:jaa->jaa:=jan 123 true (jah y97 y98)
def y302 (s:List Int) (u43:ByteArray) (u44:List (List NC)) (r:Bool):Sk (top r) (y11 s u43 u44) :=
 .call (.obT (.rc))
def y272 (s:List Int) (u43:ByteArray) (u44:List (List NC)) (r:Bool) (h:zb (y11 s u43 u44) some=some r):jaG Tryz.f123 ((sp_156_124 (sp_124 (sp_122 sp0)))) (fun _ _ _=>none) (jaC y97 [.r (.ints .i64 s),.d (.s u43),.x (.st zS u44)]) [.c (.d (.b r))] :=
 Sk.vc (y302 s u43 u44 r) (by kernel_rfl) h
def y273:jaf Tryz.prog 123 true (jah y97 y98):=by
 refine jal (sp:=(sp_156_124 (sp_124 (sp_122 sp0)))) (fn:=Tryz.f123) (body:=bodyOf Tryz.f123) mixed (sp_156_124_ok (sp_124_ok (sp_122_ok jaj))) Tryz.func123 (by kernel_rfl) (by kernel_rfl) fun ls t h ho b hb=>?_;unfold y98 at h;split at h
 ·rename_i s u43 u44;cases h;obtain rfl:=jap hb;exact⟨zh (by kernel_rfl),_,_,y272 s u43 u44 _ (jai ho)⟩
 ·cases h
def sp_123_124_ok {sp:jaa} (h:jab Tryz.prog sp):jab Tryz.prog (sp_123_124 sp):=jag y273 h
def jfV:List SV:=[.a [.d,.d,.r (.ints .i64 []),.r (.ints .i64 []),.r (.ints .i64 []),.d,.r (.recs 5 []),.d],.c (.p [.d,.d,.r (.ints .i64 []),.r (.ints .i64 []),.r (.ints .i64 []),.d,.r (.recs 5 []),.d])]
def jqy (u63:ByteArray) (u64:Int) (u65 u66 u67:List Int) (u68:Int) (u69:List (List Int)) (u70:Int) (u49:ByteArray) (u71:Int) (u72 u73 u74:List Int) (u75:Int) (u76:List (List Int)) (u77:Int):Option Bool :=
 some (u63==u49)
def jfW:List Lf->Option GT
 |[.d (.s u63),.d (.i .i64 u64),.r (.ints .i64 u65),.r (.ints .i64 u66),.r (.ints .i64 u67),.d (.i .i64 u68),.r (.recs 5 u69),.d (.i .i64 u70),.d (.s u49),.d (.i .i64 u71),.r (.ints .i64 u72),.r (.ints .i64 u73),.r (.ints .i64 u74),.d (.i .i64 u75),.r (.recs 5 u76),.d (.i .i64 u77)]=>some (.leaf (ok (jqy u63 u64 u65 u66 u67 u68 u69 u70 u49 u71 u72 u73 u74 u75 u76 u77)) [.c (.d (.b ((val (jqy u63 u64 u65 u66 u67 u68 u69 u70 u49 u71 u72 u73 u74 u75 u76 u77)))))])
 |_=>none
abbrev sp_126:jaa->jaa:=jan 126 true (jah jfV jfW)
def jv3 (u63:ByteArray) (u64:Int) (u65 u66 u67:List Int) (u68:Int) (u69:List (List Int)) (u70:Int) (u49:ByteArray) (u71:Int) (u72 u73 u74:List Int) (u75:Int) (u76:List (List Int)) (u77:Int) (r:Bool):Sk (top r) (jqy u63 u64 u65 u66 u67 u68 u69 u70 u49 u71 u72 u73 u74 u75 u76 u77) :=
 .obT (.obT (.rc))
def jtS (u63:ByteArray) (u64:Int) (u65 u66 u67:List Int) (u68:Int) (u69:List (List Int)) (u70:Int) (u49:ByteArray) (u71:Int) (u72 u73 u74:List Int) (u75:Int) (u76:List (List Int)) (u77:Int) (r:Bool) (h:zb (jqy u63 u64 u65 u66 u67 u68 u69 u70 u49 u71 u72 u73 u74 u75 u76 u77) some=some r):jaG Tryz.f126 (sp0) (fun _ _ _=>none) (jaC jfV [.d (.s u63),.d (.i .i64 u64),.r (.ints .i64 u65),.r (.ints .i64 u66),.r (.ints .i64 u67),.d (.i .i64 u68),.r (.recs 5 u69),.d (.i .i64 u70),.d (.s u49),.d (.i .i64 u71),.r (.ints .i64 u72),.r (.ints .i64 u73),.r (.ints .i64 u74),.d (.i .i64 u75),.r (.recs 5 u76),.d (.i .i64 u77)]) [.c (.d (.b r))] :=
 Sk.vc (jv3 u63 u64 u65 u66 u67 u68 u69 u70 u49 u71 u72 u73 u74 u75 u76 u77 r) (by kernel_rfl) h
def jtT:jaf Tryz.prog 126 true (jah jfV jfW):=by
 refine jal (sp:=sp0) (fn:=Tryz.f126) (body:=bodyOf Tryz.f126) mixed jaj Tryz.func126 (by kernel_rfl) (by kernel_rfl) fun ls t h ho b hb=>?_;unfold jfW at h;split at h
 ·rename_i u63 u64 u65 u66 u67 u68 u69 u70 u49 u71 u72 u73 u74 u75 u76 u77;cases h;obtain rfl:=jap hb;exact⟨zh (by kernel_rfl),_,_,jtS u63 u64 u65 u66 u67 u68 u69 u70 u49 u71 u72 u73 u74 u75 u76 u77 _ (jai ho)⟩
 ·cases h
def sp_126_ok {sp:jaa} (h:jab Tryz.prog sp):jab Tryz.prog (sp_126 sp):=jag jtT h
def y65:List SV:=[.c (.x (.st zS [])),.c (.f 126 [.p [.d,.d,.r (.ints .i64 []),.r (.ints .i64 []),.r (.ints .i64 []),.d,.r (.recs 5 []),.d]])]
def y9 (s:List (List NC)) (u34:ByteArray) (u35:Int) (u36 u37 u38:List Int) (u39:Int) (u40:List (List Int)) (u41 x0:Int):Option (Int ⊕ (Int ⊕ Unit)) :=
 if x0<(↑s.length:Int)then
  if 0<=x0∧x0<(↑s.length:Int)then
  if zg x0<ze s then
   zb (jqy (nS s x0.toNat (0:Nat)) (nI s x0.toNat (1:Nat)) (nL s x0.toNat (2:Nat)) (nL s x0.toNat (3:Nat)) (nL s x0.toNat (4:Nat)) (nI s x0.toNat (5:Nat)) (nR s x0.toNat (6:Nat)) (nI s x0.toNat (7:Nat)) u34 u35 u36 u37 u38 u39 u40 u41) fun r0 =>
   if(r0)=true then
   some (.inr (.inl x0))
   else
   some (.inl (wrap .i64 (x0+1)))
  else none
  else none
 else
  some (.inr ((.inr ())))
def y207 (u4:Int):Option Int :=
 some u4
def y208 (u9:Unit):Option Int :=
 some (-1:Int)
def y57:(Int ⊕ Unit)->Option Int :=
 (qC (y207) (y208))
def y16 (s:List (List NC)) (u34:ByteArray) (u35:Int) (u36 u37 u38:List Int) (u39:Int) (u40:List (List Int)) (u41:Int):Option Int :=
 zb (jae (y9 s u34 u35 u36 u37 u38 u39 u40 u41) big (0:Int)) (y57)
def y66:List Lf->Option GT
 |[.x (.st [.s,.i .i64,.ints .i64,.ints .i64,.ints .i64,.i .i64,.recs 5,.i .i64] s),.d (.s u34),.d (.i .i64 u35),.r (.ints .i64 u36),.r (.ints .i64 u37),.r (.ints .i64 u38),.d (.i .i64 u39),.r (.recs 5 u40),.d (.i .i64 u41)]=>some (.leaf (ok (y16 s u34 u35 u36 u37 u38 u39 u40 u41)) [.c (.d (.i .i64 ((val (y16 s u34 u35 u36 u37 u38 u39 u40 u41)))))])
 |_=>none
abbrev sp_157_126:jaa->jaa:=jan 157 true (jah y65 y66)
abbrev y130 (s:List (List NC)) (u34:ByteArray) (u35:Int) (u36 u37 u38:List Int) (u39:Int) (u40:List (List Int)) (u41 r:Int):Lp (Int × Nat) Int (Int ⊕ Unit) Int Int :=
 ⟨fun z=>z.1,fun z=>z.2,fun z x n=>(x,n),fun z=>y9 s u34 u35 u36 u37 u38 u39 u40 u41,fun z=>y57,fun z=>top r,fun z=>0,[.c fun _=>(↑s.length:Int),.c fun vv=>vv.1,.c fun _=>s,.c fun _=>u34,.c fun _=>u35,.c fun _=>u39,.c fun _=>u41,.c fun _=>u36,.c fun _=>u37,.c fun _=>u38,.c fun _=>u40]⟩
def y234 (s:List (List NC)) (u34:ByteArray) (u35:Int) (u36 u37 u38:List Int) (u39:Int) (u40:List (List Int)) (u41 r:Int):Sk (top r) (zb (jae (y9 s u34 u35 u36 u37 u38 u39 u40 u41) big (0:Int)) (y57)) :=
 .loop (y130 s u34 u35 u36 u37 u38 u39 u40 u41 r) (fun kk=>((0:Int),big)) fun z0 =>
 .br
 (.ob (.ob (.call (.brB
 (.exit (.obT (.rc)))
 (.next)))))
 (.exit (.obT (.rc)))
def y249 (s:List (List NC)) (u34:ByteArray) (u35:Int) (u36 u37 u38:List Int) (u39:Int) (u40:List (List Int)) (u41 r:Int):Sk (top r) (y16 s u34 u35 u36 u37 u38 u39 u40 u41) :=
 y234 s u34 u35 u36 u37 u38 u39 u40 u41 r
def y235 (s:List (List NC)) (u34:ByteArray) (u35:Int) (u36 u37 u38:List Int) (u39:Int) (u40:List (List Int)) (u41 r:Int) (h:zb (y16 s u34 u35 u36 u37 u38 u39 u40 u41) some=some r):jaG Tryz.f157 ((sp_126 sp0)) (fun gs id _=>match id with
 |0=>some ⟨Int × Nat,fun z=>⟨[(0,.w (.c (.o 0))),(1,.w (.c (.fn 126 [5]))),(7,.w (.c (.d (.i .i64 ((↑s.length:Int)))))),(8,.w (.c (.d (.i .i64 z.1))))],[(0,.xext (XC.st zS s)),(5,.ebox [.d (.s u34),.d (.i .i64 u35),.o 1,.o 2,.o 3,.d (.i .i64 u39),.o 4,.d (.i .i64 u41)]),(1,.ext (.ints .i64 u36)),(2,.ext (.ints .i64 u37)),(3,.ext (.ints .i64 u38)),(4,.ext (.recs 5 u40))],6⟩,fun z=>(y130 s u34 u35 u36 u37 u38 u39 u40 u41 r).inv z,fun z=>z.2⟩
 |_=>none) (jaC y65 [.x (.st zS s),.d (.s u34),.d (.i .i64 u35),.r (.ints .i64 u36),.r (.ints .i64 u37),.r (.ints .i64 u38),.d (.i .i64 u39),.r (.recs 5 u40),.d (.i .i64 u41)]) [.c (.d (.i .i64 r))] :=
 Sk.vc (y249 s u34 u35 u36 u37 u38 u39 u40 u41 r) (by kernel_rfl) h
def y236:jaf Tryz.prog 157 true (jah y65 y66):=by
 refine jal (sp:=(sp_126 sp0)) (fn:=Tryz.f157) (body:=bodyOf Tryz.f157) mixed (sp_126_ok jaj) Tryz.func157 (by kernel_rfl) (by kernel_rfl) fun ls t h ho b hb=>?_;unfold y66 at h;split at h
 ·rename_i s u34 u35 u36 u37 u38 u39 u40 u41;cases h;obtain rfl:=jap hb;exact⟨zh (by kernel_rfl),_,_,y235 s u34 u35 u36 u37 u38 u39 u40 u41 _ (jai ho)⟩
 ·cases h
def sp_157_126_ok {sp:jaa} (h:jab Tryz.prog sp):jab Tryz.prog (sp_157_126 sp):=jag y236 h
def y49:List SV:=[.c (.x (.st zS [])),.c (.f 126 [.p [.d,.d,.r (.ints .i64 []),.r (.ints .i64 []),.r (.ints .i64 []),.d,.r (.recs 5 []),.d]])]
def y6 (s:List (List NC)) (u34:ByteArray) (u35:Int) (u36 u37 u38:List Int) (u39:Int) (u40:List (List Int)) (u41:Int):Option Bool :=
 zb (y16 s u34 u35 u36 u37 u38 u39 u40 u41) fun r0 =>
 some (decide (r0>=0))
def y50:List Lf->Option GT
 |[.x (.st [.s,.i .i64,.ints .i64,.ints .i64,.ints .i64,.i .i64,.recs 5,.i .i64] s),.d (.s u34),.d (.i .i64 u35),.r (.ints .i64 u36),.r (.ints .i64 u37),.r (.ints .i64 u38),.d (.i .i64 u39),.r (.recs 5 u40),.d (.i .i64 u41)]=>some (.leaf (ok (y6 s u34 u35 u36 u37 u38 u39 u40 u41)) [.c (.d (.b ((val (y6 s u34 u35 u36 u37 u38 u39 u40 u41)))))])
 |_=>none
abbrev sp_125_126:jaa->jaa:=jan 125 true (jah y49 y50)
def y209 (s:List (List NC)) (u34:ByteArray) (u35:Int) (u36 u37 u38:List Int) (u39:Int) (u40:List (List Int)) (u41:Int) (r:Bool):Sk (top r) (y6 s u34 u35 u36 u37 u38 u39 u40 u41) :=
 .call (.obT (.rc))
def y200 (s:List (List NC)) (u34:ByteArray) (u35:Int) (u36 u37 u38:List Int) (u39:Int) (u40:List (List Int)) (u41:Int) (r:Bool) (h:zb (y6 s u34 u35 u36 u37 u38 u39 u40 u41) some=some r):jaG Tryz.f125 ((sp_157_126 (sp_126 sp0))) (fun _ _ _=>none) (jaC y49 [.x (.st zS s),.d (.s u34),.d (.i .i64 u35),.r (.ints .i64 u36),.r (.ints .i64 u37),.r (.ints .i64 u38),.d (.i .i64 u39),.r (.recs 5 u40),.d (.i .i64 u41)]) [.c (.d (.b r))] :=
 Sk.vc (y209 s u34 u35 u36 u37 u38 u39 u40 u41 r) (by kernel_rfl) h
def y201:jaf Tryz.prog 125 true (jah y49 y50):=by
 refine jal (sp:=(sp_157_126 (sp_126 sp0))) (fn:=Tryz.f125) (body:=bodyOf Tryz.f125) mixed (sp_157_126_ok (sp_126_ok jaj)) Tryz.func125 (by kernel_rfl) (by kernel_rfl) fun ls t h ho b hb=>?_;unfold y50 at h;split at h
 ·rename_i s u34 u35 u36 u37 u38 u39 u40 u41;cases h;obtain rfl:=jap hb;exact⟨zh (by kernel_rfl),_,_,y200 s u34 u35 u36 u37 u38 u39 u40 u41 _ (jai ho)⟩
 ·cases h
def sp_125_126_ok {sp:jaa} (h:jab Tryz.prog sp):jab Tryz.prog (sp_125_126 sp):=jag y201 h
def y319:List (Option Cont):=[some (.ints .i64 []),none]
def y22 (s:List Int) (v x0:Int):Option (Int ⊕ (Int ⊕ Unit)) :=
 if x0<(↑s.length:Int)then
  if 0<=x0∧x0<(↑s.length:Int)then
  if zg x0<ze s then
   if(v==za s x0.toNat (0:Int))=true then
   some (.inr (.inl x0))
   else
   some (.inl (wrap .i64 (x0+1)))
  else none
  else none
 else
  some (.inr ((.inr ())))
def jjV (u4:Int):Option Int :=
 some u4
def jjW (u9:Unit):Option Int :=
 some (-1:Int)
def y310:(Int ⊕ Unit)->Option Int :=
 (qC (jjV) (jjW))
def y37 (s:List Int) (v:Int):Option Int :=
 zb (jae (y22 s v) big (0:Int)) (y310)
def y210:List A->Option (Prop × List RV)
 |[.r (.ints .i64 s),.d (.i .i64 v)]=>some (ok (y37 s v),[.d (.i .i64 ((val (y37 s v))))])
 |_=>none
abbrev sp_134:jaa->jaa:=jan 134 true (jar y319 y210)
abbrev y311 (s:List Int) (v r:Int):Lp (Int × Nat) Int (Int ⊕ Unit) Int Int :=
 ⟨fun z=>z.1,fun z=>z.2,fun z x n=>(x,n),fun z=>y22 s v,fun z=>y310,fun z=>top r,fun z=>0,[.c fun _=>v,.c fun _=>(↑s.length:Int),.c fun vv=>vv.1,.c fun _=>s]⟩
def jm4 (s:List Int) (v r:Int):Sk (top r) (y37 s v) :=
 .loop (y311 s v r) (fun kk=>((0:Int),big)) fun z0 =>
 .br
 (.ob (.ob (.brB
 (.exit (.obT (.rc)))
 (.next))))
 (.exit (.obT (.rc)))
def jlR (s:List Int) (v r:Int) (h:zb (y37 s v) some=some r):ja1 Tryz.f134 (sp0) (fun gs id _=>match id with
 |0=>some ⟨Int × Nat,fun z=>⟨[(0,.w (.c (.o 0))),(1,.w (.c (.d (.i .i64 v)))),(7,.w (.c (.d (.i .i64 ((↑s.length:Int)))))),(8,.w (.c (.d (.i .i64 z.1))))],[(0,.ext (.ints .i64 s))],2⟩,fun z=>(y311 s v r).inv z,fun z=>z.2⟩
 |_=>none) [.r (.ints .i64 s),.d (.i .i64 v)] [.d (.i .i64 r)] :=
 Sk.vc (jm4 s v r) (by kernel_rfl) h
def jlS:jaf Tryz.prog 134 true (jar y319 y210):=by
 refine jaA (sp:=sp0) (fn:=Tryz.f134) (body:=bodyOf Tryz.f134) mixed jaj Tryz.func134 (by kernel_rfl) (by kernel_rfl) fun as_ ob rs h ho=>?_;unfold y210 at h;split at h
 ·rename_i s v;cases h;exact⟨zh rfl,_,_,jlR s v _ (jai ho)⟩
 ·cases h
def sp_134_ok {sp:jaa} (h:jab Tryz.prog sp):jab Tryz.prog (sp_134 sp):=jag jlS h
def y269:List (Option Cont):=[some (.ints .i64 []),none]
def y41 (s:List Int) (v:Int):Option Bool :=
 zb (y37 s v) fun r0 =>
 some (decide (r0>=0))
def y165:List A->Option (Prop × List RV)
 |[.r (.ints .i64 s),.d (.i .i64 v)]=>some (ok (y41 s v),[.d (.b ((val (y41 s v))))])
 |_=>none
abbrev sp_158:jaa->jaa:=jan 158 true (jar y269 y165)
def jjX (s:List Int) (v:Int) (r:Bool):Sk (top r) (y41 s v) :=
 .call (.obT (.rc))
def ji4 (s:List Int) (v:Int) (r:Bool) (h:zb (y41 s v) some=some r):ja1 Tryz.f158 ((sp_134 sp0)) (fun _ _ _=>none) [.r (.ints .i64 s),.d (.i .i64 v)] [.d (.b r)] :=
 Sk.vc (jjX s v r) (by kernel_rfl) h
def ji5:jaf Tryz.prog 158 true (jar y269 y165):=by
 refine jaA (sp:=(sp_134 sp0)) (fn:=Tryz.f158) (body:=bodyOf Tryz.f158) mixed (sp_134_ok jaj) Tryz.func158 (by kernel_rfl) (by kernel_rfl) fun as_ ob rs h ho=>?_;unfold y165 at h;split at h
 ·rename_i s v;cases h;exact⟨zh rfl,_,_,ji4 s v _ (jai ho)⟩
 ·cases h
def sp_158_ok {sp:jaa} (h:jab Tryz.prog sp):jab Tryz.prog (sp_158 sp):=jag ji5 h
def jpE:List (Option Cont):=[some (.ints .i64 [])]
def jtU (l:List Int) (x0:Int):Option (Int ⊕ (Unit ⊕ Unit)) :=
 if x0<(↑l.length:Int)then
  if 0<=x0∧x0<(↑l.length:Int)then
  if zg x0<ze l then
   if 0<=zM none (0:Int)∧zM none 0<=zM (some x0) (↑l.length:Int)∧zM (some x0) (↑l.length:Int)<=(↑l.length:Int)then
   zb (y41 (yH (zg (zM (some x0) (↑l.length:Int))-0) (yI (0:Nat) l)) (za l x0.toNat (0:Int))) fun r0 =>
   if(r0)=true then
    some (.inr ((.inl ())))
   else
    some (.inl (wrap .i64 (x0+1)))
   else none
  else none
  else none
 else
  some (.inr ((.inr ())))
def jtV (u4:Unit):Option Bool :=
 some true
def jtW (u9:Unit):Option Bool :=
 some false
def jm5:(Unit ⊕ Unit)->Option Bool :=
 (qC (jtV) (jtW))
def jm6 (l:List Int):Option Bool :=
 zb (jae (jtU l) big (0:Int)) (jm5)
def ji6:List A->Option (Prop × List RV)
 |[.r (.ints .i64 l)]=>some (ok (jm6 l),[.d (.b ((val (jm6 l))))])
 |_=>none
abbrev sp_128:jaa->jaa:=jan 128 true (jar jpE ji6)
abbrev jm7 (l:List Int) (r:Bool):Lp (Int × Nat) Int (Unit ⊕ Unit) Bool Bool :=
 ⟨fun z=>z.1,fun z=>z.2,fun z x n=>(x,n),fun z=>jtU l,fun z=>jm5,fun z=>top r,fun z=>0,[.c fun _=>(↑l.length:Int),.c fun vv=>vv.1,.c fun _=>l]⟩
def jzR (l:List Int) (r:Bool):Sk (top r) (jm6 l) :=
 .loop (jm7 l r) (fun kk=>((0:Int),big)) fun z0 =>
 .br
 (.ob (.ob (.ob (.call (.brB
 (.exit (.obT (.rc)))
 (.next))))))
 (.exit (.obT (.rc)))
def jx8 (l:List Int) (r:Bool) (h:zb (jm6 l) some=some r):ja1 Tryz.f128 ((sp_158 sp0)) (fun gs id _=>match id with
 |0=>some ⟨Int × Nat,fun z=>⟨[(0,.w (.c (.o 0))),(5,.w (.c (.o 0))),(6,.w (.c (.d (.i .i64 ((↑l.length:Int)))))),(7,.w (.c (.d (.i .i64 z.1))))],[(0,.ext (.ints .i64 l))],1⟩,fun z=>(jm7 l r).inv z,fun z=>z.2⟩
 |_=>none) [.r (.ints .i64 l)] [.d (.b r)] :=
 Sk.vc (jzR l r) (by kernel_rfl) h
def jx9:jaf Tryz.prog 128 true (jar jpE ji6):=by
 refine jaA (sp:=(sp_158 sp0)) (fn:=Tryz.f128) (body:=bodyOf Tryz.f128) mixed (sp_158_ok jaj) Tryz.func128 (by kernel_rfl) (by kernel_rfl) fun as_ ob rs h ho=>?_;unfold ji6 at h;split at h
 ·rename_i l;cases h;exact⟨zh rfl,_,_,jx8 l _ (jai ho)⟩
 ·cases h
def sp_128_ok {sp:jaa} (h:jab Tryz.prog sp):jab Tryz.prog (sp_128 sp):=jag jx9 h
def jm8:List (Option Cont):=[none]
def jk5 (n:Int):Option Bool :=
 zb (y47 n (0:Int) (64:Int)) fun r0 =>
 some r0
def jhl:List A->Option (Prop × List RV)
 |[.d (.i .i64 n)]=>some (ok (jk5 n),[.d (.b ((val (jk5 n))))])
 |_=>none
abbrev sp_159:jaa->jaa:=jan 159 true (jar jm8 jhl)
def jya (n:Int) (r:Bool):Sk (top r) (jk5 n) :=
 .call (.obT (.rc))
def jv4 (n:Int) (r:Bool) (h:zb (jk5 n) some=some r):ja1 Tryz.f159 ((sp_84 sp0)) (fun _ _ _=>none) [.d (.i .i64 n)] [.d (.b r)] :=
 Sk.vc (jya n r) (by kernel_rfl) h
def jv5:jaf Tryz.prog 159 true (jar jm8 jhl):=by
 refine jaA (sp:=(sp_84 sp0)) (fn:=Tryz.f159) (body:=bodyOf Tryz.f159) mixed (sp_84_ok jaj) Tryz.func159 (by kernel_rfl) (by kernel_rfl) fun as_ ob rs h ho=>?_;unfold jhl at h;split at h
 ·rename_i n;cases h;exact⟨zh rfl,_,_,jv4 n _ (jai ho)⟩
 ·cases h
def sp_159_ok {sp:jaa} (h:jab Tryz.prog sp):jab Tryz.prog (sp_159 sp):=jag jv5 h
def jk6:List SV:=[.a [.d,.d,.r (.ints .i64 []),.r (.ints .i64 []),.r (.ints .i64 []),.d,.r (.recs 5 []),.d]]
def jqz (u24:List Int) (x0:Int):Option (Int ⊕ (Unit ⊕ Unit)) :=
 if x0<(↑u24.length:Int)then
  if 0<=x0∧x0<(↑u24.length:Int)then
  if zg x0<ze u24 then
   zb (jk5 (za u24 x0.toNat (0:Int))) fun r0 =>
   if(!r0)=true then
   some (.inr ((.inl ())))
   else
   some (.inl (wrap .i64 (x0+1)))
  else none
  else none
 else
  some (.inr ((.inr ())))
def jv6 (u22:Int) (u19:List Int) (u23:Int) (u4:Unit):Option Bool :=
 some false
def jm9 (u19:List Int) (x1:Int):Option (Int ⊕ (Unit ⊕ Unit)) :=
 if x1<(↑u19.length:Int)then
  if 0<=x1∧x1<(↑u19.length:Int)then
  if zg x1<ze u19 then
   zb (jea (za u19 x1.toNat (0:Int)) (4000:Int)) fun r1 =>
   if(!r1)=true then
   some (.inr ((.inl ())))
   else
   some (.inl (wrap .i64 (x1+1)))
  else none
  else none
 else
  some (.inr ((.inr ())))
def jv7 (u22 u23:Int) (u26:Unit):Option Bool :=
 some false
def jv8 (u22 u23:Int) (u33:Unit):Option Bool :=
 zb (jk5 u23) fun r2 =>
 if(r2)=true then
  if(u22==2)=true then
  some true
  else
  some (u23==0)
 else
  some false
def jfs (u22 u23:Int):(Unit ⊕ Unit)->Option Bool :=
 (qC (jv7 u22 u23) (jv8 u22 u23))
def jv9 (u22:Int) (u19:List Int) (u23:Int) (u9:Unit):Option Bool :=
 zb (jae (jm9 u19) big (0:Int)) (jfs u22 u23)
def ji7 (u22:Int) (u19:List Int) (u23:Int):(Unit ⊕ Unit)->Option Bool :=
 (qC (jv6 u22 u19 u23) (jv9 u22 u19 u23))
def jdq (u27:ByteArray) (u22:Int) (u25 u24 u19:List Int) (u23:Int) (u28:List (List Int)) (u29:Int):Option Bool :=
 zb (jae (jqz u24) big (0:Int)) (ji7 u22 u19 u23)
def jk7:List Lf->Option GT
 |[.d (.s u27),.d (.i .i64 u22),.r (.ints .i64 u25),.r (.ints .i64 u24),.r (.ints .i64 u19),.d (.i .i64 u23),.r (.recs 5 u28),.d (.i .i64 u29)]=>some (.leaf (ok (jdq u27 u22 u25 u24 u19 u23 u28 u29)) [.c (.d (.b ((val (jdq u27 u22 u25 u24 u19 u23 u28 u29)))))])
 |_=>none
abbrev sp_129:jaa->jaa:=jan 129 true (jah jk6 jk7)
abbrev jpF (u27:ByteArray) (u22:Int) (u25 u24 u19:List Int) (u23:Int) (u28:List (List Int)) (u29:Int) (r:Bool):Lp (Int × Nat) Int (Unit ⊕ Unit) Bool Bool :=
 ⟨fun z=>z.1,fun z=>z.2,fun z x n=>(x,n),fun z=>jqz u24,fun z=>ji7 u22 u19 u23,fun z=>top r,fun z=>0,[.c fun _=>0,.c fun _=>(↑u24.length:Int),.c fun vv=>vv.1,.c fun _=>u27,.c fun _=>u22,.c fun _=>u23,.c fun _=>u29,.c fun _=>u24,.c fun _=>u25,.c fun _=>u19,.c fun _=>u28]⟩
abbrev jpG (u27:ByteArray) (u22:Int) (u25 u24 u19:List Int) (u23:Int) (u28:List (List Int)) (u29:Int) (r:Bool):Lp (Unit × Int × Nat) Int (Unit ⊕ Unit) Bool Bool :=
 ⟨fun z=>z.2.1,fun z=>z.2.2,fun z x n=>((),x,n),fun z=>jm9 u19,fun z=>jfs u22 u23,fun z=>top r,fun z=>0,[.c fun _=>0,.c fun _=>(↑u19.length:Int),.c fun vv=>vv.2.1,.c fun _=>u27,.c fun _=>u22,.c fun _=>u23,.c fun _=>u29,.c fun _=>u19,.c fun _=>u25,.c fun _=>u24,.c fun _=>u28]⟩
def jzS (u27:ByteArray) (u22:Int) (u25 u24 u19:List Int) (u23:Int) (u28:List (List Int)) (u29:Int) (r:Bool):Sk (top r) (zb (jae (jm9 u19) big (0:Int)) (jfs u22 u23)) :=
 .loop (jpG u27 u22 u25 u24 u19 u23 u28 u29 r) (fun kk=>((),0,big)) fun z0 =>
 .br
 (.ob (.ob (.call (.brB
 (.exit (.obT (.rc)))
 (.next)))))
 (.exit (.call (.brB
 (.brB
 (.obT (.rc))
 (.obT (.rc)))
 (.obT (.rc)))))
def jzT (u27:ByteArray) (u22:Int) (u25 u24 u19:List Int) (u23:Int) (u28:List (List Int)) (u29:Int) (r:Bool):Sk (top r) (zb (jae (jqz u24) big (0:Int)) (ji7 u22 u19 u23)) :=
 .loop (jpF u27 u22 u25 u24 u19 u23 u28 u29 r) (fun kk=>((0:Int),big)) fun z0 =>
 .br
 (.ob (.ob (.call (.brB
 (.exit (.obT (.rc)))
 (.next)))))
 (.exit (jzS u27 u22 u25 u24 u19 u23 u28 u29 r))
def jB7 (u27:ByteArray) (u22:Int) (u25 u24 u19:List Int) (u23:Int) (u28:List (List Int)) (u29:Int) (r:Bool):Sk (top r) (jdq u27 u22 u25 u24 u19 u23 u28 u29) :=
 jzT u27 u22 u25 u24 u19 u23 u28 u29 r
def jzU (u27:ByteArray) (u22:Int) (u25 u24 u19:List Int) (u23:Int) (u28:List (List Int)) (u29:Int) (r:Bool) (h:zb (jdq u27 u22 u25 u24 u19 u23 u28 u29) some=some r):jaG Tryz.f129 ((sp_159 (sp_160 sp0))) (fun gs id _=>match id with
 |0=>some ⟨Int × Nat,fun z=>⟨[(1,.w (.c (.p 4 0 1 0))),(3,.w (.c (.fn 159 []))),(9,.w (.c (.o 1))),(10,.w (.c (.d (.i .i64 ((↑u24.length:Int)))))),(11,.w (.c (.d (.i .i64 z.1))))],[(4,.box 118 [.d (.s u27),.d (.i .i64 u22),.o 0,.o 1,.o 2,.d (.i .i64 u23),.o 3,.d (.i .i64 u29)]),(1,.ext (.ints .i64 u24)),(0,.ext (.ints .i64 u25)),(2,.ext (.ints .i64 u19)),(3,.ext (.recs 5 u28))],5⟩,fun z=>(jpF u27 u22 u25 u24 u19 u23 u28 u29 r).inv z,fun z=>z.2⟩
 |2=>some ⟨Unit × Int × Nat,fun z=>⟨[(1,.w (.c (.p 4 0 1 0))),(3,.w (.c (.fn 159 []))),(21,.w (.c (.o 2))),(22,.w (.c (.d (.i .i64 ((↑u19.length:Int)))))),(23,.w (.c (.d (.i .i64 z.2.1))))],[(4,.box 118 [.d (.s u27),.d (.i .i64 u22),.o 0,.o 1,.o 2,.d (.i .i64 u23),.o 3,.d (.i .i64 u29)]),(2,.ext (.ints .i64 u19)),(0,.ext (.ints .i64 u25)),(1,.ext (.ints .i64 u24)),(3,.ext (.recs 5 u28))],5⟩,fun z=>(jpG u27 u22 u25 u24 u19 u23 u28 u29 r).inv z,fun z=>z.2.2⟩
 |_=>none) (jaC jk6 [.d (.s u27),.d (.i .i64 u22),.r (.ints .i64 u25),.r (.ints .i64 u24),.r (.ints .i64 u19),.d (.i .i64 u23),.r (.recs 5 u28),.d (.i .i64 u29)]) [.c (.d (.b r))] :=
 Sk.vc (jB7 u27 u22 u25 u24 u19 u23 u28 u29 r) (by kernel_rfl) h
def jzV:jaf Tryz.prog 129 true (jah jk6 jk7):=by
 refine jal (sp:=(sp_159 (sp_160 sp0))) (fn:=Tryz.f129) (body:=bodyOf Tryz.f129) mixed (sp_159_ok (sp_160_ok jaj)) Tryz.func129 (by kernel_rfl) (by kernel_rfl) fun ls t h ho b hb=>?_;unfold jk7 at h;split at h
 ·rename_i u27 u22 u25 u24 u19 u23 u28 u29;cases h;obtain rfl:=jap hb;exact⟨zh (by kernel_rfl),_,_,jzU u27 u22 u25 u24 u19 u23 u28 u29 _ (jai ho)⟩
 ·cases h
def sp_129_ok {sp:jaa} (h:jab Tryz.prog sp):jab Tryz.prog (sp_129 sp):=jag jzV h
def jk8:List SV:=[.a [.d,.d,.r (.ints .i64 []),.r (.ints .i64 []),.r (.ints .i64 []),.d,.r (.recs 5 []),.d]]
def jc0 (u27:ByteArray) (u22:Int) (u25 u24 u19:List Int) (u23:Int) (u28:List (List Int)) (u29:Int):Option Bool :=
 if(u22==0)=true then
  zb (y47 (↑u25.length:Int) (0:Int) (0:Int)) fun r0 =>
  if(r0)=true then
  if((↑u24.length:Int)==(↑u25.length:Int))=true then
   some ((↑u19.length:Int)==0)
  else
   some false
  else
  some false
 else
  if(u22==1)=true then
  zb (y47 (↑u25.length:Int) (1:Int) (6:Int)) fun r1 =>
  if(r1)=true then
   if((↑u24.length:Int)==(↑u25.length:Int))=true then
   some ((↑u19.length:Int)==(↑u25.length:Int))
   else
   some false
  else
   some false
  else
  zb (y47 (↑u25.length:Int) (1:Int) (1:Int)) fun r2 =>
  if(r2)=true then
   if((↑u24.length:Int)==(↑u25.length:Int))=true then
   some ((↑u19.length:Int)==0)
   else
   some false
  else
   some false
def jk9:List Lf->Option GT
 |[.d (.s u27),.d (.i .i64 u22),.r (.ints .i64 u25),.r (.ints .i64 u24),.r (.ints .i64 u19),.d (.i .i64 u23),.r (.recs 5 u28),.d (.i .i64 u29)]=>some (.leaf (ok (jc0 u27 u22 u25 u24 u19 u23 u28 u29)) [.c (.d (.b ((val (jc0 u27 u22 u25 u24 u19 u23 u28 u29)))))])
 |_=>none
abbrev sp_127:jaa->jaa:=jan 127 true (jah jk8 jk9)
def jB8 (u27:ByteArray) (u22:Int) (u25 u24 u19:List Int) (u23:Int) (u28:List (List Int)) (u29:Int) (r:Bool):Sk (top r) (jc0 u27 u22 u25 u24 u19 u23 u28 u29) :=
 .brB
 (.call (.brB
 (.brB
 (.obT (.rc))
 (.obT (.rc)))
 (.obT (.rc))))
 (.brB
 (.call (.brB
 (.brB
 (.obT (.rc))
 (.obT (.rc)))
 (.obT (.rc))))
 (.call (.brB
 (.brB
 (.obT (.rc))
 (.obT (.rc)))
 (.obT (.rc)))))
def jzW (u27:ByteArray) (u22:Int) (u25 u24 u19:List Int) (u23:Int) (u28:List (List Int)) (u29:Int) (r:Bool) (h:zb (jc0 u27 u22 u25 u24 u19 u23 u28 u29) some=some r):jaG Tryz.f127 ((sp_84 sp0)) (fun _ _ _=>none) (jaC jk8 [.d (.s u27),.d (.i .i64 u22),.r (.ints .i64 u25),.r (.ints .i64 u24),.r (.ints .i64 u19),.d (.i .i64 u23),.r (.recs 5 u28),.d (.i .i64 u29)]) [.c (.d (.b r))] :=
 Sk.vc (jB8 u27 u22 u25 u24 u19 u23 u28 u29 r) (by kernel_rfl) h
def jzX:jaf Tryz.prog 127 true (jah jk8 jk9):=by
 refine jal (sp:=(sp_84 sp0)) (fn:=Tryz.f127) (body:=bodyOf Tryz.f127) mixed (sp_84_ok jaj) Tryz.func127 (by kernel_rfl) (by kernel_rfl) fun ls t h ho b hb=>?_;unfold jk9 at h;split at h
 ·rename_i u27 u22 u25 u24 u19 u23 u28 u29;cases h;obtain rfl:=jap hb;exact⟨zh (by kernel_rfl),_,_,jzW u27 u22 u25 u24 u19 u23 u28 u29 _ (jai ho)⟩
 ·cases h
def sp_127_ok {sp:jaa} (h:jab Tryz.prog sp):jab Tryz.prog (sp_127 sp):=jag jzX h
end Go.Sh
end

section
namespace Go.Sh
open Go Go.Proofs Go.RowKit Go.Sx
open Go.IntKind (wrap)
def jse:List (Option Cont):=[none,none,none]
def jdr (n lo hi:Int):Option Bool :=
 if lo<=n then
  some (decide (n<=hi))
 else
  some false
def jla:List A->Option (Prop × List RV)
 |[.d (.i .i64 n),.d (.i .i64 lo),.d (.i .i64 hi)]=>some (ok (jdr n lo hi),[.d (.b ((val (jdr n lo hi))))])
 |_=>none
abbrev sp_180:jaa->jaa:=jan 180 true (jar jse jla)
def jB9 (n lo hi:Int) (r:Bool):Sk (top r) (jdr n lo hi) :=
 .br
 (.obT (.rc))
 (.obT (.rc))
def jzY (n lo hi:Int) (r:Bool) (h:zb (jdr n lo hi) some=some r):ja1 Tryz.f180 (sp0) (fun _ _ _=>none) [.d (.i .i64 n),.d (.i .i64 lo),.d (.i .i64 hi)] [.d (.b r)] :=
 Sk.vc (jB9 n lo hi r) (by kernel_rfl) h
def jzZ:jaf Tryz.prog 180 true (jar jse jla):=by
 refine jaA (sp:=sp0) (fn:=Tryz.f180) (body:=bodyOf Tryz.f180) mixed jaj Tryz.func180 (by kernel_rfl) (by kernel_rfl) fun as_ ob rs h ho=>?_;unfold jla at h;split at h
 ·rename_i n lo hi;cases h;exact⟨zh rfl,_,_,jzY n lo hi _ (jai ho)⟩
 ·cases h
def sp_180_ok {sp:jaa} (h:jab Tryz.prog sp):jab Tryz.prog (sp_180 sp):=jag jzZ h
def jvn:List (Option Cont):=[none,none]
def jcL (n u48:Int):Option Bool :=
 zb (jdr n (wrap .i64 (0-u48)) u48) fun r0 =>
 some r0
def jna:List A->Option (Prop × List RV)
 |[.d (.i .i64 n),.d (.i .i64 u48)]=>some (ok (jcL n u48),[.d (.b ((val (jcL n u48))))])
 |_=>none
abbrev sp_177:jaa->jaa:=jan 177 true (jar jvn jna)
def jDL (n u48:Int) (r:Bool):Sk (top r) (jcL n u48) :=
 .call (.obT (.rc))
def jCa (n u48:Int) (r:Bool) (h:zb (jcL n u48) some=some r):ja1 Tryz.f177 ((sp_180 sp0)) (fun _ _ _=>none) [.d (.i .i64 n),.d (.i .i64 u48)] [.d (.b r)] :=
 Sk.vc (jDL n u48 r) (by kernel_rfl) h
def jCb:jaf Tryz.prog 177 true (jar jvn jna):=by
 refine jaA (sp:=(sp_180 sp0)) (fn:=Tryz.f177) (body:=bodyOf Tryz.f177) mixed (sp_180_ok jaj) Tryz.func177 (by kernel_rfl) (by kernel_rfl) fun as_ ob rs h ho=>?_;unfold jna at h;split at h
 ·rename_i n u48;cases h;exact⟨zh rfl,_,_,jCa n u48 _ (jai ho)⟩
 ·cases h
def sp_177_ok {sp:jaa} (h:jab Tryz.prog sp):jab Tryz.prog (sp_177 sp):=jag jCb h
def jCc:List (Option Cont):=[none]
def jdU (n:Int):Option Bool :=
 zb (jcL n (32768:Int)) fun r0 =>
 some r0
def jsf:List A->Option (Prop × List RV)
 |[.d (.i .i64 n)]=>some (ok (jdU n),[.d (.b ((val (jdU n))))])
 |_=>none
def jCd (n:Int) (r:Bool):Sk (top r) (jdU n) :=
 .call (.obT (.rc))
def jz0 (n:Int) (r:Bool) (h:zb (jdU n) some=some r):ja1 Tryz.f183 ((sp_177 sp0)) (fun _ _ _=>none) [.d (.i .i64 n)] [.d (.b r)] :=
 Sk.vc (jCd n r) (by kernel_rfl) h
def jz1:jaf Tryz.prog 183 true (jar jCc jsf):=by
 refine jaA (sp:=(sp_177 sp0)) (fn:=Tryz.f183) (body:=bodyOf Tryz.f183) mixed (sp_177_ok jaj) Tryz.func183 (by kernel_rfl) (by kernel_rfl) fun as_ ob rs h ho=>?_;unfold jsf at h;split at h
 ·rename_i n;cases h;exact⟨zh rfl,_,_,jz0 n _ (jai ho)⟩
 ·cases h
def jvo:List (Option Cont):=[some (.ints .i64 [])]
def jtX (l:List Int) (x0:Int):Option (Int ⊕ (Int ⊕ Unit)) :=
 if x0<(↑l.length:Int)then
  if 0<=x0∧x0<(↑l.length:Int)then
  if zg x0<ze l then
   if(za l x0.toNat (0:Int)!=0)=true then
   some (.inr ((.inl (za l x0.toNat (0:Int)))))
   else
   some (.inl (wrap .i64 (x0+1)))
  else none
  else none
 else
  some (.inr ((.inr ())))
def jhm (u4:Int):Option Int :=
 some u4
def jnb (u9:Unit):Option Int :=
 some (0:Int)
def jep:(Int ⊕ Unit)->Option Int :=
 (qC (jhm) (jnb))
def jda (l:List Int):Option Int :=
 zb (jae (jtX l) big (0:Int)) (jep)
def jnc:List A->Option (Prop × List RV)
 |[.r (.ints .i64 l)]=>some (ok (jda l),[.d (.i .i64 ((val (jda l))))])
 |_=>none
abbrev sp_165:jaa->jaa:=jan 165 true (jar jvo jnc)
abbrev jsg (l:List Int) (r:Int):Lp (Int × Nat) Int (Int ⊕ Unit) Int Int :=
 ⟨fun z=>z.1,fun z=>z.2,fun z x n=>(x,n),fun z=>jtX l,fun z=>jep,fun z=>top r,fun z=>0,[.c fun _=>(↑l.length:Int),.c fun vv=>vv.1,.c fun _=>l]⟩
def jDM (l:List Int) (r:Int):Sk (top r) (jda l) :=
 .loop (jsg l r) (fun kk=>((0:Int),big)) fun z0 =>
 .br
 (.ob (.ob (.brB
 (.exit (.obT (.rc)))
 (.next))))
 (.exit (.obT (.rc)))
def jCe (l:List Int) (r:Int) (h:zb (jda l) some=some r):ja1 Tryz.f165 (sp0) (fun gs id _=>match id with
 |0=>some ⟨Int × Nat,fun z=>⟨[(5,.w (.c (.o 0))),(6,.w (.c (.d (.i .i64 ((↑l.length:Int)))))),(7,.w (.c (.d (.i .i64 z.1))))],[(0,.ext (.ints .i64 l))],1⟩,fun z=>(jsg l r).inv z,fun z=>z.2⟩
 |_=>none) [.r (.ints .i64 l)] [.d (.i .i64 r)] :=
 Sk.vc (jDM l r) (by kernel_rfl) h
def jCf:jaf Tryz.prog 165 true (jar jvo jnc):=by
 refine jaA (sp:=sp0) (fn:=Tryz.f165) (body:=bodyOf Tryz.f165) mixed jaj Tryz.func165 (by kernel_rfl) (by kernel_rfl) fun as_ ob rs h ho=>?_;unfold jnc at h;split at h
 ·rename_i l;cases h;exact⟨zh rfl,_,_,jCe l _ (jai ho)⟩
 ·cases h
def sp_165_ok {sp:jaa} (h:jab Tryz.prog sp):jab Tryz.prog (sp_165 sp):=jag jCf h
def jsh:List (Option Cont):=[none,none]
def jc1 (is:Bool) (e:Int):Option Int :=
 if(is)=true then
  some (0:Int)
 else
  some e
def jlb:List A->Option (Prop × List RV)
 |[.d (.b is),.d (.i .i64 e)]=>some (ok (jc1 is e),[.d (.i .i64 ((val (jc1 is e))))])
 |_=>none
abbrev sp_176:jaa->jaa:=jan 176 true (jar jsh jlb)
def jCg (is:Bool) (e r:Int):Sk (top r) (jc1 is e) :=
 .brB
 (.obT (.rc))
 (.obT (.rc))
def jz2 (is:Bool) (e r:Int) (h:zb (jc1 is e) some=some r):ja1 Tryz.f176 (sp0) (fun _ _ _=>none) [.d (.b is),.d (.i .i64 e)] [.d (.i .i64 r)] :=
 Sk.vc (jCg is e r) (by kernel_rfl) h
def jz3:jaf Tryz.prog 176 true (jar jsh jlb):=by
 refine jaA (sp:=sp0) (fn:=Tryz.f176) (body:=bodyOf Tryz.f176) mixed jaj Tryz.func176 (by kernel_rfl) (by kernel_rfl) fun as_ ob rs h ho=>?_;unfold jlb at h;split at h
 ·rename_i is e;cases h;exact⟨zh rfl,_,_,jz2 is e _ (jai ho)⟩
 ·cases h
def sp_176_ok {sp:jaa} (h:jab Tryz.prog sp):jab Tryz.prog (sp_176 sp):=jag jz3 h
end Go.Sh
end

section
namespace Go.Sx09
open Go Go.Proofs Go.RowKit Go.Shelf Go.Sx
attribute [local go_sem] jB
def jft {B:Kd} {w:zs}:jbC B w:=⟨fun _ _ h=>(by cases h),jmf (fun _=>rfl) B w⟩
def jfH {I:Env} {B:Kd} {N n0:Nat} {st:St} {a:Act} {w:zs} {t:Nat} {v:zt} (h:Rel I B N n0 st a w) (ht:jaS st.tm t=none) (hlt:t<N):Rel I B N n0 st (a.put (some t) v) w:=by
 refine⟨fun x u hx=>?_,by rw[jbu];exact h.size,by rw[jb5];exact h.defers,h.heap,h.le,h.n0⟩;have hne:x≠t:=fun e=>by subst e;rw[ht]at hx;cases hx
 rw[jbG (fun y hy=>by cases hy;rw[h.size];exact hlt),if_neg (fun e=>hne (yc e).symm)];exact h.tm x u hx
structure KpC (n1:Nat) (A C:zs):Prop where
 size:A.heap.size<=C.heap.size
 same:∀k o,n1<=k->A.heap[k]?=some o->o.isCells=true->C.heap[k]?=some o
def stL (y:zt) (L:List Int) (k:Nat):St :=
 ⟨[(11,vi .i64 k),(10,vi .i64 5),(9,.w (.c (.o 0))),(0,.w (.c (.d (.v y))))],[(0,.ext (.ints .i64 L))],1⟩
def stB (y:zt) (b0 b1 b2 a0 a1:Int):St :=
 ⟨[(11,vi .i64 0),(10,vi .i64 5),(9,.w (.c (.o 1))),(0,.w (.c (.d (.v y))))],[(1,.row 3 (.ints .i64 [b0,b1,b2,a0,a1])),(0,.box 148 [.d (.i .i64 b0),.d (.i .i64 b1),.d (.i .i64 b2),.d (.i .i64 a0),.d (.i .i64 a1)])],2⟩
structure Bet (Far:zs->Nat->Prop) (y:zt) (L:List Int) (k:Nat) (a:Act) (w:zs):Prop where
 rel:∃I,Rel I (kd fun x=>x<w.heap.size) 22 1 (stL y L k) a w∧∀ad n cap,I 0=.slice (some ad) n cap->Far w ad.block
def jCh {v:zt} {c:Cont} {A C:zs} (h:jaO A v c) (he:0<c.e) (hv:∀ad n cap,v=.slice (some ad) n cap->∀o,A.heap[ad.block]?=some o->o.isCells=true->C.heap[ad.block]?=some o):jaO C v c:=by
 obtain⟨a,cap,rfl,hc,hcells⟩:=h;refine⟨a,cap,rfl,hc,fun hn=>?_⟩;obtain⟨b,off,rfl,hx⟩:=hcells hn;refine⟨b,off,rfl,fun j x hj=>?_⟩;have h1:=hx j x hj;obtain⟨o,ho,hoc⟩:=cells_of_cell h1;have h2:=hv _ _ _ rfl o ho hoc;have ho':A.heap[b]?=some o:=ho;exact(qV (w:=A) (w':=C) (a:=⟨b,off+j,none⟩) (h2.trans ho'.symm)).trans h1
def jlc {c:Code} {N n0:Nat} {st st2:St} {I:Env} {a:Act} {w:zs} (hr:Rel I (kd fun x=>x<w.heap.size) N n0 st a w)
  (h:sx Tryz.prog (fun _=>none) N n0 0 (fun _ _ _=>none) (fun _ _ _=>False) c 0 [] st (fun e st'=>match e with | .normal=>Le n0 st' st2|_=>False)) :
  c.wp Tryz.prog (fun e a' w'=>e=.normal∧w.grownBy w' none∧∃I',Rel I' (kd fun x=>x<w.heap.size) N n0 st2 a' w'∧jak n0 I I') a w:=by
 refine x6 (ja9 (fun _ _ _ h=>by cases h) (fun _ _ _ _ _ _ _ _ _ h=>h.elim) c 0 [] st _ I a w h hr (jak.refl _ _) (Bel.refl _ _)) ?_;rintro e a' w' ⟨ex,I',st',rfl,hk,hr',hag,hbl⟩;cases ex with
 |normal =>
  obtain⟨I2,hr2,hag2⟩:=Le.rel hk hr';exact⟨rfl,⟨hbl.os,hbl.tape,hbl.output,hbl.size,fun k hk _=>hbl.block k hk⟩,I2,hr2,fun x hx=>(hag2 x hx).trans (hag x hx)⟩
 |exit j=>exact hk.elim
 |ret=>exact hk.elim
def prs (L:List Int) (k:Nat):List (Nat × Int):=(List.range k).map fun j=>(j,L.getD j 0)
def jyb (L:List Int) (k:Nat):prs L (k+1)=prs L k++[(k,L.getD k 0)]:=by simp[prs,List.range_succ]
def jsi (L:List Int) (k:Nat):(prs L k).length=k:=by simp[prs]
def sub:List Nat->Code->Code
 |[],c=>c
 |0::p,.seq x _=>sub p x
 |_::p,.seq _ y=>sub p y
 |0::p,.cond _ x _=>sub p x
 |_::p,.cond _ _ y=>sub p y
 |_::p,.block _ c=>sub p c
 |_::p,.loop c=>sub p c
 |_,c=>c
def bodyOf (f:Func):Code:=f.body.getD .skip
abbrev pc (c:Code) (st st2:St):Prop:=sx Tryz.prog (fun _=>none) 22 1 0 (fun _ _ _=>none) (fun _ _ _=>False) c 0 [] st (fun e st'=>match e with | .normal=>Le 1 st' st2|_=>False)
def stC (y:zt) (L:List Int) (k:Nat):St:=⟨(12,vb (decide ((k:Int)<5)))::(stL y L k).tm,(stL y L k).hp,1⟩
def stD (y:zt) (L:List Int) (k:Nat):St:=⟨(4,vi .i64 (L.getD k 0))::(3,vi .i64 k)::(stL y L k).tm,(stL y L k).hp,1⟩
def pc1 (y:zt) (L:List Int) (k:Nat):pc (sub [1,0,0,0] (bodyOf Tryz.f185)) (stL y L k) (stC y L k):=by
 refine jI (by kernel_rfl:(Ob ((decide ((k:Int)<5))=decide ((k:Int)<5))∧Ob ((k:Int)=k)∧Ob ((5:Int)=5)∧Ob (y=y)∧Ob (L=L)∧True)=_) ?_;exact⟨⟨rfl⟩,⟨rfl⟩,⟨rfl⟩,⟨rfl⟩,⟨rfl⟩,trivial⟩
def pc2 (y:zt) (L:List Int) (k:Nat) (hk:k<L.length):pc (sub [1,0,0,1,1,0,0,0] (bodyOf Tryz.f185)) (stC y L k) (stD y L k):=by
 refine jI (by kernel_rfl:(Ob (0<=(k:Int)∧(k:Int)<(L.length:Int))∧Ob ((k:Int).toNat<L.length)∧Ob (L.getD (k:Int).toNat 0=L.getD k 0)∧Ob ((k:Int)=k)∧Ob ((k:Int)=k)∧Ob ((5:Int)=5)∧Ob (y=y)∧Ob (L=L)∧True)=_) ?_;exact⟨⟨by omega⟩,⟨by omega⟩,⟨rfl⟩,⟨rfl⟩,⟨rfl⟩,⟨rfl⟩,⟨rfl⟩,⟨rfl⟩,trivial⟩
def pc3 (y:zt) (L:List Int) (k:Nat) (hk:k<5):pc (sub [1,0,0,1,1,1] (bodyOf Tryz.f185)) (stL y L k) (stL y L (k+1)):=by
 refine jI (by kernel_rfl:(Ob (xu.wrap ((k:Int)+1)=((k+1:Nat):Int))∧Ob ((5:Int)=5)∧Ob (y=y)∧Ob (L=L)∧True)=_) ?_;refine⟨⟨?_⟩,⟨rfl⟩,⟨rfl⟩,⟨rfl⟩,trivial⟩;rw[g7 _ (by omega)];omega
def jyc {I:Env} {B:Kd} {N n0:Nat} {st:St} {a:Act} {w:zs} {c:Cont} (h:Rel I B N n0 st a w) (hs:st.hp=[(0,.ext c)]) (he:0<c.e):Rel I (kd fun x=>x<w.heap.size) N n0 st a w:=by
 obtain⟨B',_,hh⟩:=h.heap;refine⟨h.tm,h.size,h.defers,⟨kd fun x=>x<w.heap.size,Grow.refl _ _ _ _,⟨fun x o hf=>?_,fun x o x' o' b hf hf' hne hb=>?_,jft⟩⟩,fun k hk=>jbM.1 hk,h.n0⟩
 ·have h1:=hh.ok x o hf;refine⟨h1.1,h1.2.1,?_⟩;rw[hs]at hf;simp only[find]at hf;split at hf
  ·cases hf;exact⟨h1.2.2.1,h1.2.2.1.lt he⟩
  ·cases hf
 ·rw[hs]at hf;simp only[find]at hf;split at hf
  ·cases hf;cases hb
  ·cases hf
def jnd {o:qu} {x:Operand} {n:Nat} {a:Act} {w:zs} {K:Act->zs->Prop} {Q:Exit->Act->zs->Prop} (ho:o.op=.move x) (h:K (a.put o.dst (a.eval x)) w):o.wpIn xI n Tryz.prog a w K Q:=by
 refine⟨fun _ _=>trivial,?_⟩
 have:((o.semAt xI.round a.eval).run Tryz.prog w)=.ok (.value (a.eval x)) w:=by
  rw[jn,jC];unfold qR;simp only[ho,zx]
 rw[this];exact h
def jdV {y:zt} {L:List Int} {k t:Nat} (h:t≠11∧t≠10∧t≠9∧t≠0):jaS (stL y L k).tm t=none:=by
 simp only[stL,jaS];rw[if_neg (yN h.1),if_neg (yN h.2.1),if_neg (yN h.2.2.1),if_neg (yN h.2.2.2)]
set_option maxHeartbeats 2000000 in
def jDN (n l:Nat) (Kp:zs->zs->Prop) (Far:zs->Nat->Prop)
  (hKF:∀{A C:zs} {k:Nat},Kp A C->Far A k->Far C k∧∀o,A.heap[k]?=some o->o.isCells=true->C.heap[k]?=some o)
  (hFg:∀{A B:zs} {k:Nat},A.grownBy B none->Far A k->Far B k) (L:List Int) (hL:L.length=5) (J Jx:List (Nat × Int)->zs->Prop)
  (hY:∀pre x W,J pre W->pre.length<5->x=(pre.length,L.getD pre.length 0)->YieldAt xI (n-1) Tryz.prog l #[.int .i64 (x.1:Int),.int .i64 x.2] W fun e W' =>
   (e=.returned (.bool true)∧J (pre++[x]) W'∧Kp W W')∨(e=.returned (.bool false)∧Jx (pre++[x]) W'))
  (hJ:∀A B pre,J pre A->A.grownBy B none->J pre B) (a:Act) (w:zs) (hb:Bet Far (.func (.yield l) #[] #[]) L 0 a w) (hj0:J (prs L 0) w) :
  (sub [1] (bodyOf Tryz.f185)).wpIn xI n Tryz.prog (bodyPost Tryz.prog Tryz.f185 fun e W'=>(∃v,e=.returned v) ∧
   ((∃ys,ys=prs L 5∧J ys W')∨(∃pre,(∃k,k<=5∧pre=prs L k)∧Jx pre W'))) a w:=by
 refine fo (wpIn_loop (fun a w=>∃k,k<=5∧Bet Far (.func (.yield l) #[] #[]) L k a w∧J (prs L k) w) (fun a _=>5-(fY (a.tmps.getD 11 z3)).toNat) ⟨0,by omega,hb,hj0⟩ ?_);rintro a w ⟨k,hk,⟨I,hr,hge⟩,hj⟩
 have hmu:(fY (a.tmps.getD 11 z3)).toNat=k:=by
  rw[(hr.tm 11 _ rfl).2];simp[fY]
 rw[hmu];refine yw (wpIn_wide.2 (x6 (jlc hr (pc1 _ L k)) ?_));rintro e a1 w1 ⟨rfl,hg1,I1,hr1,hag1⟩;have hj1:=hJ _ _ _ hj hg1;have hc:a1.eval (.tmp 12)=.bool (decide ((k:Int)<5)):=(hr1.tm 12 _ rfl).2
 by_cases hlt:k<5
 ·refine yw (jP (by rw[hc,decide_eq_true (by omega)]) (g9 ?_));refine yw (fo (yw (wpIn_wide.2 (x6 (jlc (jyc hr1 rfl (zp 0)) (pc2 _ L k (by omega))) ?_))));rintro e a2 w2 ⟨rfl,hg2,I2,hr2,hag2⟩;have hj2:=hJ _ _ _ hj1 hg2;obtain⟨fn,tmps,assign,body,hy,hR⟩:=hY (prs L k) (k,L.getD k 0) w2 hj2 (by rw[jsi];exact hlt) (by rw[jsi])
  have hr2L:Rel I2 (kd fun x=>x<w2.heap.size) 22 1 (stL (.func (.yield l) #[] #[]) L k) a2 w2:=by
   have:=jyc hr2 (c:=.ints .i64 L) rfl (zp 0);refine⟨fun t v hv=>this.tm t v ?_,this.size,this.defers,this.heap,this.le,this.n0⟩;have hne:t≠4∧t≠3:=⟨(fun e=>by subst e;rw[jdV (by decide)]at hv;cases hv),(fun e=>by subst e;rw[jdV (by decide)]at hv;cases hv)⟩
   show jaS ((4,_)::(3,_)::_) t=some v
   simp only[jaS];rw[if_neg (yN hne.1),if_neg (yN hne.2)];exact hv
  have e3:a2.tmps.getD 3 z3=.int .i64 k:=(hr2.tm 3 _ rfl).2;have e4:a2.tmps.getD 4 z3=.int .i64 (L.getD k 0):=(hr2.tm 4 _ rfl).2;have e0:a2.tmps.getD 0 z3=.func (.yield l) #[] #[]:=(hr2.tm 0 _ rfl).2;have hge2:∀ad n cap,I2 0=.slice (some ad) n cap->Far w2 ad.block:=fun ad n cap h=>hFg hg2 (hFg hg1 (hge ad n cap (by rw[<-hag1 0 (zp 0),<-hag2 0 (zp 0)];exact h)));refine yw (gH ?_);refine xy rfl fun K hK=>jnd rfl (hK _ _ ?_);refine xy rfl fun K hK=>jnd rfl (hK _ _ ?_);refine xy rfl fun K hK=>jnd rfl (hK _ _ ?_);have hsz:a2.tmps.size=22:=hr2L.size;obtain⟨a3,ha3⟩:∃a3,a3=((a2.put (some 16) (a2.eval (.tmp 0))).put (some 17) ((a2.put (some 16) (a2.eval (.tmp 0))).eval (.tmp 3))).put (some 18) (((a2.put (some 16) (a2.eval (.tmp 0))).put (some 17) ((a2.put (some 16) (a2.eval (.tmp 0))).eval (.tmp 3))).eval (.tmp 4)):=⟨_,rfl⟩
  have hr3:Rel I2 (kd fun x=>x<w2.heap.size) 22 1 (stL (.func (.yield l) #[] #[]) L k) a3 w2:=by
   rw[ha3];exact jfH (jfH (jfH hr2L (jdV (by decide)) (by decide)) (jdV (by decide)) (by decide)) (jdV (by decide)) (by decide)
  have g16:a3.eval (.tmp 16)=.func (.yield l) #[] #[]:=by
   rw[ha3]
   show(jA _ (some 18) _).tmps.getD 16 z3=_
   rw[jbG (fun x hx=>by cases hx;simp[jbu,hsz]),if_neg (by decide),jbG (fun x hx=>by cases hx;simp[jbu,hsz]),if_neg (by decide),jbG (fun x hx=>by cases hx;simp[hsz]),if_pos rfl];exact e0
  have g17:a3.eval (.tmp 17)=.int .i64 k:=by
   rw[ha3]
   show(jA _ (some 18) _).tmps.getD 17 z3=_
   rw[jbG (fun x hx=>by cases hx;simp[jbu,hsz]),if_neg (by decide),jbG (fun x hx=>by cases hx;simp[jbu,hsz]),if_pos rfl]
   show(jA _ (some 16) _).tmps.getD 3 z3=_
   rw[jbG (fun x hx=>by cases hx;simp[hsz]),if_neg (by decide)];exact e3
  have g18:a3.eval (.tmp 18)=.int .i64 (L.getD k 0):=by
   rw[ha3]
   show(jA _ (some 18) _).tmps.getD 18 z3=_
   rw[jbG (fun x hx=>by cases hx;simp[jbu,hsz]),if_pos rfl]
   show(jA _ (some 17) _).tmps.getD 4 z3=_
   rw[jbG (fun x hx=>by cases hx;simp[jbu,hsz]),if_neg (by decide),jbG (fun x hx=>by cases hx;simp[hsz]),if_neg (by decide)];exact e4
  have hsz3:a3.tmps.size=22:=hr3.size;rw[<-ha3];clear ha3;refine xy rfl fun K hK=>⟨fun _ _=>trivial,?_⟩
  have hcall:∀o:qu,o.op=.call { callee:=.value (.tmp 16),args:=#[.tmp 17,.tmp 18],argTypes:=#[3,3] }->((o.semAt xI.round a3.eval).run Tryz.prog w2)=.ok (.round l fn tmps assign body) w2:=by
   intro o ho;rw[jn,jC];unfold qR;simp only[ho,resolve,g16,gG,zr,zx,zn,invoke,yi,zJ,qZ,g17,g18];exact hy
  rw[hcall _ rfl];refine⟨(fun h=>by cases h),hR.mono ?_⟩
  have hnot:∀(o:qu) (b:Bool) (w3:zs),o.op=.unOp .not 4 (.tmp 19)->((o.semAt xI.round (a3.put (some 19) (.bool b)).eval).run Tryz.prog w3)=.ok (.value (.bool !b)) w3:=by
   intro o b w3 ho
   have h19:(a3.put (some 19) (.bool b)).eval (.tmp 19)=.bool b:=by
    show(jA _ (some 19) _).tmps.getD 19 z3=_
    rw[jbG (fun x hx=>by cases hx;simp[hsz3]),if_pos rfl]
   rw[jn,jC];unfold qR;simp only[ho,h19];rfl
  have h20:∀b,((a3.put (some 19) (.bool b)).put (some 20) (.bool !b)).eval (.tmp 20)=.bool !b:=fun b=>by
   show(jA _ (some 20) _).tmps.getD 20 z3=_
   rw[jbG (fun x hx=>by cases hx;simp[jbu,hsz3]),if_pos rfl]
  have hr5:∀b,Rel I2 (kd fun x=>x<w2.heap.size) 22 1 (stL (.func (.yield l) #[] #[]) L k) ((a3.put (some 19) (.bool b)).put (some 20) (.bool !b)) w2:=fun b =>
   jfH (jfH hr3 (jdV (by decide)) (by decide)) (jdV (by decide)) (by decide)
  rintro e w3 (⟨rfl,hj3,hk3⟩|⟨rfl,hj3⟩)
  ·refine hK _ _ (xy rfl fun K hK=>⟨fun _ _=>trivial,?_⟩);rw[hnot _ true w3 rfl];refine hK _ _ (jQ ?_);refine jD (h20 true) (g9 ?_);have h5:=hr5 true;obtain⟨B2,_,hh2⟩:=hr2L.heap;have hrow3:jaO w3 (I2 0) (.ints .i64 L):=jCh (hh2.ok 0 _ rfl).2.2.1 (zp 0) fun ad n cap h=>(hKF hk3 (hge2 ad n cap h)).2
   have h6:Rel I2 (kd fun x=>x<w3.heap.size) 22 1 (stL (.func (.yield l) #[] #[]) L k) ((a3.put (some 19) (.bool true)).put (some 20) (.bool !true)) w3:=by
    refine⟨h5.tm,h5.size,h5.defers,⟨kd fun x=>x<w3.heap.size,Grow.refl _ _ _ _,⟨fun x o hf=>?_,fun x o x' o' b hf hf' hne hb=>?_,jft⟩⟩,fun k hk=>jbM.1 hk,h5.n0⟩
    ·simp only[stL,find]at hf;split at hf
     ·rename_i e;subst e;cases hf;exact⟨zp 0,trivial,hrow3,hrow3.lt (zp 0)⟩
     ·cases hf
    ·simp only[stL,find]at hf;split at hf
     ·cases hf;cases hb
     ·cases hf
   refine wpIn_wide.2 (x6 (jlc h6 (pc3 _ L k hlt)) ?_);rintro e a7 w7 ⟨rfl,hg7,I7,hr7,hag7⟩;refine⟨⟨k+1,by omega,⟨I7,jyc hr7 (c:=.ints .i64 L) rfl (zp 0),fun ad n cap h=>hFg hg7 (hKF hk3 (hge2 ad n cap (by rw[<-hag7 0 (zp 0)];exact h))).1⟩,?_⟩,?_⟩
   ·rw[jyb];exact hJ _ _ _ hj3 hg7
   ·rw[(hr7.tm 11 _ rfl).2];simp[fY];omega
  ·refine hK _ _ (xy rfl fun K hK=>⟨fun _ _=>trivial,?_⟩);rw[hnot _ false w3 rfl];refine hK _ _ (jQ ?_);refine jP (h20 false) (wpIn_ret ?_);refine⟨(hr5 false).defers,.tuple #[],jR rfl _ _ _,⟨_,rfl⟩,.inr ⟨_,⟨k+1,by omega,rfl⟩,?_⟩⟩;rw[jyb];exact hj3
 ·have hk5:k=5:=by omega
  subst hk5;refine yw (jD (by rw[hc,decide_eq_false (by omega)]) (wpIn_exit ?_));refine⟨hr1.defers,.tuple #[],?_,⟨_,rfl⟩,.inl ⟨_,rfl,hj1⟩⟩;exact jR rfl _ _ _
set_option maxHeartbeats 2000000 in
def jFz (n l Bs:Nat) (Kp:zs->zs->Prop) (Far:zs->Nat->Prop)
  (hKF:∀{A C:zs} {k:Nat},Kp A C->Far A k->Far C k∧∀o,A.heap[k]?=some o->o.isCells=true->C.heap[k]?=some o)
  (hFg:∀{A B:zs} {k:Nat},A.grownBy B none->Far A k->Far B k) (b0 b1 b2 a0 a1:Int) (J Jx:List (Nat × Int)->zs->Prop)
  (hY:∀pre x W,J pre W->pre.length<5->x=(pre.length,[b0,b1,b2,a0,a1].getD pre.length 0)->YieldAt xI (n-1) Tryz.prog l #[.int .i64 (x.1:Int),.int .i64 x.2] W fun e W' =>
   (e=.returned (.bool true)∧J (pre++[x]) W'∧Kp W W')∨(e=.returned (.bool false)∧Jx (pre++[x]) W'))
  (W:zs) (hF0:∀B g,W.grownBy B none->W.heap.size<=g->g<B.heap.size->Far B g) (hJ:AbidesFrom W.heap.size J) (hBs:W.heap[Bs]?=some (.cells #[.int .i64 b0,.int .i64 b1,.int .i64 b2,.int .i64 a0,.int .i64 a1] 148 (0,0))) (h0:J [] W) :
  fu xI n Tryz.prog 185 #[.func (.yield l) #[] #[],.pointer (some ⟨Bs,0,none⟩)] W fun e W'=>(∃v,e=.returned v) ∧
   ((∃ys,ys=prs [b0,b1,b2,a0,a1] 5∧J ys W')∨(∃pre,(∃k,k<=5∧pre=prs [b0,b1,b2,a0,a1] k)∧Jx pre W')):=by
 refine gy Tryz.func185 rfl trivial ?_ rfl;refine yw (wpIn_wide.2 ?_);have hBlt:Bs<W.heap.size:=(zH.1 hBs).1
 let I:Env:=fun _=>.pointer (some ⟨Bs,0,none⟩)
 let y:zt:=.func (.yield l) #[] #[]
 have hsp:jab Tryz.prog (fun _=>none):=fun _ _ _ h=>by cases h
 refine jb0 (N:=22) (n0:=1) (B:=kd fun k=>k<W.heap.size∧k≠Bs) (I0:=I) (w0:=W) (st:=⟨[(0,.w (.c (.d (.v y)))),(1,.w (.c (.p 0 0 1 0)))],[(0,.box 148 [.d (.i .i64 b0),.d (.i .i64 b1),.d (.i .i64 b2),.d (.i .i64 a0),.d (.i .i64 a1)])],1⟩)
  (k:=fun st=>Le 1 st (stB y b0 b1 b2 a0 a1)) (by kernel_rfl) hsp (ds:=[]) _ _ I _ _ _ ?vc ?rel (jak.refl _ _) (Bel.refl _ _) ?next
 case vc =>
  refine jI (by kernel_rfl:(Ob True∧Ob True∧Ob (0<3∧0<2∧(3+2)*8<=140737488355328∧3+2<=9223372036854775807) ∧
   Le 1 ⟨[(11,vi .i64 0),(10,vi .i64 5),(9,.w (.c (.o 3))),(8,.w (.c (.o 2))),(7,.w (.c (.p 0 0 1 3))),(6,.w (.c (.o 1))),(5,.w (.c (.p 0 0 1 0))),(0,.w (.c (.d (.v y)))),(1,.w (.c (.p 0 0 1 0)))],
    [(3,.row 3 (.ints .i64 [b0,b1,b2,a0,a1])),(2,.view 0 (.ints .i64 [a0,a1]) true),(1,.view 0 (.ints .i64 [b0,b1,b2]) true),(0,.box 148 [.d (.i .i64 b0),.d (.i .i64 b1),.d (.i .i64 b2),.d (.i .i64 a0),.d (.i .i64 a1)])],4⟩ (stB y b0 b1 b2 a0 a1))=_) ?_
  refine⟨⟨trivial⟩,⟨trivial⟩,⟨by decide⟩,?_⟩;refine jI (by kernel_rfl:((Ob ((0:Int)=0)∧Ob ((5:Int)=5)∧Ob (y=y)∧Ob ([b0,b1,b2,a0,a1]=[b0,b1,b2,a0,a1])∧Ob (b0=b0)∧Ob (b1=b1)∧Ob (b2=b2)∧Ob (a0=a0)∧Ob (a1=a1)∧True))=_) ?_;exact⟨⟨rfl⟩,⟨rfl⟩,⟨rfl⟩,⟨rfl⟩,⟨rfl⟩,⟨rfl⟩,⟨rfl⟩,⟨rfl⟩,⟨rfl⟩,trivial⟩
 case rel =>
  refine jfF (N:=22) (n0:=1) (args:=[.w (.c (.d (.v y))),.w (.c (.p 0 0 1 0))]) (zh rfl) (fun x hx=>?_) (zq _) I W ⟨fun x o hf=>?_,fun x o x' o' b hf hf' hne hb=>?_,jft⟩ (fun k hk=>(jbM.1 hk).1)
  ·simp only[qp,gI,or_false]at hx;rcases hx with rfl|rfl
   ·trivial
   ·exact zp 0
  ·simp only[find]at hf;split at hf
   ·rename_i e;subst e;cases hf;exact⟨zp 0,(fun c hc=>by simp at hc;rcases hc with rfl|rfl|rfl|rfl|rfl<;>trivial),Bs,rfl,fun h=>(jbM.1 h).2 rfl,hBs⟩
   ·cases hf
  ·simp only[find]at hf hf';split at hf
   ·rename_i e;subst e;rw[if_neg hne]at hf';cases hf'
   ·cases hf
 case next =>
  rintro I1 st1 a1' w1 hr1 hag1 hbl1 hle;obtain⟨I2,hr2,hag2⟩:=hle.rel hr1;obtain⟨B',g',hh2⟩:=hr2.heap;have hbk:I2 0=.pointer (some ⟨Bs,0,none⟩):=(hag2 0 (zp 0)).trans (hag1 0 (zp 0))
  have hgr:W.grownBy w1 none:=by
   refine⟨hbl1.os,hbl1.tape,hbl1.output,hbl1.size,fun k hk _=>?_⟩
   by_cases e:k=Bs
   ·subst e;obtain⟨_,_,g,hg,_,hheap⟩:=hh2.ok 0 _ rfl;rw[hbk]at hg
    have e:g=k:=by
     have:some (⟨k,0,none⟩:Addr)=some ⟨g,0,none⟩:=kx hg;cases this;rfl
    subst e;rw[hheap,hBs];rfl
   ·exact hbl1.block k ⟨hk,e⟩
  have hJ1:J (prs [b0,b1,b2,a0,a1] 0) w1:=hJ [] W w1 none h0 hgr (fun r e=>by cases e)
  have hge:∀g,(I2 1).ownBlock=some g->Far w1 g:=fun g hg=>by
   refine hF0 _ _ hgr ?_ (O.blk_lt (hh2.ok 1 _ rfl).2.2 hg).1;have h3:=(hh2.ok 1 _ rfl).2.2.2 g hg;have hne:g≠Bs:=fun e=>hh2.apart 1 _ 0 _ g rfl rfl (by decide) hg (by rw[hbk,e];rfl);have:¬g<W.heap.size:=fun hl=>h3 (.inl (g'.le.kp g ⟨hl,hne⟩));omega
  have hrow:jaO w1 (I2 1) (.ints .i64 [b0,b1,b2,a0,a1]):=jca (hh2.ok 1 _ rfl).2.2 rfl
  have hbet:Bet Far y [b0,b1,b2,a0,a1] 0 a1' w1:=by
   refine⟨fun _=>I2 1,⟨fun t v hv=>?_,hr2.size,hr2.defers,⟨kd fun x=>x<w1.heap.size,Grow.refl _ _ _ _,⟨fun x o hf=>?_,fun x o x' o' b hf hf' hne hb=>?_,jft⟩⟩,fun k hk=>jbM.1 hk,zq _⟩,fun ad n cap hv=>hge _ (by have hv':I2 1=_:=hv;rw[hv'];rfl)⟩
   ·simp only[stL,jaS]at hv;split at hv
    ·rename_i e;subst e;cases hv;exact⟨trivial,(hr2.tm 11 _ rfl).2⟩
    ·split at hv
     ·rename_i e;subst e;cases hv;exact⟨trivial,(hr2.tm 10 _ rfl).2⟩
     ·split at hv
      ·rename_i e;subst e;cases hv;exact⟨zp 0,(hr2.tm 9 _ rfl).2⟩
      ·split at hv
       ·rename_i e;subst e;cases hv;exact⟨trivial,(hr2.tm 0 _ rfl).2⟩
       ·cases hv
   ·simp only[stL,find]at hf;split at hf
    ·rename_i e;subst e;cases hf;exact⟨zp 0,trivial,hrow,hrow.lt (zp 0)⟩
    ·cases hf
   ·simp only[stL,find]at hf;split at hf
    ·cases hf;cases hb
    ·cases hf
  clear hr2 hr1 hbk hge hrow;have hge1:1<=1:=zq 1;exact jDN n l Kp Far hKF hFg [b0,b1,b2,a0,a1] rfl J Jx hY (fun A B pre hj hg=>hJ pre A B none hj hg (fun r e=>by cases e)) a1' w1 hbet hJ1
end Go.Sx09
end

section
namespace Go.Sx09
open Go Go.Proofs Go.RowKit Go.Shelf Go.Sx Go.Sh
open Go.IntKind (wrap)
attribute [local go_sem] jB
def partB (n:Int):Bool:=decide (-32768<=n)&&decide (n<=32768)
def chkS (b0 b1 b2 a0 a1:Int):Int:=if[b0,b1,b2,a0,a1].all partB=true then 0 else 2
abbrev jdW (b0 b1 b2 a0 a1:Int):Array zt:=#[.int .i64 b0,.int .i64 b1,.int .i64 b2,.int .i64 a0,.int .i64 a1]
set_option maxHeartbeats 2000000 in
def jFA (n:Nat) (b0 b1 b2 a0 a1:Int) (w:zs) :
  fu xI n Tryz.prog 182 #[.agg (jdW b0 b1 b2 a0 a1)] w fun e w'=>e=.returned (.func (.func 185) #[] #[.pointer (some ⟨w.heap.size,0,none⟩)])∧w'=w.alloc (.cells (jdW b0 b1 b2 a0 a1) 148):=by
 refine gy Tryz.func182 rfl trivial ?_ rfl;simp only[Tryz.ntmps182,xQ,zA,qi,gz,gA,je,jf,jS,js,qP,qq]
 gi_wp2
 go_ret
 exact⟨rfl,rfl⟩
def jvp (n:Int):jdU n=some (partB n):=by
 have e:wrap xu ((0:Int)-32768)=-32768:=by decide
 unfold jdU jcL jdr partB;simp only[e]
 by_cases h:-32768<=n
 ·simp[h]
 ·simp[h]
def jyd (n:Int) (w:zs):Calls Tryz.prog 183 #[.int .i64 n] w fun e w'=>e=.returned (.bool (partB n))∧x8 w.heap.size w w':=by
 have h:=(jz1.sound Tryz.func183 (rfl:Tryz.f183.body=some (Tryz.f183.body.getD .skip)) (by kernel_rfl)).sound (fun _=>z3) (kd fun k=>k<w.heap.size) w [.w (.c (.d (.i .i64 n)))] [] 0 _ rfl (jHJ (jvp n)) (fun x hx=>by
  simp only[zW]at hx;subst hx;trivial) ⟨(fun _ _ h=>by cases h),(fun _ _ _ _ _ h=>by cases h),jft⟩ (fun _ h=>jbM.1 h)
 refine h.mono ?_;rintro e w' ⟨I',rfl,hl⟩;refine⟨?_,hl.mono rfl⟩
 show Ending.returned (.bool (val (jdU n)))=_
 rw[jvp];rfl
def jDO (W:zs) (v:zt) (t:TypeId):(W.alloc (.cells #[v] t)).cell? ⟨W.heap.size,0,none⟩=some v∧(W.alloc (.cells #[v] t)).frozen? ⟨W.heap.size,0,none⟩=false:=by
 have h:(W.alloc (.cells #[v] t)).heap[W.heap.size]?=some (.cells #[v] t (0,0)):=World.alloc_heap_new W (.cells #[v] t);constructor
 ·unfold g8;dsimp only;rw[h];rfl
 ·unfold f6;dsimp only;rw[h];rfl
def jz4 {W:zs} {a:Addr} {v:zt} (o:Obj) (h:W.cell? a=some v):(W.alloc o).cell? a=some v:=cell_kept h (fc W o none) (fun r e=>by cases e)
def jwa {W:zs} {a:Addr} {v:zt} (o:Obj) (h:W.cell? a=some v) (hf:W.frozen? a=false):(W.alloc o).frozen? a=false:=(frozen_kept h (fc W o none) (fun r e=>by cases e)).trans hf
def kpc_t {n1:Nat} {A B C:zs} (h:KpC n1 A B) (k:KpC n1 B C):KpC n1 A C:=⟨qS h.size k.size,fun x o hx ho hc=>k.same x o hx (h.same x o hx ho hc) hc⟩
def kpc_b {n1:Nat} {w:zs} (W:zs) (l:Nat) (o o':Obj) (_:w.heap.size<=l) (h:W.heap[l]?=some o) (hc:o.isCells=false) (_:o.isWalk=false):KpC n1 W (W.putObj l o') :=
 ⟨by simp,fun k u _ hk hu=>by
  have hne:l≠k:=fun e=>by subst e;rw[h]at hk;cases hk;rw[hc]at hu;cases hu
  exact(World.putObj_heap_other (fun e=>hne e.symm)).trans hk⟩
def jDP {n1:Nat} {A B:zs} (h:x8 A.heap.size A B):KpC n1 A B:=⟨h.size,fun k o _ hk _=>(h.block k (zH.1 hk).1).trans hk⟩
def jpH {A B:zs} (h:x8 A.heap.size A B):KeepsOthers A B:=⟨h.size,fun k o hk _=>(h.block k (zH.1 hk).1).trans hk⟩
def jAY {b0 b1 b2 a0 a1:Int}:(prs [b0,b1,b2,a0,a1] 5).map (·.2)=[b0,b1,b2,a0,a1]:=rfl
def jH5 {b0 b1 b2 a0 a1:Int} {k:Nat} (hk:k<=5) {x:Nat × Int} (hx:x∈prs [b0,b1,b2,a0,a1] k):x.2∈[b0,b1,b2,a0,a1]:=by
 have h1:x∈prs [b0,b1,b2,a0,a1] 5:=by
  simp only[prs,qa,List.mem_range]at hx ⊢;obtain⟨j,hj,e⟩:=hx;exact⟨j,by omega,e⟩
 rw[<-jAY];exact List.mem_map_of_mem h1
set_option maxHeartbeats 4000000 in
def jIZ (b0 b1 b2 a0 a1:Int) (w:zs) :
  fu xI 9 Tryz.prog 179 #[.agg (jdW b0 b1 b2 a0 a1)] w fun e w'=>e=.returned (.int .i64 (chkS b0 b1 b2 a0 a1))∧x8 w.heap.size w w':=by
 have h1:1<=9:=by omega
 have hro:xI.round=none:=rfl;refine callsIn_of_wp_marks Tryz.func179 rfl trivial ?_ hro;simp only[Tryz.ntmps179,xQ,zA,qi,gz,gA,je,jf,jS,js,qP,qq]
 gi_wp2_with (refine⟨trivial,?_⟩;gi_at_call 182;refine(jFA _ b0 b1 b2 a0 a1 _).mono ?_;rintro e w' ⟨rfl,rfl⟩)
 have c0:(w.alloc (.cells (jdW b0 b1 b2 a0 a1) 148)).heap.size=w.heap.size+1:=fF _ _;have c1:=jDO (w.alloc (.cells (jdW b0 b1 b2 a0 a1) 148)) (.int .i64 0) 27;rw[c0]at c1;have hB0:x8 w.heap.size w (((w.alloc (.cells (jdW b0 b1 b2 a0 a1) 148)).alloc (.cells #[.int .i64 0] 27)).alloc (.cells (jdW b0 b1 b2 a0 a1) 148)):=(((xA _ w).alloc (zq _) _).alloc (by simp) _).alloc (by simp;omega) _;obtain⟨w2,hw2⟩:∃w2,((w.alloc (.cells (jdW b0 b1 b2 a0 a1) 148)).alloc (.cells #[.int .i64 0] 27)).alloc (.cells (jdW b0 b1 b2 a0 a1) 148)=w2:=⟨_,rfl⟩
 have hs2:w2.heap.size=w.heap.size+3:=by rw[<-hw2];simp
 have hc2:w2.cell? ⟨w.heap.size+1,0,none⟩=some (.int .i64 0):=by rw[<-hw2];exact jz4 _ c1.1
 have hf2:w2.frozen? ⟨w.heap.size+1,0,none⟩=false:=by rw[<-hw2];exact jwa _ c1.1 c1.2
 have hh2:w2.heap[w.heap.size+1+1]?=some (.cells (jdW b0 b1 b2 a0 a1) 148 (0,0)):=by
  rw[<-hw2];have:=World.alloc_heap_new ((w.alloc (.cells (jdW b0 b1 b2 a0 a1) 148)).alloc (.cells #[.int .i64 0] 27)) (.cells (jdW b0 b1 b2 a0 a1) 148);rw[fF,c0]at this;exact this
 rw[hw2]at hB0 ⊢
 refine wpIn_rangeFunc_ownF hro h1 (gf:=185) (lb:=#[.pointer (some ⟨w.heap.size+1+1,0,none⟩)]) rfl trivial (enters_of Tryz.func185 (by kernel_rfl) rfl)
  (α:=Nat × Int) (encs:=fun x=>#[.int .i64 (x.1:Int),.int .i64 x.2]) (Kp:=KpC w2.heap.size) (S:=fun ys=>ys=prs [b0,b1,b2,a0,a1] 5) (Sp:=fun pre=>∃k,k<=5∧pre=prs [b0,b1,b2,a0,a1] k) (N:=5) (w0:=w2)
  (fun l J Jx W hW hJ hJx hY h0=>jFz _ l (w.heap.size+1+1) (KpC w2.heap.size) (fun _ k=>w2.heap.size<=k) (fun h hk=>⟨hk,fun o ho hc=>h.same _ o hk ho hc⟩) (fun _ h=>h) b0 b1 b2 a0 a1 J Jx (fun pre x W hp hl _=>hY pre x W hp hl) W (fun _ g _ hg _=>qS hW.size hg) hJ ((hW.block _ (by omega)).trans hh2) h0) kpc_t kpc_b (xA _ _) (fun _=>rfl)
  (fun pre W=>((∀y∈pre,partB y.2=true)∧W.cell? ⟨w.heap.size+1,0,none⟩=some (.int .i64 0)∧W.frozen? ⟨w.heap.size+1,0,none⟩=false)∧x8 w.heap.size w W)
  (fun c pre W=>(c=.ret∧(∃y∈pre,partB y.2=false)∧W.cell? ⟨w.heap.size+1,0,none⟩=some (.int .i64 2))∧x8 w.heap.size w W)
  (OwnFrom.and (Own.from (fun s A B row hs hg hr=>⟨hs.1,cell_kept hs.2.1 hg hr,(frozen_kept hs.2.1 hg hr).trans hs.2.2⟩) _) (ownFrom_below (zq _) (by omega)))
  (fun c=>OwnFrom.and (Own.from (fun s A B row hs hg hr=>⟨hs.1,hs.2.1,cell_kept hs.2.2 hg hr⟩) _) (ownFrom_below (zq _) (by omega)))
  ⟨⟨by simp,hc2,hf2⟩,hB0⟩
  (fun x=>{ tmps:=#[kz (jdW b0 b1 b2 a0 a1),xb (some { block:=w.heap.size,off:=0 }),xb (some { block:=w.heap.size+1,off:=0 }),z3,.int .i64 x.2,kz (jdW b0 b1 b2 a0 a1),.func (.func 185) #[] #[.pointer (some ⟨w.heap.size+1+1,0,none⟩)],.int .i64 (x.1:Int),.int .i64 x.2,z3,z3,z3],defers:=[] }) ?assign ?body ?done ?stop
 case assign =>
  intro l x W K hK
  gi_wp2
  exact hK
 case body =>
  rintro l pre x W ⟨⟨hp,hcr,hfr⟩,hB⟩ _;have hlt:w.heap.size+1<W.heap.size:=qO W ⟨w.heap.size+1,0,none⟩ hcr
  gi_wp2_with (refine⟨trivial,?_⟩;gi_at_call 183;refine(CallsIn.inRound l (fv.2 (jyd x.2 W))).mono ?_;rintro e w' ⟨rfl,hBw⟩;have hcw:=(hBw.cell (p:=⟨w.heap.size+1,0,none⟩) hlt).trans hcr;have hfw:=(hBw.frozen (p:=⟨w.heap.size+1,0,none⟩) hlt).trans hfr)
  ·rename_i hx;have hB':x8 w.heap.size w w':=hB.trans (hBw.mono (by omega));exact⟨(jpH hBw).trans (KeepsOthers.setCell _ _ _),⟨rfl,⟨x,qE.2 (.inr (by simp)),by simpa using hx⟩,yG _ _ _ (by rw[hcw];rfl)⟩,hB'.setCell (p:=⟨w.heap.size+1,0,none⟩) (by simp) _⟩
  ·rename_i hx;have hB':x8 w.heap.size w w':=hB.trans (hBw.mono (by omega));exact⟨jpH hBw,jDP hBw,⟨fun y hy=>(qE.1 hy).elim (hp y) (fun e=>by simp at e;subst e;simpa using hx),hcw,hfw⟩,hB'⟩
 case done =>
  rintro D ys W hD rfl ⟨⟨hne,hcr,hfr⟩,hB⟩ hK
  gi_wp2
  have hK':=(KeepsOthers.setCell W ⟨w.heap.size+1,0,none⟩ (.int .i64 0)).same D _ hK rfl;refine⟨by simp,.inl ⟨_,_,rfl,run_takeDeferred hK',?_⟩⟩;have hc5:=cell_kept (yG W ⟨w.heap.size+1,0,none⟩ (.int .i64 0) (by rw[hcr];rfl)) (grownBy_putObj' _ D (.deferred none)) (fun r e=>by cases e;exact⟨_,hK',rfl⟩)
  have hall:chkS b0 b1 b2 a0 a1=0:=by
   unfold chkS;rw[if_pos];rw[<-jAY,List.all_map];exact zy.2 fun y hy=>hne y hy
  refine⟨.int .i64 0,?_,by rw[hall],(hB.setCell (p:=⟨w.heap.size+1,0,none⟩) (by simp) _).trans (belowK_b (w:=w) (zq _) _ D _ _ (by omega) hK' rfl rfl)⟩;simp[results,Tryz.f179,go_sem,hc5]
 case stop =>
  rintro D c pre W hD ⟨k,hk,rfl⟩ ⟨⟨rfl,⟨y,hy,hpy⟩,hcr⟩,hB⟩ hK
  gi_wp2
  refine⟨by simp,.inl ⟨_,_,rfl,run_takeDeferred hK,?_⟩⟩;have hc5:=cell_kept hcr (grownBy_putObj' _ D (.deferred none)) (fun r e=>by cases e;exact⟨_,hK,rfl⟩)
  have hall:chkS b0 b1 b2 a0 a1=2:=by
   unfold chkS;rw[if_neg];intro h;have:=zy.1 h y.2 (jH5 hk hy);rw[hpy]at this;cases this
  refine⟨.int .i64 2,?_,by rw[hall],hB.trans (belowK_b (w:=w) (zq _) W D _ _ (by omega) hK rfl rfl)⟩;simp[results,Tryz.f179,go_sem,hc5]
def toAs0 {I:Env} (w:zs) {args:List V} {as_:List A} (has:jiP [] args=some as_):(jdz 0 as_).map (V.val fun i=>(args[i]?.map (V.val I)).getD z3)=args.map (V.val I) :=
 (jvg (I:=I) (B:=kd fun _=>False) (nx:=0) (hp:=[]) (w:=w) ⟨(fun _ _ h=>by cases h),(fun _ _ _ _ _ h=>by cases h),jft⟩ args _ 0 (fun i=>(args[i]?.map (V.val I)).getD z3) has (fun i v hv=>by simp[hv])).1
def gCheckSection:List A->Option (Prop × List RV)
 |[.s [.i .i64 b0,.i .i64 b1,.i .i64 b2,.i .i64 a0,.i .i64 a1]]=>some (True,[.d (.i .i64 (chkS b0 b1 b2 a0 a1))])
 |_=>none
def jwb {f:Nat} {fn:Func} {body:Code} {g:List A->Option (Prop × List RV)} (hf:Tryz.prog.funcs[f]?=some fn) (hb:fn.body=some body) (hn:(fn.name == "runtime.NumGoroutine")=false)
  (h:∀(args:List V) (as_:List A) ob rs (I:Env) (w:zs),jiP [] args=some as_->g as_=some (ob,rs)->ob->Calls Tryz.prog f (args.map (V.val I)).toArray w fun e w'=>e=.returned ((jb7 (rvW 0 rs)).val I)∧x8 w.heap.size w w')
  (hd:∀as_ ob rs,g as_=some (ob,rs)->(∀a∈as_,∀c,a≠.r c)∧∀r∈rs,∀t c,r≠.row t c):jaf Tryz.prog f true (jwM g):=by
 refine .inl ⟨jdn hf hb hn,fun I B w args hp nx r hS hob hlt hh hB=>?_⟩;unfold jwM at hS;split at hS
 ·rename_i as_ has;split at hS
  ·rename_i ob rs hg;cases hS;obtain⟨h1,h2⟩:=hd as_ ob rs hg
   have has':∀(args:List V) (as_:List A),jiP hp args=some as_->(∀a∈as_,∀c,a≠.r c)->jiP [] args=some as_:=by
    intro args
    induction args with
    |nil=>intro as_ h _;exact h
    |cons v vs ih =>
     intro as_ h hno;simp only[jiP]at h ⊢;split at h
     ·rename_i a r ha hr;cases h
      have e1:toA [] v=some a:=by
       unfold toA at ha ⊢;split at ha
       ·exact ha
       ·exact ha
       ·exact ha
       ·split at ha
        ·split at ha
         ·cases ha
         ·cases ha;exact absurd rfl (hno _ zw _)
        ·cases ha
       ·cases ha
      rw[e1,ih r hr (fun a ha=>hno a (zu _ ha))]
     ·cases h
   have hrv:∀(rs:List RV) (n m:Nat) (hp:Hp),(∀r∈rs,∀t c,r≠.row t c)->rvW n rs=rvW m rs∧jiQ n rs hp=hp∧jel n rs=n∧∀x∈rvW n rs,W.lt n x:=by
    intro rs
    induction rs with
    |nil=>exact fun n m hp _=>⟨rfl,rfl,rfl,fun _ h=>by cases h⟩
    |cons r rs ih =>
     intro n m hp hno;have ih:=ih n m hp (fun r hr=>hno r (zu _ hr));cases r with
     |d x=>exact⟨by simp only[rvW,ih.1],ih.2.1,ih.2.2.1,fun u hu=>by
       rcases qp.1 hu with rfl|hu
       ·trivial
       ·exact ih.2.2.2 u hu⟩
     |s l=>exact⟨by simp only[rvW,ih.1],ih.2.1,ih.2.2.1,fun u hu=>by
       rcases qp.1 hu with rfl|hu
       ·intro y hy;obtain⟨z,_,rfl⟩:=qa.1 hy;trivial
       ·exact ih.2.2.2 u hu⟩
     |row t c=>exact absurd rfl (hno _ zw t c)
   refine(h args as_ ob rs I w (has' args as_ has h1) hg hob).mono ?_;rintro e w' ⟨rfl,hbl⟩;obtain⟨e1,e2,e3,e4⟩:=hrv rs nx 0 hp h2;refine⟨I,by rw[<-e1];rfl,jak.refl _ _,(?_:V.lt (jel nx rs) (jb7 (rvW nx rs))),(?_:nx<=jel nx rs),⟨B,Grow.refl _ _ _ _,(?_:HRel I B (jiQ nx rs hp) (jel nx rs) w')⟩,jc4 hbl hB,fun _=>hbl,fun _ h o k hle hf _=>?_⟩
   ·rw[e3];exact jgN e4
   ·rw[e3];exact zq _
   ·rw[e2,e3];exact hh.below hbl hB
   ·have hf:find (jiQ nx rs hp) h=some o:=hf;rw[e2]at hf;have:=(hh.ok h o hf).1;omega
  ·cases hS
 ·cases hS
def checkSection_ok:jaf Tryz.prog 179 true (jwM gCheckSection):=by
 refine jwb (fn:=Tryz.f179) (body:=bodyOf Tryz.f179) Tryz.func179 (by kernel_rfl) (by kernel_rfl) ?_ ?_
 ·intro args as_ ob rs I w has hg ho;unfold gCheckSection at hg;split at hg
  ·rename_i b0 b1 b2 a0 a1;cases hg
   have e:(args.map (V.val I)).toArray=#[.agg (jdW b0 b1 b2 a0 a1)]:=by
    have hto:=toAs0 (I:=I) w has;rw[<-hto];rfl
   rw[e];refine(fv.1 (jIZ b0 b1 b2 a0 a1 w)).mono ?_;rintro e w' ⟨rfl,h⟩;exact⟨rfl,h⟩
  ·cases hg
 ·intro as_ ob rs hg;unfold gCheckSection at hg;split at hg
  ·cases hg;refine⟨fun a ha c=>?_,fun r hr t c=>?_⟩
   ·simp only[zW]at ha;subst ha;exact fun h=>by cases h
   ·simp only[zW]at hr;subst hr;exact fun h=>by cases h
  ·cases hg
end Go.Sx09
namespace Go.Sh
open Go Go.Proofs Go.RowKit Go.Sx
abbrev sp_179:jaa->jaa:=jan 179 true (jwM Sx09.gCheckSection)
def sp_179_ok {sp:jaa} (h:jab Tryz.prog sp):jab Tryz.prog (sp_179 sp):=jag Sx09.checkSection_ok h
end Go.Sh
end

section
namespace Go.Sh
open Go Go.Proofs Go.RowKit Go.Sx
abbrev sp_123:jaa->jaa:=sp_123_124
def sp_123_ok {sp:jaa} (h:jab Tryz.prog sp):jab Tryz.prog (sp_123 sp):=sp_123_124_ok h
abbrev sp_125:jaa->jaa:=sp_125_126
def sp_125_ok {sp:jaa} (h:jab Tryz.prog sp):jab Tryz.prog (sp_125 sp):=sp_125_126_ok h
open Go.IntKind (wrap)
def jhn:List (Option Cont):=[some (.recs 5 [])]
def y91 (c:List (List Int)) (x0:Int):Option (Int ⊕ ((Int × Int) ⊕ Unit)) :=
 if x0<(↑c.length:Int)then
  if 0<=x0∧x0<(↑c.length:Int)then
  if zg x0<ze c then
   if(Sx09.chkS (za (za c x0.toNat []) 0 (0:Int)) (za (za c x0.toNat []) 1 (0:Int)) (za (za c x0.toNat []) 2 (0:Int)) (za (za c x0.toNat []) 3 (0:Int)) (za (za c x0.toNat []) 4 (0:Int))!=0)=true then
   some (.inr ((.inl ((x0,Sx09.chkS (za (za c x0.toNat []) 0 (0:Int)) (za (za c x0.toNat []) 1 (0:Int)) (za (za c x0.toNat []) 2 (0:Int)) (za (za c x0.toNat []) 3 (0:Int)) (za (za c x0.toNat []) 4 (0:Int)))))))
   else
   some (.inl (wrap .i64 (x0+1)))
  else none
  else none
 else
  some (.inr ((.inr ())))
def jlT (u4:Int × Int):Option (Int × Int) :=
 some (u4.1,u4.2)
def jlU (u9:Unit):Option (Int × Int) :=
 some (((0:Int),0))
def jgo:((Int × Int) ⊕ Unit)->Option (Int × Int) :=
 (qC (jlT) (jlU))
def jqA (c:List (List Int)):Option (Int × Int) :=
 if(↑c.length:Int)>6 then
  some (((0:Int),8))
 else
  zb (jae (y91 c) big (0:Int)) (jgo)
def y258:List A->Option (Prop × List RV)
 |[.r (.recs 5 c)]=>some (ok (jqA c),[.d (.i .i64 ((val (jqA c)).1)),.d (.i .i64 ((val (jqA c)).2))])
 |_=>none
abbrev sp_174:jaa->jaa:=jan 174 true (jar jhn y258)
abbrev jgp (c:List (List Int)) (r:Int × Int):Lp (Int × Nat) Int (((Int × Int) ⊕ Unit)) (Int × Int) (Int × Int) :=
 ⟨fun z=>z.1,fun z=>z.2,fun z x n=>(x,n),fun z=>y91 c,fun z=>jgo,fun z=>top r,fun z=>0,[.c fun _=>(↑c.length:Int),.c fun vv=>vv.1,.c fun _=>c]⟩
def jqB (c:List (List Int)) (r:Int × Int):Sk (top r) (jqA c) :=
 .br
 (.obT (.obT (.rc)))
 (.loop (jgp c r) (fun kk=>((0:Int),big)) fun z0 =>
 .br
 (.ob (.ob (.obT (.brB
 (.exit (.obT (.obT (.rc))))
 (.next)))))
 (.exit (.obT (.obT (.rc)))))
def joJ (c:List (List Int)) (r:Int × Int) (h:zb (jqA c) some=some r):ja1 Tryz.f174 ((sp_179 sp0)) (fun gs id _=>match id with
 |0=>some ⟨Int × Nat,fun z=>⟨[(10,.w (.c (.o 0))),(11,.w (.c (.d (.i .i64 ((↑c.length:Int)))))),(12,.w (.c (.d (.i .i64 z.1))))],[(0,.ext (.recs 5 c))],1⟩,fun z=>(jgp c r).inv z,fun z=>z.2⟩
 |_=>none) [.r (.recs 5 c)] [.d (.i .i64 r.1),.d (.i .i64 r.2)] :=
 Sk.vc (jqB c r) (by kernel_rfl) h
def joK:jaf Tryz.prog 174 true (jar jhn y258):=by
 refine jaA (sp:=(sp_179 sp0)) (fn:=Tryz.f174) (body:=bodyOf Tryz.f174) mixed (sp_179_ok jaj) Tryz.func174 (by kernel_rfl) (by kernel_rfl) fun as_ ob rs h ho=>?_;unfold y258 at h;split at h
 ·rename_i c;cases h;exact⟨zh rfl,_,_,joJ c _ (jai ho)⟩
 ·cases h
def sp_174_ok {sp:jaa} (h:jab Tryz.prog sp):jab Tryz.prog (sp_174 sp):=jag joK h
def jjY:List (Option Cont):=[some (.recs 5 [])]
def y39 (c:List (List Int)):Option Int :=
 zb (jqA c) fun r0 =>
 some r0.2
def jeO:List A->Option (Prop × List RV)
 |[.r (.recs 5 c)]=>some (ok (y39 c),[.d (.i .i64 ((val (y39 c))))])
 |_=>none
abbrev sp_161:jaa->jaa:=jan 161 true (jar jjY jeO)
def jtY (c:List (List Int)) (r:Int):Sk (top r) (y39 c) :=
 .call (.obT (.rc))
def jsj (c:List (List Int)) (r:Int) (h:zb (y39 c) some=some r):ja1 Tryz.f161 ((sp_174 sp0)) (fun _ _ _=>none) [.r (.recs 5 c)] [.d (.i .i64 r)] :=
 Sk.vc (jtY c r) (by kernel_rfl) h
def jsk:jaf Tryz.prog 161 true (jar jjY jeO):=by
 refine jaA (sp:=(sp_174 sp0)) (fn:=Tryz.f161) (body:=bodyOf Tryz.f161) mixed (sp_174_ok jaj) Tryz.func161 (by kernel_rfl) (by kernel_rfl) fun as_ ob rs h ho=>?_;unfold jeO at h;split at h
 ·rename_i c;cases h;exact⟨zh rfl,_,_,jsj c _ (jai ho)⟩
 ·cases h
def sp_161_ok {sp:jaa} (h:jab Tryz.prog sp):jab Tryz.prog (sp_161 sp):=jag jsk h
def jne:List (Option Cont):=[some (.recs 5 [])]
def y25 (c:List (List Int)):Option (List (List Int) × Int) :=
 zb (y39 c) fun r0 =>
 if(r0 != 0)=true then
  some ([],r0)
 else
  if 0<=(↑c.length:Int)∧(↑c.length:Int)=(↑c.length:Int)∧(↑(32:Nat):Int)*(↑c.length:Int)<=281474976710656∧(↑c.length:Int)<=9223372036854775807 then
  some ((zf (zg (↑c.length:Int)) [(0:Int),0,0,0],0))
  else none
def jho:List A->Option (Prop × List RV)
 |[.r (.recs 5 c)]=>some (ok (y25 c),[.row 174 (.recs 4 ((val (y25 c)).1)),.d (.i .i64 ((val (y25 c)).2))])
 |_=>none
abbrev sp_130:jaa->jaa:=jan 130 true (jar jne jho)
def jye (c:List (List Int)) (r:List (List Int) × Int):Sk (top r) (y25 c) :=
 .call (.brB
 (.obT (.obT (.ret (fun r=>(Ob (ze r.1=(0:Nat)) ∧
 (Ob (val (y39 c)=r.2) ∧
 True))) ⟨⟨rfl⟩,⟨⟨rfl⟩,trivial⟩⟩)))
 (.ob (.obT (.obT (.rc)))))
def jwc (c:List (List Int)) (r:List (List Int) × Int) (h:zb (y25 c) some=some r):ja1 Tryz.f130 ((sp_161 sp0)) (fun _ _ _=>none) [.r (.recs 5 c)] [.row 174 (.recs 4 r.1),.d (.i .i64 r.2)] :=
 Sk.vc (jye c r) (by kernel_rfl) h
def jwd:jaf Tryz.prog 130 true (jar jne jho):=by
 refine jaA (sp:=(sp_161 sp0)) (fn:=Tryz.f130) (body:=bodyOf Tryz.f130) mixed (sp_161_ok jaj) Tryz.func130 (by kernel_rfl) (by kernel_rfl) fun as_ ob rs h ho=>?_;unfold jho at h;split at h
 ·rename_i c;cases h;exact⟨zh rfl,_,_,jwc c _ (jai ho)⟩
 ·cases h
def sp_130_ok {sp:jaa} (h:jab Tryz.prog sp):jab Tryz.prog (sp_130 sp):=jag jwd h
def ji8:List SV:=[.a [.d,.x (.st zS [])],.c (.d)]
def jds (u3:ByteArray) (u1:List (List NC)) (i:Int):Option Int :=
 if 0<=i∧i<(↑u1.length:Int)then
  if zg i<ze u1 then
  zb (jk4 (nI u1 i.toNat (7:Nat)) u3 u1) fun r0 =>
  if(!r0)=true then
   if(nI u1 i.toNat (7:Nat)!=(-1:Int))=true then
   zb (jhk (nS u1 i.toNat (0:Nat))) fun r1 =>
   if(!r1)=true then
    some (4:Int)
   else
    if(nS u1 i.toNat (0:Nat)==qD #[(115:UInt8),(116:UInt8),(97:UInt8),(110:UInt8),(100:UInt8)])=true then
    some (4:Int)
    else
    if 0<=zM none (0:Int)∧zM none 0<=zM (some i) (↑u1.length:Int)∧zM (some i) (↑u1.length:Int)<=(↑u1.length:Int)then
     zb (y6 (yH (zg (zM (some i) (↑u1.length:Int))-0) (yI (0:Nat) u1)) (nS u1 i.toNat (0:Nat)) (nI u1 i.toNat (1:Nat)) (nL u1 i.toNat (2:Nat)) (nL u1 i.toNat (3:Nat)) (nL u1 i.toNat (4:Nat)) (nI u1 i.toNat (5:Nat)) (nR u1 i.toNat (6:Nat)) (nI u1 i.toNat (7:Nat))) fun r2 =>
     if(r2)=true then
     some (5:Int)
     else
     zb (y47 (nI u1 i.toNat (1:Nat)) (0:Int) (4:Int)) fun r3 =>
     if(!r3)=true then
      some (15:Int)
     else
      zb (jc0 (nS u1 i.toNat (0:Nat)) (nI u1 i.toNat (1:Nat)) (nL u1 i.toNat (2:Nat)) (nL u1 i.toNat (3:Nat)) (nL u1 i.toNat (4:Nat)) (nI u1 i.toNat (5:Nat)) (nR u1 i.toNat (6:Nat)) (nI u1 i.toNat (7:Nat))) fun r4 =>
      if(!r4)=true then
      some (10:Int)
      else
      some (6:Int)
    else none
   else
   zb (y11 (nL u1 i.toNat (2:Nat)) u3 u1) fun r5 =>
   zb (jhk (nS u1 i.toNat (0:Nat))) fun r1 =>
   if(!r1)=true then
    some (4:Int)
   else
    if(nS u1 i.toNat (0:Nat)==qD #[(115:UInt8),(116:UInt8),(97:UInt8),(110:UInt8),(100:UInt8)])=true then
    some (4:Int)
    else
    if 0<=zM none (0:Int)∧zM none 0<=zM (some i) (↑u1.length:Int)∧zM (some i) (↑u1.length:Int)<=(↑u1.length:Int)then
     zb (y6 (yH (zg (zM (some i) (↑u1.length:Int))-0) (yI (0:Nat) u1)) (nS u1 i.toNat (0:Nat)) (nI u1 i.toNat (1:Nat)) (nL u1 i.toNat (2:Nat)) (nL u1 i.toNat (3:Nat)) (nL u1 i.toNat (4:Nat)) (nI u1 i.toNat (5:Nat)) (nR u1 i.toNat (6:Nat)) (nI u1 i.toNat (7:Nat))) fun r2 =>
     if(r2)=true then
     some (5:Int)
     else
     zb (y47 (nI u1 i.toNat (1:Nat)) (0:Int) (4:Int)) fun r3 =>
     if(!r3)=true then
      some (15:Int)
     else
      zb (jc0 (nS u1 i.toNat (0:Nat)) (nI u1 i.toNat (1:Nat)) (nL u1 i.toNat (2:Nat)) (nL u1 i.toNat (3:Nat)) (nL u1 i.toNat (4:Nat)) (nI u1 i.toNat (5:Nat)) (nR u1 i.toNat (6:Nat)) (nI u1 i.toNat (7:Nat))) fun r4 =>
      if(!r4)=true then
      some (10:Int)
      else
      if(r5)=true then
       some (6:Int)
      else
       zb (jm6 (nL u1 i.toNat (2:Nat))) fun r6 =>
       if(r6)=true then
       some (26:Int)
       else
       zb (jdq (nS u1 i.toNat (0:Nat)) (nI u1 i.toNat (1:Nat)) (nL u1 i.toNat (2:Nat)) (nL u1 i.toNat (3:Nat)) (nL u1 i.toNat (4:Nat)) (nI u1 i.toNat (5:Nat)) (nR u1 i.toNat (6:Nat)) (nI u1 i.toNat (7:Nat))) fun r7 =>
       if(!r7)=true then
        some (2:Int)
       else
        if(nI u1 i.toNat (1:Nat)!=3)=true then
        zb (jhc ((↑(ze (nR u1 i.toNat (6:Nat))):Int)==0) (10:Int)) fun r8 =>
        some r8
        else
        zb (y25 (nR u1 i.toNat (6:Nat))) fun r9 =>
        some r9.2
    else none
  else
   zb (y11 (nL u1 i.toNat (2:Nat)) u3 u1) fun r5 =>
   zb (jhk (nS u1 i.toNat (0:Nat))) fun r1 =>
   if(!r1)=true then
   some (4:Int)
   else
   if(nS u1 i.toNat (0:Nat)==qD #[(115:UInt8),(116:UInt8),(97:UInt8),(110:UInt8),(100:UInt8)])=true then
    some (4:Int)
   else
    if 0<=zM none (0:Int)∧zM none 0<=zM (some i) (↑u1.length:Int)∧zM (some i) (↑u1.length:Int)<=(↑u1.length:Int)then
    zb (y6 (yH (zg (zM (some i) (↑u1.length:Int))-0) (yI (0:Nat) u1)) (nS u1 i.toNat (0:Nat)) (nI u1 i.toNat (1:Nat)) (nL u1 i.toNat (2:Nat)) (nL u1 i.toNat (3:Nat)) (nL u1 i.toNat (4:Nat)) (nI u1 i.toNat (5:Nat)) (nR u1 i.toNat (6:Nat)) (nI u1 i.toNat (7:Nat))) fun r2 =>
    if(r2)=true then
     some (5:Int)
    else
     zb (y47 (nI u1 i.toNat (1:Nat)) (0:Int) (4:Int)) fun r3 =>
     if(!r3)=true then
     some (15:Int)
     else
     zb (jc0 (nS u1 i.toNat (0:Nat)) (nI u1 i.toNat (1:Nat)) (nL u1 i.toNat (2:Nat)) (nL u1 i.toNat (3:Nat)) (nL u1 i.toNat (4:Nat)) (nI u1 i.toNat (5:Nat)) (nR u1 i.toNat (6:Nat)) (nI u1 i.toNat (7:Nat))) fun r4 =>
     if(!r4)=true then
      some (10:Int)
     else
      if(r5)=true then
      some (6:Int)
      else
      zb (jm6 (nL u1 i.toNat (2:Nat))) fun r6 =>
      if(r6)=true then
       some (26:Int)
      else
       zb (jdq (nS u1 i.toNat (0:Nat)) (nI u1 i.toNat (1:Nat)) (nL u1 i.toNat (2:Nat)) (nL u1 i.toNat (3:Nat)) (nL u1 i.toNat (4:Nat)) (nI u1 i.toNat (5:Nat)) (nR u1 i.toNat (6:Nat)) (nI u1 i.toNat (7:Nat))) fun r7 =>
       if(!r7)=true then
       some (2:Int)
       else
       if(nI u1 i.toNat (1:Nat)!=3)=true then
        zb (jhc ((↑(ze (nR u1 i.toNat (6:Nat))):Int)==0) (10:Int)) fun r8 =>
        some r8
       else
        zb (y25 (nR u1 i.toNat (6:Nat))) fun r9 =>
        some r9.2
    else none
  else none
 else none
def ji9:List Lf->Option GT
 |[.d (.s u3),.x (.st [.s,.i .i64,.ints .i64,.ints .i64,.ints .i64,.i .i64,.recs 5,.i .i64] u1),.d (.i .i64 i)]=>some (.leaf (ok (jds u3 u1 i)) [.c (.d (.i .i64 ((val (jds u3 u1 i)))))])
 |_=>none
abbrev sp_79:jaa->jaa:=jan 79 true (jah ji8 ji9)
def jz5 (u3:ByteArray) (u1:List (List NC)) (i r:Int):Sk (top r) (jds u3 u1 i) :=
 .ob (.ob (.call (.brB
 (.brB
 (.call (.brB
 (.obT (.rc))
 (.brB
 (.obT (.rc))
 (.ob (.call (.brB
 (.obT (.rc))
 (.call (.brB
 (.obT (.rc))
 (.call (.brB
 (.obT (.rc))
 (.obT (.rc))))))))))))
 (.call (.call (.brB
 (.obT (.rc))
 (.brB
 (.obT (.rc))
 (.ob (.call (.brB
 (.obT (.rc))
 (.call (.brB
 (.obT (.rc))
 (.call (.brB
 (.obT (.rc))
 (.brB
 (.obT (.rc))
 (.call (.brB
 (.obT (.rc))
 (.call (.brB
 (.obT (.rc))
 (.brB
 (.call (.obT (.rc)))
 (.call (.obT (.rc)))))))))))))))))))))
 (.call (.call (.brB
 (.obT (.rc))
 (.brB
 (.obT (.rc))
 (.ob (.call (.brB
 (.obT (.rc))
 (.call (.brB
 (.obT (.rc))
 (.call (.brB
 (.obT (.rc))
 (.brB
 (.obT (.rc))
 (.call (.brB
 (.obT (.rc))
 (.call (.brB
 (.obT (.rc))
 (.brB
 (.call (.obT (.rc)))
 (.call (.obT (.rc)))))))))))))))))))))))
def jyf (u3:ByteArray) (u1:List (List NC)) (i r:Int) (h:zb (jds u3 u1 i) some=some r):jaG Tryz.f79 ((sp_122 (sp_124 (sp_123 (sp_78 (sp_126 (sp_125 (sp_84 (sp_127 (sp_128 (sp_129 (sp_77 (sp_130 sp0))))))))))))) (fun _ _ _=>none) (jaC ji8 [.d (.s u3),.x (.st zS u1),.d (.i .i64 i)]) [.c (.d (.i .i64 r))] :=
 Sk.vc (jz5 u3 u1 i r) (by kernel_rfl) h
def jyg:jaf Tryz.prog 79 true (jah ji8 ji9):=by
 refine jal (sp:=(sp_122 (sp_124 (sp_123 (sp_78 (sp_126 (sp_125 (sp_84 (sp_127 (sp_128 (sp_129 (sp_77 (sp_130 sp0))))))))))))) (fn:=Tryz.f79) (body:=bodyOf Tryz.f79) mixed (sp_122_ok (sp_124_ok (sp_123_ok (sp_78_ok (sp_126_ok (sp_125_ok (sp_84_ok (sp_127_ok (sp_128_ok (sp_129_ok (sp_77_ok (sp_130_ok jaj)))))))))))) Tryz.func79 (by kernel_rfl) (by kernel_rfl) fun ls t h ho b hb=>?_;unfold ji9 at h;split at h
 ·rename_i u3 u1 i;cases h;obtain rfl:=jap hb;exact⟨zh (by kernel_rfl),_,_,jyf u3 u1 i _ (jai ho)⟩
 ·cases h
def sp_79_ok {sp:jaa} (h:jab Tryz.prog sp):jab Tryz.prog (sp_79 sp):=jag jyg h
def jeP:List SV:=[.a [.d,.x (.st zS [])]]
def y84 (u3:ByteArray) (u1:List (List NC)) (x0:Int):Option (Int ⊕ ((Int × Int) ⊕ Unit)) :=
 if x0<(↑u1.length:Int)then
  zb (jds u3 u1 x0) fun r4 =>
  if(r4 != 0)=true then
  some (.inr ((.inl (x0,r4))))
  else
  some (.inl (wrap .i64 (x0+1)))
 else
  some (.inr ((.inr ())))
def joL (u4:Int × Int):Option (Int × Int) :=
 some (u4.1,u4.2)
def joM (u9:Unit):Option (Int × Int) :=
 some (((0:Int),0))
def y274:((Int × Int) ⊕ Unit)->Option (Int × Int) :=
 (qC (joL) (joM))
def y67 (u3:ByteArray) (u1:List (List NC)):Option (Int × Int) :=
 zb (jhk u3) fun r0 =>
 zb (jhc r0 (4:Int)) fun r1 =>
 zb (jhc (decide ((↑u1.length:Int)<=24)) (8:Int)) fun r2 =>
 zb (jeN [r1,r2]) fun r3 =>
 if(r3 != 0)=true then
  some (((0:Int),r3))
 else
  zb (jae (y84 u3 u1) big (0:Int)) (y274)
def jeQ:List Lf->Option GT
 |[.d (.s u3),.x (.st [.s,.i .i64,.ints .i64,.ints .i64,.ints .i64,.i .i64,.recs 5,.i .i64] u1)]=>some (.leaf (ok (y67 u3 u1)) [.c (.d (.i .i64 ((val (y67 u3 u1)).1))),.c (.d (.i .i64 ((val (y67 u3 u1)).2)))])
 |_=>none
abbrev sp_18:jaa->jaa:=jan 18 true (jah jeP jeQ)
abbrev jig (u3:ByteArray) (u1:List (List NC)) (r:Int × Int):Lp (Int × Nat) Int (((Int × Int) ⊕ Unit)) (Int × Int) (Int × Int) :=
 ⟨fun z=>z.1,fun z=>z.2,fun z x n=>(x,n),fun z=>y84 u3 u1,fun z=>y274,fun z=>top r,fun z=>0,[.c fun _=>0,.c fun _=>(↑u1.length:Int),.c fun vv=>vv.1,.c fun _=>u3,.c fun _=>u1]⟩
def jtZ (u3:ByteArray) (u1:List (List NC)) (r:Int × Int):Sk (top r) (y67 u3 u1) :=
 .call (.call (.call (.call (.brB
 (.obT (.obT (.rc)))
 (.loop (jig u3 u1 r) (fun kk=>((0:Int),big)) fun z0 =>
 .br
 (.call (.brB
 (.exit (.obT (.obT (.rc))))
 (.next)))
 (.exit (.obT (.obT (.rc)))))))))
def jsl (u3:ByteArray) (u1:List (List NC)) (r:Int × Int) (h:zb (y67 u3 u1) some=some r):jaG Tryz.f18 ((sp_78 (sp_77 (sp_76 (sp_79 sp0))))) (fun gs id _=>match id with
 |0=>some ⟨Int × Nat,fun z=>⟨[(1,.w (.c (.p 1 0 1 0))),(23,.w (.c (.d (.i .i64 ((↑u1.length:Int)))))),(24,.w (.c (.d (.i .i64 z.1))))],[(1,.box 24 [.d (.s u3),.o 0]),(0,.xext (XC.st zS u1))],2⟩,fun z=>(jig u3 u1 r).inv z,fun z=>z.2⟩
 |_=>none) (jaC jeP [.d (.s u3),.x (.st zS u1)]) [.c (.d (.i .i64 r.1)),.c (.d (.i .i64 r.2))] :=
 Sk.vc (jtZ u3 u1 r) (by kernel_rfl) h
def jsm:jaf Tryz.prog 18 true (jah jeP jeQ):=by
 refine jal (sp:=(sp_78 (sp_77 (sp_76 (sp_79 sp0))))) (fn:=Tryz.f18) (body:=bodyOf Tryz.f18) mixed (sp_78_ok (sp_77_ok (sp_76_ok (sp_79_ok jaj)))) Tryz.func18 (by kernel_rfl) (by kernel_rfl) fun ls t h ho b hb=>?_;unfold jeQ at h;split at h
 ·rename_i u3 u1;cases h;obtain rfl:=jap hb;exact⟨zh (by kernel_rfl),_,_,jsl u3 u1 _ (jai ho)⟩
 ·cases h
def sp_18_ok {sp:jaa} (h:jab Tryz.prog sp):jab Tryz.prog (sp_18 sp):=jag jsm h
end Go.Sh
end

section
namespace Go.Sx09
open Go Go.Proofs Go.RowKit Go.Shelf Go.Sx
attribute [local go_sem] jB
structure KpS (K:Nat->Prop) (A C:zs):Prop where
 size:A.heap.size<=C.heap.size
 same:∀k o,K k->A.heap[k]?=some o->o.isCells=true->C.heap[k]?=some o
def kps_t {K:Nat->Prop} {A B C:zs} (h:KpS K A B) (k:KpS K B C):KpS K A C:=⟨qS h.size k.size,fun x o hx ho hc=>k.same x o hx (h.same x o hx ho hc) hc⟩
def kps_b {K:Nat->Prop} {w:zs} (W:zs) (l:Nat) (o o':Obj) (_:w.heap.size<=l) (h:W.heap[l]?=some o) (hc:o.isCells=false) (_:o.isWalk=false):KpS K W (W.putObj l o') :=
 ⟨by simp,fun k u _ hk hu=>by
  have hne:l≠k:=fun e=>by subst e;rw[h]at hk;cases hk;rw[hc]at hu;cases hu
  exact(World.putObj_heap_other (fun e=>hne e.symm)).trans hk⟩
def jDQ {K:Nat->Prop} {A B:zs} (h:x8 A.heap.size A B):KpS K A B:=⟨h.size,fun k o _ hk _=>(h.block k (zH.1 hk).1).trans hk⟩
def needL (L:List Int) (st:Int):List Int:=if st=-1 then L else L++[st]
def stN (y:zt) (L:List Int) (v:List zt) (st:Int) (k:Nat):St :=
 ⟨[(18,vi .i64 k),(17,vi .i64 L.length),(16,.w (.c (.o 0))),(4,.w (.c (.p 1 0 1 0))),(0,.w (.c (.d (.v y))))],[(0,.ext (.ints .i64 L)),(1,.ebox (v.map (fun x=>C.d (.v x))++[.d (.i .i64 st)]))],2⟩
def stNc (y:zt) (L:List Int) (v:List zt) (st:Int) (k:Nat):St:=⟨(19,vb (decide ((k:Int)<L.length)))::(stN y L v st k).tm,(stN y L v st k).hp,2⟩
def stNd (y:zt) (L:List Int) (v:List zt) (st:Int) (k:Nat):St:=⟨(6,vi .i64 (L.getD k 0))::(stN y L v st k).tm,(stN y L v st k).hp,2⟩
def stNe (y:zt) (L:List Int) (v:List zt) (st:Int) (k:Nat):St:=⟨(29,vb (st != -1))::(stN y L v st k).tm,(stN y L v st k).hp,2⟩
abbrev pn (c:Code) (st st2:St):Prop:=sx Tryz.prog (fun _=>none) 34 2 0 (fun _ _ _=>none) (fun _ _ _=>False) c 0 [] st (fun e st'=>match e with | .normal=>Le 2 st' st2|_=>False)
section
variable (y:zt) (L:List Int) (v0 v1 v2 v3 v4 v5 v6:zt) (st:Int) (k:Nat)
def pn1:pn (sub [1,0,1,0,0,0] (bodyOf Tryz.f132)) (stN y L [v0,v1,v2,v3,v4,v5,v6] st k) (stNc y L [v0,v1,v2,v3,v4,v5,v6] st k):=by
 refine jI (by kernel_rfl:(Ob ((decide ((k:Int)<L.length))=decide ((k:Int)<L.length))∧Ob ((k:Int)=k)∧Ob ((L.length:Int)=L.length)∧Ob ((0:Nat)=0)∧Ob (y=y)∧Ob (L=L)∧Ob (v0=v0)∧Ob (v1=v1)∧Ob (v2=v2)∧Ob (v3=v3)∧Ob (v4=v4)∧Ob (v5=v5)∧Ob (v6=v6)∧Ob (st=st)∧True)=_) ?_;exact⟨⟨rfl⟩,⟨rfl⟩,⟨rfl⟩,⟨rfl⟩,⟨rfl⟩,⟨rfl⟩,⟨rfl⟩,⟨rfl⟩,⟨rfl⟩,⟨rfl⟩,⟨rfl⟩,⟨rfl⟩,⟨rfl⟩,⟨rfl⟩,trivial⟩
def pn2 (hk:k<L.length):pn (sub [1,0,1,0,0,1,1,0,0,0] (bodyOf Tryz.f132)) (stNc y L [v0,v1,v2,v3,v4,v5,v6] st k) (stNd y L [v0,v1,v2,v3,v4,v5,v6] st k):=by
 refine jI (by kernel_rfl:(Ob (0<=(k:Int)∧(k:Int)<(L.length:Int))∧Ob ((k:Int).toNat<L.length)∧Ob (L.getD (k:Int).toNat 0=L.getD k 0)∧Ob ((k:Int)=k)∧Ob ((L.length:Int)=L.length)∧Ob ((0:Nat)=0)∧Ob (y=y)∧Ob (L=L)∧Ob (v0=v0)∧Ob (v1=v1)∧Ob (v2=v2)∧Ob (v3=v3)∧Ob (v4=v4)∧Ob (v5=v5)∧Ob (v6=v6)∧Ob (st=st)∧True)=_) ?_;exact⟨⟨by omega⟩,⟨by omega⟩,⟨rfl⟩,⟨rfl⟩,⟨rfl⟩,⟨rfl⟩,⟨rfl⟩,⟨rfl⟩,⟨rfl⟩,⟨rfl⟩,⟨rfl⟩,⟨rfl⟩,⟨rfl⟩,⟨rfl⟩,⟨rfl⟩,⟨rfl⟩,trivial⟩
def pn3 (hk:(k:Int)+1<=9223372036854775807):pn (sub [1,0,1,0,0,1,1,1] (bodyOf Tryz.f132)) (stN y L [v0,v1,v2,v3,v4,v5,v6] st k) (stN y L [v0,v1,v2,v3,v4,v5,v6] st (k+1)):=by
 refine jI (by kernel_rfl:(Ob (xu.wrap ((k:Int)+1)=((k+1:Nat):Int))∧Ob ((L.length:Int)=L.length)∧Ob ((0:Nat)=0)∧Ob (y=y)∧Ob (L=L)∧Ob (v0=v0)∧Ob (v1=v1)∧Ob (v2=v2)∧Ob (v3=v3)∧Ob (v4=v4)∧Ob (v5=v5)∧Ob (v6=v6)∧Ob (st=st)∧True)=_) ?_;refine⟨⟨?_⟩,⟨rfl⟩,⟨rfl⟩,⟨rfl⟩,⟨rfl⟩,⟨rfl⟩,⟨rfl⟩,⟨rfl⟩,⟨rfl⟩,⟨rfl⟩,⟨rfl⟩,⟨rfl⟩,⟨rfl⟩,trivial⟩;rw[g7 _ (by omega)];omega
def pn4:pn (sub [1,1,0] (bodyOf Tryz.f132)) (stN y L [v0,v1,v2,v3,v4,v5,v6] st k) (stNe y L [v0,v1,v2,v3,v4,v5,v6] st k):=by
 refine jI (by kernel_rfl:(Ob True∧Ob ((st != (-1:Int))=(st != (-1:Int)))∧Ob ((k:Int)=k)∧Ob ((L.length:Int)=L.length)∧Ob ((0:Nat)=0)∧Ob (y=y)∧Ob (L=L)∧Ob (v0=v0)∧Ob (v1=v1)∧Ob (v2=v2)∧Ob (v3=v3)∧Ob (v4=v4)∧Ob (v5=v5)∧Ob (v6=v6)∧Ob (st=st)∧True)=_) ?_;exact⟨⟨trivial⟩,⟨rfl⟩,⟨rfl⟩,⟨rfl⟩,⟨rfl⟩,⟨rfl⟩,⟨rfl⟩,⟨rfl⟩,⟨rfl⟩,⟨rfl⟩,⟨rfl⟩,⟨rfl⟩,⟨rfl⟩,⟨rfl⟩,⟨rfl⟩,trivial⟩
end
def jgO {I:Env} {B:Kd} {N n0:Nat} {st:St} {a:Act} {w:zs} {t:Nat} {v:V} (h:Rel I B N n0 st a w) (hv:v.lt st.nx) (hlt:t<N):Rel I B N n0 ⟨(t,v)::st.tm,st.hp,st.nx⟩ (a.put (some t) (v.val I)) w:=by
 refine⟨fun x u hx=>?_,by rw[jbu];exact h.size,by rw[jb5];exact h.defers,h.heap,h.le,h.n0⟩;simp only[jaS]at hx;rw[jbG (fun y hy=>by cases hy;rw[h.size];exact hlt)];split at hx
 ·rename_i e;subst e;cases hx;exact⟨hv,by rw[if_pos rfl]⟩
 ·rename_i e;rw[if_neg (fun e'=>e (yc e'))];exact h.tm x u hx
def jyh {o:qu} {v:zt} {n:Nat} {a:Act} {w:zs} {K:Act->zs->Prop} {Q:Exit->Act->zs->Prop} (h:(qR a.eval o).run Tryz.prog w=.ok (.value v) w) (hK:K (a.put o.dst v) w):o.wpIn xI n Tryz.prog a w K Q:=by
 refine⟨fun _ _=>trivial,?_⟩;rw[jn,jC,h];exact hK
def jdA {o:qu} {t n N n0:Nat} {ob:Prop} {v:V} {I:Env} {B:Kd} {st:St} {a:Act} {w:zs} {K:Act->zs->Prop} {Q:Exit->Act->zs->Prop} (hr:Rel I B N n0 st a w) (hs:jci Tryz.prog o.op (jcw st) st.hp=some (ob,v)) (hob:ob) (hd:o.dst=some t) (ht:t<N)
  (hK:∀a',Rel I B N n0 ⟨(t,v)::st.tm,st.hp,st.nx⟩ a' w->K a' w):o.wpIn xI n Tryz.prog a w K Q:=by
 obtain⟨B',_,hh⟩:=hr.heap;have h1:=jd5 hh hr.reads hs hob;refine jyh h1.1 ?_;rw[hd];exact hK _ (jgO hr h1.2 ht)
def jAZ {I:Env} {B:Kd} {N n0:Nat} {s s0:St} {a:Act} {w:zs} (h:Rel I B N n0 s0 a w) (ht:∀t v,jaS s.tm t=some v->jaS s0.tm t=some v) (hh:s.hp=s0.hp) (hn:s.nx=s0.nx):Rel I B N n0 s a w :=
 ⟨fun t v hv=>by rw[hn];exact h.tm t v (ht t v hv),h.size,h.defers,by rw[hh,hn];exact h.heap,h.le,by rw[hn];exact h.n0⟩
structure BetN (K:Nat->Prop) (y:zt) (L:List Int) (v:List zt) (st:Int) (k:Nat) (a:Act) (w:zs):Prop where
 rel:∃I,Rel I (kd fun x=>x<w.heap.size) 34 2 (stN y L v st k) a w∧(∀ad n cap,I 0=.slice (some ad) n cap->0<n->K ad.block)∧∀b o,I 1=.pointer (some ⟨b,o,none⟩)->K b
def joy {K:Nat->Prop} {I:Env} {B:Kd} {L:List Int} {v:List zt} {st:Int} {a:Act} {w w':zs} {s:St} (h:Rel I B 34 2 s a w) (hs:s.hp=[(0,.ext (.ints .i64 L)),(1,.ebox (v.map (fun x=>C.d (.v x))++[.d (.i .i64 st)]))]) (h0:∀ad n cap,I 0=.slice (some ad) n cap->0<n->K ad.block) (h1:∀b o,I 1=.pointer (some ⟨b,o,none⟩)->K b) (hk:KpS K w w') :
  Rel I (kd fun x=>x<w'.heap.size) 34 2 s a w':=by
 obtain⟨B',_,hh⟩:=h.heap
 have keep:∀{b:Nat} {off:Nat} {u:zt},K b->w.cell? ⟨b,off,none⟩=some u->w'.cell? ⟨b,off,none⟩=some u:=fun {b off u} hK hc=>by
  obtain⟨o,ho,hoc⟩:=cells_of_cell hc;have h2:=hk.same _ o hK ho hoc;exact(qV (w:=w) (w':=w') (a:=⟨b,off,none⟩) (h2.trans (show w.heap[b]?=some o from ho).symm)).trans hc
 refine⟨h.tm,h.size,h.defers,⟨kd fun x=>x<w'.heap.size,Grow.refl _ _ _ _,⟨fun x o hf=>?_,fun x o x' o' b hf hf' hne hb=>?_,jft⟩⟩,fun k hk=>jbM.1 hk,h.n0⟩
 ·have hx:=hh.ok x o hf;refine⟨hx.1,hx.2.1,?_⟩;simp only[hs,find]at hf;split at hf
  ·rename_i e;subst e;cases hf;obtain⟨⟨ad,cap,hv,hc,hcells⟩,ho⟩:=hx.2.2
   have hrow:jaO w' (I 0) (.ints .i64 L):=by
    refine⟨ad,cap,hv,hc,fun hn=>?_⟩;obtain⟨b,off,hab,hxc⟩:=hcells hn;subst hab;exact⟨b,off,rfl,fun j z hj=>keep (h0 _ _ _ hv hn) (hxc j z hj)⟩
   exact⟨hrow,hrow.lt (zp 0)⟩
  ·split at hf
   ·rename_i e;subst e;cases hf;obtain⟨b,off,hv,hB,hcells⟩:=hx.2.2;have hK:=h1 b off hv;refine⟨b,off,hv,?_,fun j c hj=>keep hK (hcells j c hj)⟩;have hc0:=keep hK (hcells v.length (.d (.i .i64 st)) (by rw[List.getElem?_append_right (by simp)];simp));exact qO w' _ hc0
   ·cases hf
 ·simp only[hs,find]at hf;split at hf
  ·cases hf;cases hb
  ·split at hf
   ·cases hf;cases hb
   ·cases hf
def jnf {K:Nat->Prop} {A B:zs} (h:A.grownBy B none):KpS K A B:=⟨h.size,fun k o _ hk _=>(h.block k (zH.1 hk).1 (fun e=>by cases e)).trans hk⟩
def jvq {l:Nat} {fn tmps assign body:_} {x:zt} {W:zs} {a:Act} {s q ty:Nat} (hs:a.eval (.tmp s)=.func (.yield l) #[] #[]) (hq:a.eval (.tmp q)=x)
  (hy:(Instr.yield l #[x]).run Tryz.prog W=.ok (.round l fn tmps assign body) W) (o:qu) (ho:o.op=.call { callee:=.value (.tmp s),args:=#[.tmp q],argTypes:=#[ty] }) :
  ((o.semAt xI.round a.eval).run Tryz.prog W)=.ok (.round l fn tmps assign body) W:=by
 rw[jn,jC];unfold qR;simp only[ho,resolve,hs,gG,zr,zx,zn,invoke,yi,zJ,qZ,hq];exact hy
def jDR {α:Type} {enc:α->Int} {A:List α} {L:List Int} {st:Int} (hA:A.map enc=needL L st) {k:Nat} (hk:k<L.length):∃h:k<A.length,enc A[k]=L.getD k 0:=by
 have hlen:A.length=(needL L st).length:=by rw[<-hA];simp
 have h1:k<(needL L st).length:=by
  unfold needL;split
  ·exact hk
  ·simp;omega
 refine⟨by omega,?_⟩;have h2:(A.map enc)[k]?=(needL L st)[k]?:=by rw[hA]
 rw[zK,zG (by omega)]at h2
 have h3:(needL L st)[k]?=L[k]?:=by
  unfold needL;split
  ·rfl
  ·rw[List.getElem?_append_left hk]
 rw[h3,zG hk]at h2;simp only[Option.map_some,zk]at h2;rw[h2];simp[za,zG hk]
set_option maxHeartbeats 2000000 in
def jCj (n l:Nat) (K:Nat->Prop) (L:List Int) (v0 v1 v2 v3 v4 v5 v6:zt) (st:Int) (hL:(L.length:Int)<9223372036854775807) {α:Type} (enc:α->Int) (A:List α) (hA:A.map enc=needL L st) (J Jx:List α->zs->Prop)
  (hY:∀(k:Nat) (h:k<A.length) W,J (A.take k) W->YieldAt xI (n-1) Tryz.prog l #[.int .i64 (enc A[k])] W fun e W' =>
   (e=.returned (.bool true)∧J (A.take (k+1)) W'∧KpS K W W')∨(e=.returned (.bool false)∧Jx (A.take (k+1)) W'))
  (hJ:∀A B pre,J pre A->A.grownBy B none->J pre B) (a:Act) (w:zs) (hb:BetN K (.func (.yield l) #[] #[]) L [v0,v1,v2,v3,v4,v5,v6] st 0 a w) (hj0:J [] w)
  (R:zs->Prop) (hR:∀k W,k<=A.length->Jx (A.take k) W->R W) (Q:Act->zs->Prop) (hQ:∀a w,BetN K (.func (.yield l) #[] #[]) L [v0,v1,v2,v3,v4,v5,v6] st L.length a w->J (A.take L.length) w->Q a w) :
  (sub [1,0,1] (bodyOf Tryz.f132)).wpIn xI n Tryz.prog (Exit.then Q (bodyPost Tryz.prog Tryz.f132 fun e W'=>(∃v,e=.returned v)∧R W')) a w:=by
 refine fo (wpIn_loop (fun a w=>∃k,k<=L.length∧BetN K (.func (.yield l) #[] #[]) L [v0,v1,v2,v3,v4,v5,v6] st k a w∧J (A.take k) w) (fun a _=>L.length-(fY (a.tmps.getD 18 z3)).toNat) ⟨0,by omega,hb,hj0⟩ ?_);rintro a w ⟨k,hk,⟨I,hr,hg0,hg1⟩,hj⟩
 have hmu:(fY (a.tmps.getD 18 z3)).toNat=k:=by
  rw[(hr.tm 18 _ rfl).2];simp[fY]
 rw[hmu];refine yw (wpIn_wide.2 (x6 (jlc hr (pn1 _ L v0 v1 v2 v3 v4 v5 v6 st k)) ?_));rintro e a1 w1 ⟨rfl,hw1,I1,hr1,hag1⟩;have hj1:=hJ _ _ _ hj hw1;have hc:a1.eval (.tmp 19)=.bool (decide ((k:Int)<L.length)):=(hr1.tm 19 _ rfl).2
 by_cases hlt:k<L.length
 ·refine yw (jP (by rw[hc,decide_eq_true (by omega)]) (g9 ?_));have hg0a:∀ad n cap,I1 0=.slice (some ad) n cap->0<n->K ad.block:=fun ad n cap h=>hg0 ad n cap (by rw[<-hag1 0 (by decide)];exact h);have hg1a:∀b o,I1 1=.pointer (some ⟨b,o,none⟩)->K b:=fun b o h=>hg1 b o (by rw[<-hag1 1 (by decide)];exact h);have hr1b:Rel I1 (kd fun x=>x<w1.heap.size) 34 2 (stNc (.func (.yield l) #[] #[]) L [v0,v1,v2,v3,v4,v5,v6] st k) a1 w1:=joy hr1 rfl hg0a hg1a (jnf (gi w1 none));refine yw (fo (yw (wpIn_wide.2 (x6 (jlc hr1b (pn2 _ L v0 v1 v2 v3 v4 v5 v6 st k hlt)) ?_))));rintro e a2 w2 ⟨rfl,hw2,I2,hr2,hag2⟩;have hj2:=hJ _ _ _ hj1 hw2;obtain⟨hkA,henc⟩:=jDR hA hlt;obtain⟨fn,tmps,assign,body,hy,hRd⟩:=hY k hkA w2 hj2;rw[henc]at hy;refine yw (gH ?_);refine xy rfl fun K2 hK2=>jdA (t:=22) hr2 rfl trivial rfl (by decide) fun a3 hr3=>hK2 _ _ ?_;refine xy rfl fun K2 hK2=>jdA (t:=23) hr3 rfl trivial rfl (by decide) fun a4 hr4=>hK2 _ _ ?_;have g22:a4.eval (.tmp 22)=.func (.yield l) #[] #[]:=(hr4.tm 22 _ rfl).2;have g23:a4.eval (.tmp 23)=.int .i64 (L.getD k 0):=(hr4.tm 23 _ rfl).2;refine xy rfl fun K2 hK2=>⟨fun _ _=>trivial,?_⟩
  rw[jvq (ty:=3) g22 g23 hy _ rfl];refine⟨(fun h=>by cases h),hRd.mono ?_⟩;have hg0b:∀ad n cap,I2 0=.slice (some ad) n cap->0<n->K ad.block:=fun ad n cap h=>hg0a ad n cap (by rw[<-hag2 0 (by decide)];exact h);have hg1b:∀b o,I2 1=.pointer (some ⟨b,o,none⟩)->K b:=fun b o h=>hg1a b o (by rw[<-hag2 1 (by decide)];exact h);have hr5:∀(b:Bool) (w3:zs),KpS K w2 w3->Rel I2 (kd fun x=>x<w3.heap.size) 34 2 _ (a4.put (some 24) (.bool b)) w3:=fun b w3 hk3=>joy (jgO (v:=vb b) hr4 trivial (by decide)) rfl hg0b hg1b hk3;rintro e w3 (⟨rfl,hj3,hk3⟩|⟨rfl,hj3⟩)
  ·refine hK2 _ _ (xy rfl fun K3 hK3=>jdA (t:=25) (hr5 true w3 hk3) rfl trivial rfl (by decide) fun a5 hr6=>hK3 _ _ (jQ ?_));have g25:a5.eval (.tmp 25)=.bool false:=(hr6.tm 25 _ rfl).2;refine jD g25 (g9 ?_)
   have hr7:Rel I2 (kd fun x=>x<w3.heap.size) 34 2 (stN (.func (.yield l) #[] #[]) L [v0,v1,v2,v3,v4,v5,v6] st k) a5 w3:=jAZ hr6 (fun t v hv=>by
    simp only[stN,jaS]at hv;simp only[stNd,stN,jaS]
    repeat' split at hv
    all_goals first
     |(cases hv;done)
     |(subst_vars;simp only[hv];rfl)
     |(subst_vars;exact hv)) rfl rfl
   refine wpIn_wide.2 (x6 (jlc hr7 (pn3 _ L v0 v1 v2 v3 v4 v5 v6 st k (by omega))) ?_);rintro e a7 w7 ⟨rfl,hw7,I7,hr8,hag7⟩;refine⟨⟨k+1,by omega,⟨I7,joy hr8 rfl (fun ad n cap h=>hg0b ad n cap (by rw[<-hag7 0 (by decide)];exact h)) (fun b o h=>hg1b b o (by rw[<-hag7 1 (by decide)];exact h)) (jnf (gi w7 none)),fun ad n cap h=>hg0b ad n cap (by rw[<-hag7 0 (by decide)];exact h),fun b o h=>hg1b b o (by rw[<-hag7 1 (by decide)];exact h)⟩,hJ _ _ _ hj3 hw7⟩,?_⟩;rw[(hr8.tm 18 _ rfl).2];simp[fY];omega
  ·have hr4b:=jgO (v:=vb false) (t:=24) hr4 trivial (by decide);have g24:(a4.put (some 24) (.bool false)).eval (.tmp 24)=.bool false:=(hr4b.tm 24 _ rfl).2;refine hK2 _ _ (xy rfl fun K3 hK3=>jyh (v:=.bool true) ?_ (hK3 _ _ (jQ ?_)))
   ·unfold qR;dsimp only;rw[g24];rfl
   have hr5:=jgO (v:=vb true) (t:=25) hr4b trivial (by decide);have g25:((a4.put (some 24) (.bool false)).put (some 25) (.bool true)).eval (.tmp 25)=.bool true:=(hr5.tm 25 _ rfl).2;refine jP g25 (wpIn_ret ?_);exact⟨hr5.defers,.tuple #[],jR rfl _ _ _,⟨_,rfl⟩,hR (k+1) _ (by omega) hj3⟩
 ·have hk5:k=L.length:=by omega
  subst hk5;refine yw (jD (by rw[hc,decide_eq_false (by omega)]) (wpIn_exit ?_));refine hQ _ _ ⟨I1,jAZ (joy hr1 rfl (fun ad n cap h=>hg0 ad n cap (by rw[<-hag1 0 (by decide)];exact h)) (fun b o h=>hg1 b o (by rw[<-hag1 1 (by decide)];exact h)) (jnf (gi w1 none))) (fun t v hv=>?_) rfl rfl,fun ad n cap h=>hg0 ad n cap (by rw[<-hag1 0 (by decide)];exact h),fun b o h=>hg1 b o (by rw[<-hag1 1 (by decide)];exact h)⟩ hj1;have hne:t≠19:=fun e=>by subst e;simp[stN,jaS]at hv
  simp only[stNc,jaS];rw[if_neg (yN hne)];exact hv
abbrev shU:List NK:=zS
def stI (y:zt) (nm:ByteArray) (l:List (List NC)) (i:Int) (co:zt):St:=⟨[(0,.w (.c (.d (.v y)))),(1,.w (.c (.p 1 0 1 0))),(2,.w (.c (.p 2 0 1 0)))],[(0,.box 4 [.d (.b false)]),(1,.ebox [.p 3 0 1 0]),(2,.ebox [.d (.i .i64 i)]),(3,.ebox [.d (.s nm),.o 4,.d (.v co)]),(4,.xext (.st shU l))],5⟩
def hpJ (l:List (List NC)) (i:Nat):Hp:=[(0,.box 4 [.d (.b false)]),(1,.box 118 [.d (.s (nS l i 0)),.d (.i .i64 (nI l i 1)),.o 2,.o 3,.o 4,.d (.i .i64 (nI l i 5)),.o 5,.d (.i .i64 (nI l i 7))]),(2,.ext (.ints .i64 (nL l i 2))),(3,.ext (.ints .i64 (nL l i 3))),(4,.ext (.ints .i64 (nL l i 4))),(5,.ext (.recs 5 (nR l i 6)))]
def stJ (y:zt) (l:List (List NC)) (i:Nat):St:=⟨[(4,.w (.c (.p 1 0 1 0))),(0,.w (.c (.d (.v y))))],hpJ l i,6⟩
def stJ2 (y:zt) (l:List (List NC)) (i:Nat):St:=⟨[(18,vi .i64 0),(17,vi .i64 (nL l i 2).length),(16,.w (.c (.o 2))),(4,.w (.c (.p 1 0 1 0))),(0,.w (.c (.d (.v y))))],hpJ l i,6⟩
def pnJ (y:zt) (l:List (List NC)) (i:Nat):sx Tryz.prog (fun _=>none) 34 1 0 (fun _ _ _=>none) (fun _ _ _=>False) (sub [1,0,0] (bodyOf Tryz.f132)) 0 [] (stJ y l i) (fun e st'=>match e with | .normal=>Le 1 st' (stJ2 y l i)|_=>False):=by
 refine jI (by kernel_rfl:(Ob ((0:Int)=0)∧Ob (((nL l i 2).length:Int)=(nL l i 2).length)∧Ob ((0:Nat)=0)∧Ob (y=y)∧Ob (false=false)∧Ob (nS l i 0=nS l i 0)∧Ob (nI l i 1=nI l i 1)∧Ob (nI l i 5=nI l i 5)∧Ob (nI l i 7=nI l i 7)∧Ob (nL l i 2=nL l i 2)∧Ob (nL l i 3=nL l i 3)∧Ob (nL l i 4=nL l i 4)∧Ob (nR l i 6=nR l i 6)∧True)=_) ?_;exact⟨⟨rfl⟩,⟨rfl⟩,⟨rfl⟩,⟨rfl⟩,⟨rfl⟩,⟨rfl⟩,⟨rfl⟩,⟨rfl⟩,⟨rfl⟩,⟨rfl⟩,⟨rfl⟩,⟨rfl⟩,⟨rfl⟩,trivial⟩
def jdt {w:zs} {k j t:Nat} {vs:Array zt} {f:_} (h:w.heap[k]?=some (.cells vs t f)) {v:zt} (hv:vs[j]?=some v):w.cell? ⟨k,j,none⟩=some v:=by
 unfold g8;dsimp only;rw[h];simp[hv]
def jCk {α:Type} {enc:α->Int} {A:List α} {L:List Int} {st:Int} (hA:A.map enc=needL L st) (hst:st≠-1):∃h:L.length<A.length,enc A[L.length]=st∧A.length=L.length+1:=by
 have e:needL L st=L++[st]:=if_neg hst
 have hlen:A.length=L.length+1:=by
  have:(A.map enc).length=(L++[st]).length:=by rw[hA,e]
  simpa using this
 refine⟨by omega,?_,hlen⟩;have h2:(A.map enc)[L.length]?=(L++[st])[L.length]?:=by rw[hA,e]
 rw[zK,zG (by omega)]at h2;simpa using h2
set_option maxHeartbeats 4000000 in
def jDS (n l r:Nat) (nm:ByteArray) (gU:List (List NC)) (i:Int) (co:zt) (I0:Env) (W:zs)
  (hh:HRel I0 (kd fun k=>k<W.heap.size∧k≠r) (stI (.func (.yield l) #[] #[]) nm gU i co).hp 5 W) (hr0:I0 0=.pointer (some ⟨r,0,none⟩))
  (hi:0<=i∧i<gU.length) (hL:((nL gU i.toNat 2).length:Int)<9223372036854775807) {α:Type} (enc:α->Int) (A:List α) (hA:A.map enc=needL (nL gU i.toNat 2) (nI gU i.toNat 7)) (J Jx:List α->zs->Prop)
  (hY:∀(k:Nat) (h:k<A.length) W,J (A.take k) W->YieldAt xI (n-1) Tryz.prog l #[.int .i64 (enc A[k])] W fun e W' =>
   (e=.returned (.bool true)∧J (A.take (k+1)) W'∧KpS (fun k=>k≠r) W W')∨(e=.returned (.bool false)∧Jx (A.take (k+1)) W'))
  (hJ:AbidesFrom W.heap.size J) (h0:J [] W) :
  fu xI n Tryz.prog 132 #[.func (.yield l) #[] #[],(C.p 1 0 1 0).val I0,(C.p 2 0 1 0).val I0] W fun e W'=>(∃v,e=.returned v) ∧
   ((∃ys,ys=A∧J ys W')∨(∃pre,(∃k,k<=A.length∧pre=A.take k)∧Jx pre W')):=by
 refine gy Tryz.func132 rfl trivial ?_ rfl;refine yw (wpIn_wide.2 ?_);have hsp:jab Tryz.prog (fun _=>none):=fun _ _ _ h=>by cases h
 obtain⟨y,hy⟩:∃y:zt,y=.func (.yield l) #[] #[]:=⟨_,rfl⟩
 rw[<-hy]at hh ⊢
 refine jb0 (N:=34) (n0:=1) (B:=kd fun k=>k<W.heap.size∧k≠r) (I0:=I0) (w0:=W) (st:=stI y nm gU i co)
  (k:=fun st=>Le 1 st (stJ y gU i.toNat)) (by kernel_rfl) hsp (ds:=[]) _ _ I0 _ _ _ ?vc ?rel (jak.refl _ _) (Bel.refl _ _) ?next
 case vc =>
  refine jI (by kernel_rfl:(Ob True∧Ob True∧Ob True∧Ob ((0:Int)<=i∧i<((XC.st shU gU).n:Int))∧Ob (i.toNat<(XC.st shU gU).n)∧Ob ((0:Nat)=0)∧Ob (y=y)∧Ob (false=false)∧Ob (nS gU i.toNat 0=nS gU i.toNat 0)∧Ob (nI gU i.toNat 1=nI gU i.toNat 1)∧Ob (nI gU i.toNat 5=nI gU i.toNat 5)∧Ob (nI gU i.toNat 7=nI gU i.toNat 7)∧Ob (nL gU i.toNat 2=nL gU i.toNat 2)∧Ob (nL gU i.toNat 3=nL gU i.toNat 3)∧Ob (nL gU i.toNat 4=nL gU i.toNat 4)∧Ob (nR gU i.toNat 6=nR gU i.toNat 6)∧True)=_) ?_;exact⟨⟨trivial⟩,⟨trivial⟩,⟨trivial⟩,⟨hi⟩,⟨by show i.toNat<gU.length;omega⟩,⟨rfl⟩,⟨rfl⟩,⟨rfl⟩,⟨rfl⟩,⟨rfl⟩,⟨rfl⟩,⟨rfl⟩,⟨rfl⟩,⟨rfl⟩,⟨rfl⟩,⟨rfl⟩,trivial⟩
 case rel =>
  refine jfF (N:=34) (n0:=1) (args:=[.w (.c (.d (.v y))),.w (.c (.p 1 0 1 0)),.w (.c (.p 2 0 1 0))]) (zh rfl) (fun x hx=>?_) (by decide) I0 W hh (fun k hk=>(jbM.1 hk).1);simp only[qp,gI,or_false]at hx;rcases hx with rfl|rfl|rfl
  ·trivial
  ·exact(by decide:1<5)
  ·exact(by decide:2<5)
 case next =>
  rintro I1 st1 a1 w1 hr1 hag1 hbl1 hle;obtain⟨I2,hr2,hag2⟩:=hle.rel hr1;refine yw (yw (wpIn_wide.2 (x6 (ja9 hsp (fun _ _ _ _ _ _ _ _ _ h=>h.elim) (sub [1,0,0] (bodyOf Tryz.f132)) 0 [] (stJ y gU i.toNat) _ I2 a1 w1 (pnJ y gU i.toNat) hr2 (jak.refl _ _) (Bel.refl _ _)) ?_)));rintro e a2 w2 ⟨ex,I3,st3,rfl,hk3,hr3',hag3,hbl3⟩;cases ex with
  |exit j=>exact hk3.elim
  |ret=>exact hk3.elim
  |normal =>
   obtain⟨I4,hr4,hag4⟩:=hk3.rel hr3';have hI0:I4 0=.pointer (some ⟨r,0,none⟩):=(hag4 0 (by decide)).trans ((hag3 0 (by decide)).trans ((hag2 0 (by decide)).trans ((hag1 0 (by decide)).trans hr0)));have hbW:Bel (kd fun k=>k<W.heap.size∧k≠r).kp W w2:=hbl1.trans hbl3;obtain⟨B',gB,hh4⟩:=hr4.heap;have o0:=(hh4.ok 0 _ rfl).2.2;have o1:=(hh4.ok 1 _ rfl).2.2;have o2:=(hh4.ok 2 _ rfl).2.2;obtain⟨r',hr',hB0,hheap0⟩:=o0
   have err:r'=r:=by
    rw[hI0]at hr';cases hr';rfl
   subst err;obtain⟨k1,hk1,hB1,hheap1⟩:=o1;obtain⟨q0,hq0,hBq,hheapW⟩:=(hh.ok 0 _ rfl).2.2
   have eq0:q0=r':=by
    rw[hr0]at hq0;cases hq0;rfl
   subst eq0
   have hgr:W.grownBy w2 none:=by
    refine⟨hbW.os,hbW.tape,hbW.output,hbW.size,fun k hk _=>?_⟩
    by_cases e:k=q0
    ·subst e;rw[hheap0,hheapW];rfl
    ·exact hbW.block k ⟨hk,e⟩
   have hj2:J [] w2:=hJ [] W w2 none h0 hgr (fun r e=>by cases e);have hne1:k1≠q0:=fun e=>hh4.apart 1 _ 0 _ k1 rfl rfl (by decide) (by rw[hk1];rfl) (by rw[hI0,e];rfl)
   have hb:BetN (fun k=>k≠q0) y (nL gU i.toNat 2) [.string (nS gU i.toNat 0),.int .i64 (nI gU i.toNat 1),I4 2,I4 3,I4 4,.int .i64 (nI gU i.toNat 5),I4 5] (nI gU i.toNat 7) 0 a2 w2:=by
    refine⟨fun h=>if h=0 then I4 2 else I4 1,⟨fun t v hv=>?_,hr4.size,hr4.defers,⟨kd fun x=>x<w2.heap.size,Grow.refl _ _ _ _,⟨fun x o hf=>?_,fun x o x' o' b hf hf' hne hb=>?_,jft⟩⟩,fun k hk=>jbM.1 hk,zq _⟩,fun ad m cap hv hm=>?_,fun b o hv=>?_⟩
    ·simp only[stN,jaS]at hv;split at hv
     ·rename_i e;subst e;cases hv;exact⟨trivial,(hr4.tm 18 _ rfl).2⟩
     ·split at hv
      ·rename_i e;subst e;cases hv;exact⟨trivial,(hr4.tm 17 _ rfl).2⟩
      ·split at hv
       ·rename_i e;subst e;cases hv;exact⟨(by decide:0<2),(hr4.tm 16 _ rfl).2⟩
       ·split at hv
        ·rename_i e;subst e;cases hv;exact⟨(by decide:1<2),(hr4.tm 4 _ rfl).2⟩
        ·split at hv
         ·rename_i e;subst e;cases hv;exact⟨trivial,(hr4.tm 0 _ rfl).2⟩
         ·cases hv
    ·simp only[stN,find]at hf;split at hf
     ·rename_i e;subst e;cases hf;exact⟨(by decide:0<2),trivial,o2.1,o2.1.lt (zp 0)⟩
     ·split at hf
      ·rename_i e;subst e;cases hf;refine⟨(by decide:1<2),?_,k1,0,by simpa using hk1,(zH.1 hheap1).1,fun j c hj=>?_⟩
       ·intro c hc;simp only[zJ,qZ,qq,qP,qp,gI,or_false]at hc;rcases hc with rfl|rfl|rfl|rfl|rfl|rfl|rfl|rfl<;>trivial
       ·rw[Nat.zero_add];refine jdt hheap1 ?_
        match j,hj with
        |0,hj=>cases hj;rfl
        |1,hj=>cases hj;rfl
        |2,hj=>cases hj;rfl
        |3,hj=>cases hj;rfl
        |4,hj=>cases hj;rfl
        |5,hj=>cases hj;rfl
        |6,hj=>cases hj;rfl
        |7,hj=>cases hj;rfl
        |j+8,hj=>cases hj
      ·cases hf
    ·simp only[stN,find]at hf;split at hf
     ·cases hf;cases hb
     ·split at hf
      ·cases hf;cases hb
      ·cases hf
    ·intro e;have h2:=o2.2 ad m cap (by simpa using hv) hm;exact hB0 (.inl (e ▸ h2))
    ·intro e;have hv':I4 1=.pointer (some ⟨b,o,none⟩):=by simpa using hv
     rw[hk1]at hv';cases hv';exact hne1 e
   subst hy
   refine jCj n l (fun k=>k≠q0) _ _ _ _ _ _ _ _ _ hL enc A hA J Jx hY (fun A B pre hj hg=>hJ pre A B none hj hg (fun r e=>by cases e)) a2 w2 hb hj2
    (fun W'=>(∃ys,ys=A∧J ys W')∨(∃pre,(∃k,k<=A.length∧pre=A.take k)∧Jx pre W')) (fun k W hk hx=>.inr ⟨_,⟨k,hk,rfl⟩,hx⟩) _ ?_
   rintro a5 w5 ⟨I5,hr5,hg0,hg1⟩ hj5;refine yw (wpIn_wide.2 (x6 (jlc hr5 (pn4 _ _ _ _ _ _ _ _ _ _ _)) ?_));rintro e a6 w6 ⟨rfl,hw6,I6,hr6,hag6⟩;have hj6:=hJ _ _ _ none hj5 hw6 (fun r e=>by cases e);have hc:a6.eval (.tmp 29)=.bool (nI gU i.toNat 7 != -1):=(hr6.tm 29 _ rfl).2
   by_cases hst:nI gU i.toNat 7=-1
   ·refine jD (by rw[hc,hst];rfl) (g9 ?_);refine⟨hr6.defers,.tuple #[],jR rfl _ _ _,⟨_,rfl⟩,.inl ⟨_,rfl,?_⟩⟩
    have hlen:A.length=(nL gU i.toNat 2).length:=by
     have:(A.map enc).length=(needL (nL gU i.toNat 2) (nI gU i.toNat 7)).length:=by rw[hA]
     rw[needL,if_pos hst]at this;simpa using this
    rw[<-hlen,yk]at hj6;exact hj6
   ·refine jP (by rw[hc];simp[hst]) (gH ?_);obtain⟨hkA,henc,hlen⟩:=jCk hA hst;obtain⟨fn,tmps,assign,body,hy,hRd⟩:=hY _ hkA w6 hj6;rw[henc]at hy;refine xy rfl fun K2 hK2=>jdA (t:=30) hr6 rfl trivial rfl (by decide) fun a7 hr7=>hK2 _ _ ?_;refine xy rfl fun K2 hK2=>jdA (t:=31) hr7 rfl trivial rfl (by decide) fun a8 hr8=>hK2 _ _ ?_;refine xy rfl fun K2 hK2=>jdA (t:=32) hr8 rfl trivial rfl (by decide) fun a9 hr9=>hK2 _ _ ?_;have g30:a9.eval (.tmp 30)=.func (.yield l) #[] #[]:=(hr9.tm 30 _ rfl).2;have g32:a9.eval (.tmp 32)=.int .i64 (nI gU i.toNat 7):=(hr9.tm 32 _ rfl).2;refine xy rfl fun K2 hK2=>⟨fun _ _=>trivial,?_⟩
    rw[jvq (ty:=3) g30 g32 hy _ rfl];refine⟨(fun h=>by cases h),hRd.mono ?_⟩;rintro e w7 (⟨rfl,hj7,hk7⟩|⟨rfl,hj7⟩)
    ·refine hK2 _ _ (jQ ?_);refine⟨(jgO (t:=33) (v:=vb true) hr9 trivial (by decide)).defers,.tuple #[],jR rfl _ _ _,⟨_,rfl⟩,.inl ⟨_,rfl,?_⟩⟩;rw[<-hlen,yk]at hj7;exact hj7
    ·refine hK2 _ _ (jQ ?_);exact⟨(jgO (t:=33) (v:=vb false) hr9 trivial (by decide)).defers,.tuple #[],jR rfl _ _ _,⟨_,rfl⟩,.inr ⟨_,⟨_,by omega,rfl⟩,hj7⟩⟩
end Go.Sx09
end

section
namespace Go.Sx09
open Go Go.Proofs Go.RowKit Go.Shelf Go.Sx
attribute [local go_sem] jB
set_option maxHeartbeats 2000000 in
def jyi (n:Nat) (p:Option Addr) (i:Int) (w:zs) :
  fu xI n Tryz.prog 86 #[.pointer p,.int .i64 i] w fun e w'=>e=.returned (.func (.func 132) #[] #[.pointer (some ⟨w.heap.size,0,none⟩),.pointer (some ⟨w.heap.size+1,0,none⟩)])∧w'=(w.alloc (.cells #[.pointer p] 126)).alloc (.cells #[.int .i64 i] 3):=by
 refine gy Tryz.func86 rfl trivial ?_ rfl;simp only[Tryz.ntmps86,xQ,zA,qi,gz,gA,je,jf,jS,js,qP,qq]
 gi_wp2
 go_ret
 exact⟨rfl,rfl⟩
def jFD (w:zs) (c0 c1 c2 c3:Array zt) (t0 t1 t2 t3:TypeId):∃w2,w2.heap.size=w.heap.size+4∧x8 w.heap.size w w2∧w2.heap[w.heap.size]?=some (.cells c0 t0 (0,0))∧w2.heap[w.heap.size+1]?=some (.cells c1 t1 (0,0)) ∧
  w2.heap[w.heap.size+1+1]?=some (.cells c2 t2 (0,0))∧w2.heap[w.heap.size+1+1+1]?=some (.cells c3 t3 (0,0))∧(((w.alloc (.cells c0 t0)).alloc (.cells c1 t1)).alloc (.cells c2 t2)).alloc (.cells c3 t3)=w2:=by
 have new:∀(w:zs) (c:Array zt) (t:TypeId) (m:Nat),w.heap.size=m->(w.alloc (.cells c t)).heap[m]?=some (.cells c t (0,0)):=fun w c t m e=>by subst e;exact World.alloc_heap_new w (.cells c t)
 have old:∀(w:zs) (o o':Obj) (k:Nat),w.heap[k]?=some o->(w.alloc o').heap[k]?=some o:=fun w o o' k h=>(Below.heap_alloc w o' k (zH.1 h).1).trans h;refine⟨_,by simp,(((xA _ w).alloc (zq _) _).alloc (by simp) _).alloc (by simp;omega) _ |>.alloc (by simp;omega) _,?_,?_,?_,?_,rfl⟩
 ·exact old _ _ _ _ (old _ _ _ _ (old _ _ _ _ (new w c0 t0 _ rfl)))
 ·exact old _ _ _ _ (old _ _ _ _ (new _ c1 t1 _ (by simp)))
 ·exact old _ _ _ _ (new _ c2 t2 _ (by simp))
 ·exact new _ c3 t3 _ (by simp)
def readyB (pl:List Bool) (L:List Int):Bool:=L.all fun x=>pl.getD x.toNat false
set_option maxHeartbeats 4000000 in
def ready_in (nm:ByteArray) (gU:List (List NC)) (od:List Int) (i:Int) (pl:List Bool) (I:Env) (w:zs)
  (hh:HRel I (kd fun k=>k<w.heap.size) [(3,.ext (.bools pl)),(2,.ebox [.d (.s nm),.o 0,.o 1]),(1,.ext (.ints .i64 od)),(0,.xext (.st shU gU))] 4 w)
  (hi:0<=i∧i<gU.length) (hL:((nL gU i.toNat 2).length:Int)<9223372036854775807) (hx:∀x∈needL (nL gU i.toNat 2) (nI gU i.toNat 7),0<=x∧x<pl.length) :
  fu xI 9 Tryz.prog 85 #[(C.p 2 0 1 0).val I,.int .i64 i,I 3] w fun e w'=>e=.returned (.bool (readyB pl (needL (nL gU i.toNat 2) (nI gU i.toNat 7))))∧x8 w.heap.size w w':=by
 have h1:1<=9:=by omega
 have hro:xI.round=none:=rfl;obtain⟨gb,go,hgp,hgB,hgc⟩:=(hh.ok 2 _ rfl).2.2;have hrow:=(hh.ok 3 _ rfl).2.2;obtain⟨⟨pa,pc,hpv,hpc,hpcells⟩,hpo⟩:=hrow
 have hP:(C.p 2 0 1 0).val I=.pointer (some ⟨gb,go,none⟩):=by
  simp only[C.val,hgp,base];rfl
 rw[hP,hpv];refine callsIn_of_wp_marks Tryz.func85 rfl trivial ?_ hro;simp only[Tryz.ntmps85,xQ,zA,qi,gz,gA,je,jf,jS,js,qP,qq]
 gi_wp2_with (refine⟨trivial,?_⟩;gi_at_call 86;refine(jyi _ _ i _).mono ?_;rintro e w' ⟨rfl,rfl⟩)
 obtain⟨w2,hs2,hB0,k0,k1,k2,k3,hw2⟩:=jFD w #[.slice pa (Cont.bools pl).n pc] #[.bool false] #[.pointer (some ⟨gb,go,none⟩)] #[.int .i64 i] 133 4 126 3;rw[hw2]
 have hne:∀(A:List {x:Int // 0<=x∧x<pl.length}),A.map (fun x=>x.1)=needL (nL gU i.toNat 2) (nI gU i.toNat 7)->readyB pl (needL (nL gU i.toNat 2) (nI gU i.toNat 7))=A.all fun x=>pl.getD x.1.toNat false:=fun A hA=>by
  rw[<-hA];simp[readyB]
 obtain⟨A,hA⟩:∃A:List {x:Int // 0<=x∧x<pl.length},A.map (fun x=>x.1)=needL (nL gU i.toNat 2) (nI gU i.toNat 7) :=
  ⟨(needL (nL gU i.toNat 2) (nI gU i.toNat 7)).attachWith _ hx,by simp⟩
 have hready:=hne A hA
 refine wpIn_rangeFunc_ownF hro h1 (gf:=132) (lb:=#[.pointer (some ⟨w.heap.size+1+1,0,none⟩),.pointer (some ⟨w.heap.size+1+1+1,0,none⟩)]) rfl trivial (enters_of Tryz.func132 (by kernel_rfl) rfl)
  (α:={x:Int // 0<=x∧x<pl.length}) (encs:=fun x=>#[.int .i64 x.1]) (Kp:=KpS fun k=>k≠w.heap.size+1) (S:=fun ys=>ys=A) (Sp:=fun pre=>∃k,k<=A.length∧pre=A.take k) (N:=A.length) (w0:=w2)
  ?seq kps_t kps_b (xA _ _) (fun _=>rfl)
  (fun pre W=>((∀y∈pre,pl.getD y.1.toNat false=true)∧W.cell? ⟨w.heap.size,0,none⟩=some (.slice pa (Cont.bools pl).n pc)∧W.cell? ⟨w.heap.size+1,0,none⟩=some (.bool false)∧W.frozen? ⟨w.heap.size+1,0,none⟩=false)∧x8 w.heap.size w W)
  (fun c pre W=>(c=.ret∧(∃y∈pre,pl.getD y.1.toNat false=false)∧W.cell? ⟨w.heap.size+1,0,none⟩=some (.bool false))∧x8 w.heap.size w W)
  (OwnFrom.and (Own.from (fun s A B row hs hg hr=>⟨hs.1,cell_kept hs.2.1 hg hr,cell_kept hs.2.2.1 hg hr,(frozen_kept hs.2.2.1 hg hr).trans hs.2.2.2⟩) _) (ownFrom_below (zq _) (by omega)))
  (fun c=>OwnFrom.and (Own.from (fun s A B row hs hg hr=>⟨hs.1,hs.2.1,cell_kept hs.2.2 hg hr⟩) _) (ownFrom_below (zq _) (by omega)))
  ⟨⟨by simp,jdt k0 rfl,jdt k1 rfl,?frozen⟩,hB0⟩
  (fun x=>{ tmps:=#[xb (some { block:=gb,off:=go }),xR xu i,qd pa (Cont.bools pl).n pc,z3,z3,xb (some { block:=w.heap.size,off:=0 }),xb (some { block:=w.heap.size+1,off:=0 }),.int .i64 x.1,xb (some { block:=gb,off:=go }),xR xu i,Value.func (Fn.func 132) #[] #[xb (some { block:=w.heap.size+1+1,off:=0 }),xb (some { block:=w.heap.size+1+1+1,off:=0 })],.int .i64 x.1,z3,z3,z3,z3,z3],defers:=[] }) ?assign ?body ?done ?stop
 case frozen =>
  unfold f6;dsimp only;rw[k1];rfl
 case seq =>
  intro l J Jx W hW hJ hJx hY h0;have hBW:x8 w.heap.size w W:=hB0.trans (hW.mono (by omega));have hsz:=hW.size;have at2:∀k o,k<w2.heap.size->w2.heap[k]?=some o->W.heap[k]?=some o:=fun k o hk ho=>(hW.block k hk).trans ho
  have hmono:∀k,(kd fun k=>k<w.heap.size).kp k->(kd fun k=>k<W.heap.size∧k≠w.heap.size+1).kp k:=fun k hk=>by
   have hk:k<w.heap.size:=hk;exact⟨by omega,by omega⟩
  have hbw:Bel (kd fun k=>k<w.heap.size).kp w W:=⟨hBW.os,hBW.tape,hBW.output,hBW.size,hBW.block⟩
  let I':Env:=fun h=>match h with
   |0=>.pointer (some ⟨w.heap.size+1,0,none⟩)
   |1=>.pointer (some ⟨w.heap.size+1+1,0,none⟩)
   |2=>.pointer (some ⟨w.heap.size+1+1+1,0,none⟩)
   |3=>I 2
   |_=>I 0
  have hx0:=(hh.ok 0 _ rfl).2.2
  have hrel:HRel I' (kd fun k=>k<W.heap.size∧k≠w.heap.size+1) (stI (.func (.yield l) #[] #[]) nm gU i (I 1)).hp 5 W:=by
   refine⟨fun x o hf=>?_,fun x o x' o' b hf hf' hne hb=>?_,jft⟩
   ·simp only[stI,find]at hf;split at hf
    ·rename_i e;subst e;cases hf;exact⟨by decide,(fun c hc=>by simp at hc;subst hc;trivial),w.heap.size+1,rfl,fun h=>(jbM.1 h).2 rfl,at2 _ _ (by omega) k1⟩
    ·split at hf
     ·rename_i e;subst e;cases hf;refine⟨by decide,(fun c hc=>by simp at hc;subst hc;exact(by decide:3<5)),w.heap.size+1+1,0,rfl,⟨by omega,by omega⟩,fun j c hj=>?_⟩;refine(jdt (at2 _ _ (by omega) k2) (j:=0+j) (v:=c.val I') ?_)
      match j,hj with
      |0,hj=>cases hj;exact congrArg some hP.symm
      |j+1,hj=>cases hj
     ·split at hf
      ·rename_i e;subst e;cases hf;refine⟨by decide,(fun c hc=>by simp at hc;subst hc;trivial),w.heap.size+1+1+1,0,rfl,⟨by omega,by omega⟩,fun j c hj=>?_⟩;refine(jdt (at2 _ _ (by omega) k3) (j:=0+j) (v:=c.val I') ?_)
       match j,hj with
       |0,hj=>cases hj;rfl
       |j+1,hj=>cases hj
      ·split at hf
       ·rename_i e;subst e;cases hf;refine⟨by decide,(fun c hc=>by simp at hc;rcases hc with rfl|rfl|rfl<;>first|exact True.intro|exact(by decide:4<5)),gb,go,hgp,hmono _ hgB,fun j c hj=>?_⟩;refine(hbw.cell (p:=⟨gb,go+j,none⟩) hgB).trans ?_
        match j,hj with
        |0,hj=>cases hj;exact hgc 0 _ rfl
        |1,hj=>cases hj;exact hgc 1 _ rfl
        |2,hj=>cases hj;exact hgc 2 _ rfl
        |j+3,hj=>cases hj
       ·split at hf
        ·rename_i e;subst e;cases hf;exact⟨by decide,trivial,(IsX.bel hx0 hbw).mono hmono⟩
        ·cases hf
   ·simp only[stI,find]at hf hf'
    have hz:∀y oy,find (stI (.func (.yield l) #[] #[]) nm gU i (I 1)).hp y=some oy->y≠0->oy.blk (I' y)=none:=fun y oy hy hy0=>by
     simp only[stI,find]at hy;rw[if_neg (yN hy0)]at hy
     repeat' split at hy
     all_goals (cases hy;try rfl)
    by_cases e:x=0
    ·rw[hz x' o' hf' (by omega)];intro h;cases h
    ·rw[hz x o hf e]at hb;cases hb
  refine(jDS _ l (w.heap.size+1) nm gU i (I 1) I' W hrel rfl hi hL (fun x=>x.1) A hA J Jx (fun k hk W1 hj=>?_) hJ h0);have e1:A.take (k+1)=A.take k++[A[k]]:=by rw[List.take_succ_eq_append_getElem hk]
  rw[e1];exact hY (A.take k) A[k] W1 hj (by rw[List.length_take];omega)
 case assign =>
  intro l x W K hK
  gi_wp2
  exact hK
 case body =>
  rintro l pre x W ⟨⟨hp,hv5,hcr,hfr⟩,hB⟩ _;have hlt:w.heap.size+1<W.heap.size:=qO W ⟨w.heap.size+1,0,none⟩ hcr;have hx1:=x.2.1;have hx2:=x.2.2;obtain⟨b,off,hab,hcells⟩:=hpcells (by show 0<pl.length;omega);subst hab
  have hcell:W.cell? ⟨b,off+x.1.toNat,none⟩=some (.bool (pl.getD x.1.toNat false)):=by
   have hc:=hcells x.1.toNat (.b (pl.getD x.1.toNat false)) (by
    have:=(Cont.bools pl).flat_get (i:=x.1.toNat) (j:=0) (by show x.1.toNat<pl.length;omega) Nat.one_pos;simpa [Cont.e,Cont.cell]using this)
   have hbl:b<w.heap.size:=qO w ⟨b,off+x.1.toNat,none⟩ hc;exact(hB.cell (p:=⟨b,off+x.1.toNat,none⟩) hbl).trans hc
  have hx3:x.1<((Cont.bools pl).n:Int):=hx2;clear hcells hready hA hne hpcells hpc hpo hgc hgB hgp hP hx hL hi hh hpv k0 k1 k2 k3 hs2 hB0 hw2;have hgd:pl.getD x.1.toNat false=pl[x.1.toNat]'(by omega):=by simp[za,zG (show x.1.toNat<pl.length by omega)]
  gi_wp2
  ·rename_i hxx;exact⟨KeepsOthers.setCell _ _ _,⟨rfl,⟨x,qE.2 (.inr (by simp)),by rw[hgd];simpa using hxx⟩,yG _ _ _ (by rw[hcr];rfl)⟩,hB.setCell (p:=⟨w.heap.size+1,0,none⟩) (by simp) _⟩
  ·rename_i hxx;exact⟨KeepsOthers.refl _,jDQ (xA _ _),⟨fun y hy=>(qE.1 hy).elim (hp y) (fun e=>by simp at e;subst e;rw[hgd];simpa using hxx),hv5,hcr,hfr⟩,hB⟩
 case done =>
  rintro D ys W hD rfl ⟨⟨hne,hv5,hcr,hfr⟩,hB⟩ hK;clear hpcells hpc hpo hgc hgB hgp hP hx hL hi hh hpv k0 k1 k2 k3 hB0 hw2
  gi_wp2
  have hK':=(KeepsOthers.setCell W ⟨w.heap.size+1,0,none⟩ (.bool true)).same D _ hK rfl;refine⟨by simp,.inl ⟨_,_,rfl,run_takeDeferred hK',?_⟩⟩;have hc5:=cell_kept (yG W ⟨w.heap.size+1,0,none⟩ (.bool true) (by rw[hcr];rfl)) (grownBy_putObj' _ D (.deferred none)) (fun r e=>by cases e;exact⟨_,hK',rfl⟩)
  have hall:readyB pl (needL (nL gU i.toNat 2) (nI gU i.toNat 7))=true:=by
   rw[hready];exact zy.2 fun y hy=>hne y hy
  refine⟨.bool true,?_,by rw[hall],(hB.setCell (p:=⟨w.heap.size+1,0,none⟩) (by simp) _).trans (belowK_b (w:=w) (zq _) _ D _ _ (by omega) hK' rfl rfl)⟩;simp[results,Tryz.f85,go_sem,hc5]
 case stop =>
  rintro D c pre W hD ⟨k,hk,rfl⟩ ⟨⟨rfl,⟨y,hy,hpy⟩,hcr⟩,hB⟩ hK;clear hpcells hpc hpo hgc hgB hgp hP hx hL hi hh hpv k0 k1 k2 k3 hB0 hw2
  gi_wp2
  refine⟨by simp,.inl ⟨_,_,rfl,run_takeDeferred hK,?_⟩⟩;have hc5:=cell_kept hcr (grownBy_putObj' _ D (.deferred none)) (fun r e=>by cases e;exact⟨_,hK,rfl⟩)
  have hall:readyB pl (needL (nL gU i.toNat 2) (nI gU i.toNat 7))=false:=by
   rw[hready,Bool.eq_false_iff];intro h;have:=zy.1 h y (List.mem_of_mem_take hy);rw[hpy]at this;cases this
  refine⟨.bool false,?_,by rw[hall],hB.trans (belowK_b (w:=w) (zq _) W D _ _ (by omega) hK rfl rfl)⟩;simp[results,Tryz.f85,go_sem,hc5]
end Go.Sx09
end

section
open Go.RowKit
namespace Go.Sx
section
variable [Globs] {P:Program}
def jFE {f:Nat} {fn:Func} {body:Code} {shs:List SV} {g:List Lf->Option GT} (hf:P.funcs[f]?=some fn) (hb:fn.body=some body) (hn:(fn.name == "runtime.NumGoroutine")=false)
  (h:∀ls t,g ls=some t->∃ob x,t=.leaf ob [.c (.d x)]∧(ob->∀b:Bv,jdL shs 0 ls=some b->∀I w,HRel I (kd fun k=>k<w.heap.size) b.hp b.n w->Calls P f (b.vs.map (V.val I)).toArray w fun e w'=>e=.returned x.val∧x8 w.heap.size w w')) :
  jaf P f true (jah shs g):=by
 refine .inl ⟨jdn hf hb hn,fun I B w args hp nx t hS hob hlt hh hB=>?_⟩;unfold jah at hS;split at hS
 ·rename_i ls am hto;split at hS
  ·rename_i t' hg;cases hS;obtain⟨ob,x,rfl,hc⟩:=h ls t' hg;rw[jb1]at hob;have hob:ob:=hob;obtain⟨b,I0,hbl,q⟩:=jid (jAW hh hB) hh hB shs args ls am hto hlt 0 (fun _=>z3) [];rw[List.append_nil]at hbl
   have hh0:HRel I0 (kd fun k=>k<w.heap.size) b.hp b.n w:=by
    refine⟨fun x o hf=>?_,fun x o x' o' k hf hf' _ hb=>?_,jqe hh.glob hB⟩
    ·obtain⟨_,a2,a3,a4,_⟩:=q.heap x o hf;exact⟨a2,a3,a4⟩
    ·obtain⟨_,_,_,_,a5⟩:=q.heap x o hf;rw[a5]at hb;cases hb
   have hcalls:=hc hob b hbl I0 w hh0;rw[q.val]at hcalls;refine hcalls.mono ?_;rintro e w' ⟨rfl,hbw⟩;refine⟨I,?_,jak.refl _ _,?_,?_,⟨B,Grow.refl _ _ _ _,?_⟩,jc4 hbw hB,fun _=>hbw,fun _ h o k hle hf _=>?_⟩
   ·rw[jb1];rfl
   ·rw[jb1];trivial
   ·rw[jb1];exact zq _
   ·rw[jb1];exact hh.below hbw hB
   ·rw[jb1]at hf;have:=(hh.ok h o hf).1;omega
  ·cases hS
 ·cases hS
end
end Go.Sx
end

section
namespace Go.Sh
open Go Go.Proofs Go.RowKit Go.Sx
def jvr:List SV:=[.c (.p [.d,.x (.st zS []),.r (.ints .i64 [])]),.c .d,.c (.r (.bools []))]
def jdB (gUnits:List (List NC)) (i:Int) (placed:List Bool):Option Bool :=
 if 0<=i∧i<gUnits.length then
  if((nL gUnits i.toNat 2).length:Int)<9223372036854775807∧(Sx09.needL (nL gUnits i.toNat 2) (nI gUnits i.toNat 7)).all (fun x=>decide (0<=x∧x<placed.length))=true then
   some (Sx09.readyB placed (Sx09.needL (nL gUnits i.toNat 2) (nI gUnits i.toNat 7)))
  else none
 else none
def jng:List Lf->Option GT
 |[.d (.s gName),.x (.st [.s,.i .i64,.ints .i64,.ints .i64,.ints .i64,.i .i64,.recs 5,.i .i64] gUnits),.r (.ints .i64 order),.d (.i .i64 i),.r (.bools placed)]=>some (.leaf (ok (jdB gUnits i placed)) [.c (.d (.b (val (jdB gUnits i placed))))])
 |_=>none
abbrev sp_85:jaa->jaa:=jan 85 true (jah jvr jng)
def jCl:jaf Tryz.prog 85 true (jah jvr jng):=by
 refine jFE (fn:=Tryz.f85) (body:=bodyOf Tryz.f85) Tryz.func85 (by kernel_rfl) (by kernel_rfl) fun ls t h=>?_;unfold jng at h;split at h
 ·rename_i gName gUnits order i placed;cases h;refine⟨_,_,rfl,fun hok b hb I w hh=>?_⟩
  have hbe:b=⟨[.w (.c (.p 2 0 1 0)),.w (.c (.d (.i .i64 i))),.w (.c (.o 3))],[(3,.ext (.bools placed)),(2,.ebox [.d (.s gName),.o 0,.o 1]),(1,.ext (.ints .i64 order)),(0,.xext (.st Sx09.shU gUnits))],4,[]⟩ :=
   yc (hb.symm.trans (by kernel_rfl))
  subst hbe;unfold ok jdB at hok;split at hok
  ·rename_i hi;split at hok
   ·rename_i hL
    have hv:val (jdB gUnits i placed)=Sx09.readyB placed (Sx09.needL (nL gUnits i.toNat 2) (nI gUnits i.toNat 7)):=by
     unfold jdB;rw[if_pos hi,if_pos hL];rfl
    rw[hv];exact(fv (n:=9)).1 (Sx09.ready_in gName gUnits order i placed I w hh hi hL.1 fun x hx=>by simpa using zy.1 hL.2 x hx)
   ·cases hok
  ·cases hok
 ·cases h
def sp_85_ok {sp:jaa} (h:jab Tryz.prog sp):jab Tryz.prog (sp_85 sp):=jag jCl h
open Go.IntKind (wrap)
def jhp:List SV:=[.a [.d,.x (.st zS [])]]
def jcx (u1:List (List NC)) (x0:Int × List Bool × List Int) (x1:Int):Option (Int ⊕ Int) :=
 if x1<(↑u1.length:Int)then
  if 0<=x1∧x1<(↑x0.2.1.length:Int)then
  if zg x1<ze x0.2.1 then
   if(!za x0.2.1 x1.toNat false)=true then
   zb (jdB u1 x1 x0.2.1) fun r1 =>
   if(r1)=true then
    some (.inr x1)
   else
    some (.inl (wrap .i64 (x1+1)))
   else
   some (.inl (wrap .i64 (x1+1)))
  else none
  else none
 else
  some (.inr (-1:Int))
def jja (x0:Int × List Bool × List Int) (u26:Int):Option ((Int × List Bool × List Int) ⊕ (Unit ⊕ (List Int))) :=
 if(u26==(-1:Int))=true then
  some (.inr ((.inl ())))
 else
  if 0<=u26∧u26<(↑x0.2.1.length:Int)then
  if zg u26<ze x0.2.1 then
   if(ze x0.2.2+ze [u26])*8<=140737488355328∧ze x0.2.2+ze [u26]<=9223372036854775807 then
   some (.inl ((wrap .i64 (x0.1+1),qw x0.2.1 u26.toNat true,x0.2.2++[u26])))
   else none
  else none
  else none
def jcd (u1:List (List NC)) (x0:(Int × List Bool × List Int)):Option ((Int × List Bool × List Int) ⊕ (Unit ⊕ (List Int))) :=
 if x0.1<(↑u1.length:Int)then
  zb (jae (jcx u1 x0) big (0:Int)) (jja x0)
 else
  some (.inr (.inr x0.2.2))
def jwe (u4:Unit):Option Int :=
 some (19:Int)
def jwf (u9:List Int):Option Int :=
 none
def jjb:(Unit ⊕ (List Int))->Option Int :=
 (qC (jwe) (jwf))
def jb3 (u3:ByteArray) (u1:List (List NC)):Option Int :=
 zb (y67 u3 u1) fun r0 =>
 if(r0.2 != 0)=true then
  some r0.2
 else
  if 0<=(↑u1.length:Int)∧(↑u1.length:Int)=(↑u1.length:Int)∧(↑(1:Nat):Int)*(↑u1.length:Int)<=281474976710656∧(↑u1.length:Int)<=9223372036854775807 then
  zb (jae (jcd u1) big (((0:Int),zf (zg (↑u1.length:Int)) false,[]))) (jjb)
  else none
def jpI (u1:List (List NC)) (x0:Int × List Bool × List Int) (x1:Int):Option (Int ⊕ Int) :=
 if x1<(↑u1.length:Int)then
  if 0<=x1∧x1<(↑x0.2.1.length:Int)then
  if zg x1<ze x0.2.1 then
   if(!za x0.2.1 x1.toNat false)=true then
   zb (jdB u1 x1 x0.2.1) fun r1 =>
   if(r1)=true then
    some (.inr x1)
   else
    some (.inl (wrap .i64 (x1+1)))
   else
   some (.inl (wrap .i64 (x1+1)))
  else none
  else none
 else
  some (.inr (-1:Int))
def jpJ (x0:Int × List Bool × List Int) (u26:Int):Option ((Int × List Bool × List Int) ⊕ (Unit ⊕ (List Int))) :=
 if(u26==(-1:Int))=true then
  some (.inr ((.inl ())))
 else
  if 0<=u26∧u26<(↑x0.2.1.length:Int)then
  if zg u26<ze x0.2.1 then
   if(ze x0.2.2+ze [u26])*8<=140737488355328∧ze x0.2.2+ze [u26]<=9223372036854775807 then
   some (.inl ((wrap .i64 (x0.1+1),qw x0.2.1 u26.toNat true,x0.2.2++[u26])))
   else none
  else none
  else none
def jfu (u1:List (List NC)) (x0:(Int × List Bool × List Int)):Option ((Int × List Bool × List Int) ⊕ (Unit ⊕ (List Int))) :=
 if x0.1<(↑u1.length:Int)then
  zb (jae (jpI u1 x0) big (0:Int)) (jpJ x0)
 else
  some (.inr (.inr x0.2.2))
def jwg (u3:ByteArray) (u4:Unit):Option (ByteArray × List Int × Int) :=
 none
def jwh (u3:ByteArray) (u9:List Int):Option (ByteArray × List Int × Int) :=
 some ((u3,u9,0))
def jjc (u3:ByteArray):(Unit ⊕ (List Int))->Option (ByteArray × List Int × Int) :=
 (qC (jwg u3) (jwh u3))
def jbH (u3:ByteArray) (u1:List (List NC)):Option (ByteArray × List Int × Int) :=
 zb (y67 u3 u1) fun r0 =>
 if(r0.2 != 0)=true then
  none
 else
  if 0<=(↑u1.length:Int)∧(↑u1.length:Int)=(↑u1.length:Int)∧(↑(1:Nat):Int)*(↑u1.length:Int)<=281474976710656∧(↑u1.length:Int)<=9223372036854775807 then
  zb (jae (jfu u1) big (((0:Int),zf (zg (↑u1.length:Int)) false,[]))) (jjc u3)
  else none
def jyj:List Lf->Option GT
 |[.d (.s u3),.x (.st [.s,.i .i64,.ints .i64,.ints .i64,.ints .i64,.i .i64,.recs 5,.i .i64] u1)]=>some (.br (gC (jb3 u3 u1)) (.leaf (ok (jb3 u3 u1)) [.c (.d (.v (xb none))),.c (.d (.i .i64 ((val (jb3 u3 u1)))))]) (.leaf (ok (jbH u3 u1)) [.c (.box 130 [.d (.s ((val (jbH u3 u1)).1)),.g 0,.row 3 (.ints .i64 ((val (jbH u3 u1)).2.1))]),.c (.d (.i .i64 ((val (jbH u3 u1)).2.2)))]))
 |_=>none
abbrev jjd (u3:ByteArray) (u1:List (List NC)) (r:Int):Lp ((Int × List Bool × List Int) × Nat) (Int × List Bool × List Int) ((Unit ⊕ (List Int))) Int Int :=
 ⟨fun z=>z.1,fun z=>z.2,fun z x n=>(x,n),fun z=>jcd u1,fun z=>jjb,fun z=>top r,fun z=>0,[.c fun _=>0,.c fun _=>0,.c fun _=>(↑u1.length:Int),.c fun vv=>vv.1.1,.c fun _=>u3,.c fun _=>u3,.c fun vv=>vv.1.2.1,.c fun _=>u1,.c fun vv=>vv.1.2.2]⟩
abbrev jpK (u3:ByteArray) (u1:List (List NC)) (r:Int) (m1:Nat):Lp ((Int × List Bool × List Int) × Nat × Int × Nat) Int Int (((Int × List Bool × List Int) ⊕ (Unit ⊕ (List Int)))) Int :=
 ⟨fun z=>z.2.2.1,fun z=>z.2.2.2,fun z x n=>(z.1,z.2.1,x,n),fun z=>jcx u1 z.1,fun z=>jja z.1,fun z=>(jjd u3 u1 r).cx (z.1,m1),fun z=>z.2.1,[.c fun _=>0,.c fun _=>0,.c fun _=>(-1:Int),.c fun _=>(↑u1.length:Int),.c fun vv=>vv.1.1,.c fun _=>(↑u1.length:Int),.c fun vv=>vv.2.2.1,.c fun _=>u3,.c fun _=>u3,.c fun vv=>vv.1.2.1,.c fun _=>u1,.c fun vv=>vv.1.2.2]⟩
def jz6 (u3:ByteArray) (u1:List (List NC)) (r:Int):Sk (top r) (zb (jae (jcd u1) big (((0:Int),zf (zg (↑u1.length:Int)) false,[]))) (jjb)) :=
 .loopQ (jjd u3 u1 r) [.c fun _=>0,.c fun _=>0,.c fun _=>(↑u1.length:Int),.c fun vv=>vv.1.1,.c fun _=>u3,.c fun _=>u3,.c fun vv=>vv.1.2.1,.c fun _=>u1,.p fun vv=>ze vv.1.2.2=(0:Nat)] (fun kk=>(((0:Int),zf (zg (↑u1.length:Int)) false,[]),big)) (fun z0 =>
 .br
 (.loop (jpK u3 u1 r z0.2) (fun kk=>(z0.1,kk,0,big)) fun z1 =>
 .br
 (.ob (.ob (.brB
 (.call (.brB
 (.exit (.brB
 (.exit (.obT (.obT (.ret (fun r=>(Ob (xb none=xb none) ∧
 (Ob ((19:Int)=r) ∧
 True))) ⟨⟨rfl⟩,⟨⟨rfl⟩,trivial⟩⟩))))
 (.ob (.ob (.ob (.next))))))
 (.next)))
 (.next))))
 (.exit (.exit (.obT (.obT (.ret (fun r=>(Ob (xb none=xb none) ∧
 (Ob ((19:Int)=r) ∧
 True))) ⟨⟨rfl⟩,⟨⟨rfl⟩,trivial⟩⟩))))))
 (.exit (.obT (.obT (.bad (False)))))) (fun _=>⟨rfl,trivial⟩)
def jCm (u3:ByteArray) (u1:List (List NC)) (r:Int):Sk (top r) (jb3 u3 u1) :=
 .call (.brB
 (.obT (.obT (.ret (fun r=>(Ob (xb none=xb none) ∧
 (Ob ((val (y67 u3 u1)).2=r) ∧
 True))) ⟨⟨rfl⟩,⟨⟨rfl⟩,trivial⟩⟩)))
 (.ob (jz6 u3 u1 r)))
def jz7 (u3:ByteArray) (u1:List (List NC)) (r:Int) (h:zb (jb3 u3 u1) some=some r):jaG Tryz.f80 ((sp_18 (sp_85 sp0))) (fun gs id _=>match id with
 |0=>some ⟨(Int × List Bool × List Int) × Nat,fun z=>⟨[(1,.w (.c (.p 1 0 1 0))),(6,.w (.c (.p 2 0 1 0))),(7,.w (.c (.o 3))),(27,.w (.c (.d (.i .i64 ((↑u1.length:Int)))))),(28,.w (.c (.d (.i .i64 z.1.1))))],[(1,.box 24 [.d (.s u3),.o 0]),(2,.box 130 [.d (.s u3),.o 0,.o 4]),(3,.row 4 (.bools z.1.2.1)),(0,.xext (XC.st zS u1)),(4,.row 3 (.ints .i64 z.1.2.2))],5⟩,fun z=>(jjd u3 u1 r).inv z,fun z=>z.2⟩
 |2=>some ⟨(Int × List Bool × List Int) × Nat × Int × Nat,fun z=>⟨[(1,.w (.c (.p 1 0 1 0))),(6,.w (.c (.p 2 0 1 0))),(7,.w (.c (.o 3))),(8,.w (.c (.d (.i .i64 (-1:Int))))),(27,.w (.c (.d (.i .i64 ((↑u1.length:Int)))))),(28,.w (.c (.d (.i .i64 (z.1.1))))),(32,.w (.c (.d (.i .i64 ((↑u1.length:Int)))))),(33,.w (.c (.d (.i .i64 z.2.2.1))))],[(1,.box 24 [.d (.s u3),.o 0]),(2,.box 130 [.d (.s u3),.o 0,.o 4]),(3,.row 4 (.bools (z.1.2.1))),(0,.xext (XC.st zS u1)),(4,.row 3 (.ints .i64 (z.1.2.2)))],5⟩,fun z=>(jpK u3 u1 r (gs.getD 0 0)).inv z,fun z=>z.2.2.2⟩
 |_=>none) (jaC jhp [.d (.s u3),.x (.st zS u1)]) [.c (.d (.v (xb none))),.c (.d (.i .i64 r))] :=
 Sk.vc (jCm u3 u1 r) (by kernel_rfl) h
abbrev jje (u3:ByteArray) (u1:List (List NC)) (r:ByteArray × List Int × Int):Lp ((Int × List Bool × List Int) × Nat) (Int × List Bool × List Int) ((Unit ⊕ (List Int))) (ByteArray × List Int × Int) (ByteArray × List Int × Int) :=
 ⟨fun z=>z.1,fun z=>z.2,fun z x n=>(x,n),fun z=>jfu u1,fun z=>jjc u3,fun z=>top r,fun z=>0,[.c fun _=>0,.c fun _=>0,.c fun _=>(↑u1.length:Int),.c fun vv=>vv.1.1,.c fun _=>u3,.c fun _=>u3,.c fun vv=>vv.1.2.1,.c fun _=>u1,.c fun vv=>vv.1.2.2]⟩
abbrev jpL (u3:ByteArray) (u1:List (List NC)) (r:ByteArray × List Int × Int) (m1:Nat):Lp ((Int × List Bool × List Int) × Nat × Int × Nat) Int Int (((Int × List Bool × List Int) ⊕ (Unit ⊕ (List Int)))) (ByteArray × List Int × Int) :=
 ⟨fun z=>z.2.2.1,fun z=>z.2.2.2,fun z x n=>(z.1,z.2.1,x,n),fun z=>jpI u1 z.1,fun z=>jpJ z.1,fun z=>(jje u3 u1 r).cx (z.1,m1),fun z=>z.2.1,[.c fun _=>0,.c fun _=>0,.c fun _=>(-1:Int),.c fun _=>(↑u1.length:Int),.c fun vv=>vv.1.1,.c fun _=>(↑u1.length:Int),.c fun vv=>vv.2.2.1,.c fun _=>u3,.c fun _=>u3,.c fun vv=>vv.1.2.1,.c fun _=>u1,.c fun vv=>vv.1.2.2]⟩
def jz8 (u3:ByteArray) (u1:List (List NC)) (r:ByteArray × List Int × Int):Sk (top r) (zb (jae (jfu u1) big (((0:Int),zf (zg (↑u1.length:Int)) false,[]))) (jjc u3)) :=
 .loopQ (jje u3 u1 r) [.c fun _=>0,.c fun _=>0,.c fun _=>(↑u1.length:Int),.c fun vv=>vv.1.1,.c fun _=>u3,.c fun _=>u3,.c fun vv=>vv.1.2.1,.c fun _=>u1,.p fun vv=>ze vv.1.2.2=(0:Nat)] (fun kk=>(((0:Int),zf (zg (↑u1.length:Int)) false,[]),big)) (fun z0 =>
 .br
 (.loop (jpL u3 u1 r z0.2) (fun kk=>(z0.1,kk,0,big)) fun z1 =>
 .br
 (.ob (.ob (.brB
 (.call (.brB
 (.exit (.brB
 (.exit (.obT (.obT (.bad (False)))))
 (.ob (.ob (.ob (.next))))))
 (.next)))
 (.next))))
 (.exit (.exit (.obT (.obT (.bad (False)))))))
 (.exit (.obT (.obT (.rc))))) (fun _=>⟨rfl,trivial⟩)
def jCn (u3:ByteArray) (u1:List (List NC)) (r:ByteArray × List Int × Int):Sk (top r) (jbH u3 u1) :=
 .call (.brB
 (.obT (.obT (.bad (False))))
 (.ob (jz8 u3 u1 r)))
def jz9 (u3:ByteArray) (u1:List (List NC)) (r:ByteArray × List Int × Int) (h:zb (jbH u3 u1) some=some r):jaG Tryz.f80 ((sp_18 (sp_85 sp0))) (fun gs id _=>match id with
 |0=>some ⟨(Int × List Bool × List Int) × Nat,fun z=>⟨[(1,.w (.c (.p 1 0 1 0))),(6,.w (.c (.p 2 0 1 0))),(7,.w (.c (.o 3))),(27,.w (.c (.d (.i .i64 ((↑u1.length:Int)))))),(28,.w (.c (.d (.i .i64 z.1.1))))],[(1,.box 24 [.d (.s u3),.o 0]),(2,.box 130 [.d (.s u3),.o 0,.o 4]),(3,.row 4 (.bools z.1.2.1)),(0,.xext (XC.st zS u1)),(4,.row 3 (.ints .i64 z.1.2.2))],5⟩,fun z=>(jje u3 u1 r).inv z,fun z=>z.2⟩
 |2=>some ⟨(Int × List Bool × List Int) × Nat × Int × Nat,fun z=>⟨[(1,.w (.c (.p 1 0 1 0))),(6,.w (.c (.p 2 0 1 0))),(7,.w (.c (.o 3))),(8,.w (.c (.d (.i .i64 (-1:Int))))),(27,.w (.c (.d (.i .i64 ((↑u1.length:Int)))))),(28,.w (.c (.d (.i .i64 (z.1.1))))),(32,.w (.c (.d (.i .i64 ((↑u1.length:Int)))))),(33,.w (.c (.d (.i .i64 z.2.2.1))))],[(1,.box 24 [.d (.s u3),.o 0]),(2,.box 130 [.d (.s u3),.o 0,.o 4]),(3,.row 4 (.bools (z.1.2.1))),(0,.xext (XC.st zS u1)),(4,.row 3 (.ints .i64 (z.1.2.2)))],5⟩,fun z=>(jpL u3 u1 r (gs.getD 0 0)).inv z,fun z=>z.2.2.2⟩
 |_=>none) (jaC jhp [.d (.s u3),.x (.st zS u1)]) [.c (.box 130 [.d (.s r.1),.g 0,.row 3 (.ints .i64 r.2.1)]),.c (.d (.i .i64 r.2.2))] :=
 Sk.vc (jCn u3 u1 r) (by kernel_rfl) h
def jDT:jaf Tryz.prog 80 true (jah jhp jyj):=by
 refine jal (sp:=(sp_18 (sp_85 sp0))) (fn:=Tryz.f80) (body:=bodyOf Tryz.f80) mixed (sp_18_ok (sp_85_ok jaj)) Tryz.func80 (by kernel_rfl) (by kernel_rfl) fun ls t h ho b hb=>?_;unfold jyj at h;split at h
 ·rename_i u3 u1;cases h;obtain rfl:=jap hb;refine jIK (Q:=fun rs=>_∧∃fuel loops,sx _ _ _ _ fuel loops _ _ _ _ _ (jbX _ _ fun v hp _=>jg8 _ rs v hp)) (fun _ ho=>⟨zh (by kernel_rfl),_,_,jz7 u3 u1 _ (jai ho)⟩) (fun _ ho=>?_) ho;exact⟨zh (by kernel_rfl),_,_,jz9 u3 u1 _ (jai ho)⟩
 ·cases h
end Go.Sh
end

section
open Go.RowKit
namespace Go.Sx
def nzI (e:Int):Int:=Int.ofNat (e.toNat-1+1)
def jI1 {e:Int} (h:0<e):nzI e=e:=by
 unfold nzI;rw[Int.ofNat_eq_natCast];omega
def jDU [Globs] {P:Program} {f:Nat} {shs:List SV} {g g':List Lf->Option GT} (h:∀ls t',g' ls=some t'->∃t,g ls=some t∧(t'.sel.1->t.sel.1∧t.sel.2=t'.sel.2)) (hS:jaf P f true (jah shs g)):jaf P f true (jah shs g'):=by
 have key:∀args hp nx t',jah shs g' args hp nx=some t'->t'.sel.ob->∃t,jah shs g args hp nx=some t∧t.sel.ob∧t.sel.v=t'.sel.v∧t.sel.hp=t'.sel.hp∧t.sel.nx=t'.sel.nx:=by
  intro args hp nx t' ht hob;unfold jah at ht ⊢;split at ht
  ·rename_i ls am hto;split at ht
   ·rename_i q' hg;cases ht;obtain⟨q,hq,himp⟩:=h ls q' hg;rw[jb1]at hob ⊢;obtain⟨h1,h2⟩:=himp hob;refine⟨q.toRT am hp nx,by simp only[hq],?_,?_,?_,?_⟩
    ·rw[jb1];exact h1
    all_goals rw[jb1];simp only[h2]
   ·cases ht
  ·cases ht
 rcases hS with hR|hV
 ·refine .inl ⟨hR.enter,fun I B w args hp nx t' ht hob hlt hh hB=>?_⟩;obtain⟨t,q1,q2,q3,q4,q5⟩:=key args hp nx t' ht hob;refine(hR.sound I B w args hp nx t q1 q2 hlt hh hB).mono ?_;rintro e w' ⟨I',he,hl⟩;refine⟨I',by rw[he,q3],hl.agree,by rw[<-q3,<-q5];exact hl.lt,by rw[<-q5];exact hl.le,by rw[<-q4,<-q5];exact hl.heap,hl.below,hl.mono,by rw[<-q4];exact hl.fresh⟩
 ·refine .inr fun I B w args hp nx t' ht hob hlt hh hB=>?_;obtain⟨t,q1,q2,q3,q4,q5⟩:=key args hp nx t' ht hob;obtain⟨ob,v,e1,e2,e3⟩:=hV I B w args hp nx t q1 q2 hlt hh hB;rw[e1]at q3 q4 q5;refine⟨t'.sel.ob,v,?_,e2,e3⟩;cases hs:t'.sel with
  |mk ob' v' hp' nx' =>
   rw[hs]at q3 q4 q5;simp only at q3 q4 q5;rw[<-q3,<-q4,<-q5]
end Go.Sx
namespace Go.Sh
open Go Go.Proofs Go.RowKit Go.Sx
def jct (gName:ByteArray) (gUnits:List (List NC)):Option Int:=(jb3 gName gUnits).bind fun e=>if 0<e then some e else none
def jas (gName:ByteArray) (gUnits:List (List NC)):Option (List Int):=(jbH gName gUnits).map fun r=>r.2.1
def jih (gName:ByteArray) (gUnits:List (List NC)):Bool:=(jb3 gName gUnits).isSome
def jnh:List Lf->Option GT
 |[.d (.s gName),.x (.st [.s,.i .i64,.ints .i64,.ints .i64,.ints .i64,.i .i64,.recs 5,.i .i64] gUnits)]=>some (.br (jih gName gUnits) (.leaf (ok (jct gName gUnits)) [.c (.d (.v (xb none))),.c (.d (.i .i64 (nzI (val (jct gName gUnits)))))]) (.leaf (ok (jas gName gUnits)) [.c (.box 130 [.d (.s gName),.g 0,.row 3 (.ints .i64 (val (jas gName gUnits)))]),.c (.d (.i .i64 0))]))
 |_=>none
def jDV {gName:ByteArray} {gUnits:List (List NC)} {r:ByteArray × List Int × Int} (h:jbH gName gUnits=some r):r.1=gName∧r.2.2=0:=by
 unfold jbH at h;obtain⟨c,_,h⟩:=zQ.1 h;split at h
 ·cases h
 ·split at h
  ·obtain⟨y,_,h⟩:=zQ.1 h;cases y with
   |inl u=>cases h
   |inr l=>cases h;exact⟨rfl,rfl⟩
  ·cases h
def jCo:jaf Tryz.prog 80 true (jah jhp jnh):=by
 refine jDU (fun ls t' h=>?_) jDT;unfold jnh at h;split at h
 ·rename_i gName gUnits;cases h;refine⟨_,rfl,fun hob=>?_⟩;unfold jih at hob ⊢;cases hq:(jb3 gName gUnits).isSome with
  |true =>
   rw[hq]at hob;have hob:ok (jct gName gUnits):=hob;obtain⟨e,he⟩:=Option.isSome_iff_exists.1 hq;have hF:jct gName gUnits=if 0<e then some e else none:=by unfold jct;rw[he];rfl
   have hpos:0<e:=by
    rw[hF]at hob
    by_cases h0:0<e
    ·exact h0
    ·rw[if_neg h0]at hob;cases hob
   rw[if_pos hpos]at hF;refine⟨hq,?_⟩
   show[RR.c (.d (.v (xb none))),RR.c (.d (.i .i64 (val (jb3 gName gUnits))))]=[RR.c (.d (.v (xb none))),RR.c (.d (.i .i64 (nzI (val (jct gName gUnits)))))]
   rw[jr3 he,jr3 hF,jI1 hpos]
  |false =>
   rw[hq]at hob;have hob:ok (jas gName gUnits):=hob;cases he:jbH gName gUnits with
   |none=>unfold jas at hob;rw[he]at hob;cases hob
   |some r =>
    have hS:jas gName gUnits=some r.2.1:=by unfold jas;rw[he];rfl
    obtain⟨q1,q2⟩:=jDV he;refine⟨rfl,?_⟩
    show[RR.c (.box 130 [.d (.s r.1),.g 0,.row 3 (.ints .i64 r.2.1)]),RR.c (.d (.i .i64 r.2.2))]=[RR.c (.box 130 [.d (.s gName),.g 0,.row 3 (.ints .i64 (val (jas gName gUnits)))]),RR.c (.d (.i .i64 0))]
    rw[jr3 hS,q1,q2]
 ·cases h
abbrev sp_80:jaa->jaa:=jan 80 true (jah jhp jnh)
def sp_80_ok {sp:jaa} (h:jab Tryz.prog sp):jab Tryz.prog (sp_80 sp):=jag jCo h
end Go.Sh
end

section
namespace Go.Sh
open Go Go.Proofs Go.RowKit Go.Sx
open Go.IntKind (wrap)
def y211:List SV:=[.c (.p [.d,.x (.st zS []),.r (.ints .i64 [])]),.c (.r (.bools []))]
def y29 (u5:List (List NC)) (u6:List Int) (u30:List Bool) (x0:(Int × List Int)):Option ((Int × List Int) ⊕ (List Int)) :=
 if x0.1<(↑u6.length:Int)then
  if 0<=x0.1∧x0.1<(↑u6.length:Int)then
  if zg x0.1<ze u6 then
   if 0<=za u6 x0.1.toNat (0:Int)∧za u6 x0.1.toNat 0<(↑u5.length:Int)then
   if zg (za u6 x0.1.toNat (0:Int))<ze u5 then
    if 0<=za u6 x0.1.toNat (0:Int)∧za u6 x0.1.toNat 0<(↑u30.length:Int)then
    if zg (za u6 x0.1.toNat (0:Int))<ze u30 then
     if(!za u30 (zg (za u6 x0.1.toNat (0:Int))) false)=true then
     if 0<=za u6 x0.1.toNat (0:Int)∧za u6 x0.1.toNat 0<(↑x0.2.length:Int)then
      if zg (za u6 x0.1.toNat (0:Int))<ze x0.2 then
      some (.inl ((wrap .i64 (x0.1+1),qw x0.2 (zg (za u6 x0.1.toNat (0:Int))) (za u6 x0.1.toNat (0:Int)))))
      else none
     else none
     else
     if(nI u5 (zg (za u6 x0.1.toNat (0:Int))) (7:Nat)==(-1:Int))=true then
      if 0<=za u6 x0.1.toNat (0:Int)∧za u6 x0.1.toNat 0<(↑x0.2.length:Int)then
      if zg (za u6 x0.1.toNat (0:Int))<ze x0.2 then
       some (.inl ((wrap .i64 (x0.1+1),qw x0.2 (zg (za u6 x0.1.toNat (0:Int))) (-1:Int))))
      else none
      else none
     else
      if 0<=nI u5 (zg (za u6 x0.1.toNat (0:Int))) (7:Nat)∧nI u5 (zg (za u6 x0.1.toNat (0:Int))) 7<(↑x0.2.length:Int)then
      if zg (nI u5 (zg (za u6 x0.1.toNat (0:Int))) (7:Nat))<ze x0.2 then
       if 0<=za u6 x0.1.toNat (0:Int)∧za u6 x0.1.toNat 0<(↑x0.2.length:Int)then
       if zg (za u6 x0.1.toNat (0:Int))<ze x0.2 then
        some (.inl ((wrap .i64 (x0.1+1),qw x0.2 (zg (za u6 x0.1.toNat (0:Int))) (za x0.2 (zg (nI u5 (zg (za u6 x0.1.toNat (0:Int))) (7:Nat))) (0:Int)))))
       else none
       else none
      else none
      else none
    else none
    else none
   else none
   else none
  else none
  else none
 else
  some (.inr x0.2)
def y188 (u4:List Int):Option (List Int) :=
 some u4
def y17 (u7:ByteArray) (u5:List (List NC)) (u6:List Int) (u30:List Bool):Option (List Int) :=
 if 0<=(↑u5.length:Int)∧(↑u5.length:Int)=(↑u5.length:Int)∧(↑(8:Nat):Int)*(↑u5.length:Int)<=281474976710656∧(↑u5.length:Int)<=9223372036854775807 then
  zb (jae (y29 u5 u6 u30) big (((0:Int),zf (zg (↑u5.length:Int)) (0:Int)))) (y188)
 else none
def y212:List Lf->Option GT
 |[.d (.s u7),.x (.st [.s,.i .i64,.ints .i64,.ints .i64,.ints .i64,.i .i64,.recs 5,.i .i64] u5),.r (.ints .i64 u6),.r (.bools u30)]=>some (.leaf (ok (y17 u7 u5 u6 u30)) [.c (.row 3 (.ints .i64 ((val (y17 u7 u5 u6 u30)))))])
 |_=>none
abbrev sp_93:jaa->jaa:=jan 93 true (jah y211 y212)
abbrev y312 (u7:ByteArray) (u5:List (List NC)) (u6:List Int) (u30:List Bool) (r:List Int):Lp ((Int × List Int) × Nat) (Int × List Int) (List Int) (List Int) (List Int) :=
 ⟨fun z=>z.1,fun z=>z.2,fun z x n=>(x,n),fun z=>y29 u5 u6 u30,fun z=>y188,fun z=>top r,fun z=>0,[.c fun _=>0,.c fun _=>(↑u6.length:Int),.c fun vv=>vv.1.1,.c fun _=>u7,.c fun _=>u30,.c fun vv=>vv.1.2,.c fun _=>u6,.c fun _=>u5]⟩
def jlV (u7:ByteArray) (u5:List (List NC)) (u6:List Int) (u30:List Bool) (r:List Int):Sk (top r) (zb (jae (y29 u5 u6 u30) big (((0:Int),zf (zg (↑u5.length:Int)) (0:Int)))) (y188)) :=
 .loop (y312 u7 u5 u6 u30 r) (fun kk=>(((0:Int),zf (zg (↑u5.length:Int)) (0:Int)),big)) fun z0 =>
 .br
 (.ob (.ob (.obT (.ob (.ob (.ob (.ob (.brB
 (.ob (.ob (.next)))
 (.brB
 (.ob (.ob (.next)))
 (.ob (.ob (.ob (.ob (.next))))))))))))))
 (.exit (.obT (.rc)))
def jni (u7:ByteArray) (u5:List (List NC)) (u6:List Int) (u30:List Bool) (r:List Int):Sk (top r) (y17 u7 u5 u6 u30) :=
 .obT (.ob (.obT (jlV u7 u5 u6 u30 r)))
def jlW (u7:ByteArray) (u5:List (List NC)) (u6:List Int) (u30:List Bool) (r:List Int) (h:zb (y17 u7 u5 u6 u30) some=some r):jaG Tryz.f93 (sp0) (fun gs id _=>match id with
 |0=>some ⟨(Int × List Int) × Nat,fun z=>⟨[(0,.w (.c (.p 2 0 1 0))),(1,.w (.c (.o 3))),(5,.w (.c (.o 4))),(19,.w (.c (.o 1))),(20,.w (.c (.d (.i .i64 ((↑u6.length:Int)))))),(21,.w (.c (.d (.i .i64 z.1.1))))],[(2,.ebox [.d (.s u7),.o 0,.o 1]),(3,.ext (.bools u30)),(4,.row 3 (.ints .i64 z.1.2)),(1,.ext (.ints .i64 u6)),(0,.xext (XC.st zS u5))],5⟩,fun z=>(y312 u7 u5 u6 u30 r).inv z,fun z=>z.2⟩
 |_=>none) (jaC y211 [.d (.s u7),.x (.st zS u5),.r (.ints .i64 u6),.r (.bools u30)]) [.c (.row 3 (.ints .i64 r))] :=
 Sk.vc (jni u7 u5 u6 u30 r) (by kernel_rfl) h
def jlX:jaf Tryz.prog 93 true (jah y211 y212):=by
 refine jal (sp:=sp0) (fn:=Tryz.f93) (body:=bodyOf Tryz.f93) mixed jaj Tryz.func93 (by kernel_rfl) (by kernel_rfl) fun ls t h ho b hb=>?_;unfold y212 at h;split at h
 ·rename_i u7 u5 u6 u30;cases h;obtain rfl:=jap hb;exact⟨zh (by kernel_rfl),_,_,jlW u7 u5 u6 u30 _ (jai ho)⟩
 ·cases h
def sp_93_ok {sp:jaa} (h:jab Tryz.prog sp):jab Tryz.prog (sp_93 sp):=jag jlX h
def y275:List SV:=[.c (.d),.c (.p [.r (.ints .i64 [])]),.c (.p [.r (.bools [])])]
def jyk (n:Int) (v0_:List Int) (v1_:List Bool):Option Bool :=
 if 0<=n∧n<(↑v0_.length:Int)then
  if zg n<ze v0_ then
  if(za v0_ n.toNat (0:Int)!=(-1:Int))=true then
   if 0<=n∧n<(↑v0_.length:Int)then
   if zg n<ze v0_ then
    if 0<=za v0_ n.toNat (0:Int)∧za v0_ n.toNat 0<(↑v1_.length:Int)then
    if zg (za v0_ n.toNat (0:Int))<ze v1_ then
     some (za v1_ (zg (za v0_ n.toNat (0:Int))) false)
    else none
    else none
   else none
   else none
  else
   some false
  else none
 else none
def y276:List Lf->Option GT
 |[.d (.i .i64 n),.r (.ints .i64 v0_),.r (.bools v1_)]=>some (.leaf (ok (jyk n v0_ v1_)) [.c (.d (.b ((val (jyk n v0_ v1_)))))])
 |_=>none
abbrev sp_140:jaa->jaa:=jan 140 true (jah y275 y276)
def jsn (n:Int) (v0_:List Int) (v1_:List Bool) (r:Bool):Sk (top r) (jyk n v0_ v1_) :=
 .obT (.ob (.ob (.brB
 (.obT (.obT (.ob (.ob (.ob (.ob (.obT (.rc))))))))
 (.obT (.rc)))))
def jqC (n:Int) (v0_:List Int) (v1_:List Bool) (r:Bool) (h:zb (jyk n v0_ v1_) some=some r):jaG Tryz.f140 (sp0) (fun _ _ _=>none) (jaC y275 [.d (.i .i64 n),.r (.ints .i64 v0_),.r (.bools v1_)]) [.c (.d (.b r))] :=
 Sk.vc (jsn n v0_ v1_ r) (by kernel_rfl) h
def jqD:jaf Tryz.prog 140 true (jah y275 y276):=by
 refine jal (sp:=sp0) (fn:=Tryz.f140) (body:=bodyOf Tryz.f140) mixed jaj Tryz.func140 (by kernel_rfl) (by kernel_rfl) fun ls t h ho b hb=>?_;unfold y276 at h;split at h
 ·rename_i n v0_ v1_;cases h;obtain rfl:=jap hb;exact⟨zh (by kernel_rfl),_,_,jqC n v0_ v1_ _ (jai ho)⟩
 ·cases h
def sp_140_ok {sp:jaa} (h:jab Tryz.prog sp):jab Tryz.prog (sp_140 sp):=jag jqD h
def y126:List SV:=[.c (.r (.ints .i64 [])),.c (.f 140 [.p [.r (.ints .i64 [])],.p [.r (.bools [])]])]
def y175 (s f0_:List Int) (f1_:List Bool) (x0:Int):Option (Int ⊕ (Int ⊕ Unit)) :=
 if x0<(↑s.length:Int)then
  if 0<=x0∧x0<(↑s.length:Int)then
  if zg x0<ze s then
   zb (jyk (za s x0.toNat (0:Int)) f0_ f1_) fun r0 =>
   if(r0)=true then
   some (.inr (.inl x0))
   else
   some (.inl (wrap .i64 (x0+1)))
  else none
  else none
 else
  some (.inr ((.inr ())))
def y303 (u4:Int):Option Int :=
 some u4
def y304 (u9:Unit):Option Int :=
 some (-1:Int)
def y176:(Int ⊕ Unit)->Option Int :=
 (qC (y303) (y304))
def y51 (s f0_:List Int) (f1_:List Bool):Option Int :=
 zb (jae (y175 s f0_ f1_) big (0:Int)) (y176)
def y127:List Lf->Option GT
 |[.r (.ints .i64 s),.r (.ints .i64 f0_),.r (.bools f1_)]=>some (.leaf (ok (y51 s f0_ f1_)) [.c (.d (.i .i64 ((val (y51 s f0_ f1_)))))])
 |_=>none
abbrev sp_156_140:jaa->jaa:=jan 156 true (jah y126 y127)
abbrev y177 (s f0_:List Int) (f1_:List Bool) (r:Int):Lp (Int × Nat) Int (Int ⊕ Unit) Int Int :=
 ⟨fun z=>z.1,fun z=>z.2,fun z x n=>(x,n),fun z=>y175 s f0_ f1_,fun z=>y176,fun z=>top r,fun z=>0,[.c fun _=>(↑s.length:Int),.c fun vv=>vv.1,.c fun _=>s,.c fun _=>f0_,.c fun _=>f1_]⟩
def y329 (s f0_:List Int) (f1_:List Bool) (r:Int):Sk (top r) (y51 s f0_ f1_) :=
 .loop (y177 s f0_ f1_ r) (fun kk=>((0:Int),big)) fun z0 =>
 .br
 (.ob (.ob (.call (.brB
 (.exit (.obT (.rc)))
 (.next)))))
 (.exit (.obT (.rc)))
def y320 (s f0_:List Int) (f1_:List Bool) (r:Int) (h:zb (y51 s f0_ f1_) some=some r):jaG Tryz.f156 ((sp_140 sp0)) (fun gs id _=>match id with
 |0=>some ⟨Int × Nat,fun z=>⟨[(0,.w (.c (.o 0))),(1,.w (.c (.fn 140 [2,4]))),(7,.w (.c (.d (.i .i64 ((↑s.length:Int)))))),(8,.w (.c (.d (.i .i64 z.1))))],[(0,.ext (.ints .i64 s)),(2,.ebox [.o 1]),(4,.ebox [.o 3]),(1,.ext (.ints .i64 f0_)),(3,.ext (.bools f1_))],5⟩,fun z=>(y177 s f0_ f1_ r).inv z,fun z=>z.2⟩
 |_=>none) (jaC y126 [.r (.ints .i64 s),.r (.ints .i64 f0_),.r (.bools f1_)]) [.c (.d (.i .i64 r))] :=
 Sk.vc (y329 s f0_ f1_ r) (by kernel_rfl) h
def y321:jaf Tryz.prog 156 true (jah y126 y127):=by
 refine jal (sp:=(sp_140 sp0)) (fn:=Tryz.f156) (body:=bodyOf Tryz.f156) mixed (sp_140_ok jaj) Tryz.func156 (by kernel_rfl) (by kernel_rfl) fun ls t h ho b hb=>?_;unfold y127 at h;split at h
 ·rename_i s f0_ f1_;cases h;obtain rfl:=jap hb;exact⟨zh (by kernel_rfl),_,_,y320 s f0_ f1_ _ (jai ho)⟩
 ·cases h
def sp_156_140_ok {sp:jaa} (h:jab Tryz.prog sp):jab Tryz.prog (sp_156_140 sp):=jag y321 h
def y99:List SV:=[.c (.r (.ints .i64 [])),.c (.f 140 [.p [.r (.ints .i64 [])],.p [.r (.bools [])]])]
def y35 (s f0_:List Int) (f1_:List Bool):Option Bool :=
 zb (y51 s f0_ f1_) fun r0 =>
 some (decide (r0>=0))
def y100:List Lf->Option GT
 |[.r (.ints .i64 s),.r (.ints .i64 f0_),.r (.bools f1_)]=>some (.leaf (ok (y35 s f0_ f1_)) [.c (.d (.b ((val (y35 s f0_ f1_)))))])
 |_=>none
abbrev sp_123_140:jaa->jaa:=jan 123 true (jah y99 y100)
def y305 (s f0_:List Int) (f1_:List Bool) (r:Bool):Sk (top r) (y35 s f0_ f1_) :=
 .call (.obT (.rc))
def y277 (s f0_:List Int) (f1_:List Bool) (r:Bool) (h:zb (y35 s f0_ f1_) some=some r):jaG Tryz.f123 ((sp_156_140 (sp_140 sp0))) (fun _ _ _=>none) (jaC y99 [.r (.ints .i64 s),.r (.ints .i64 f0_),.r (.bools f1_)]) [.c (.d (.b r))] :=
 Sk.vc (y305 s f0_ f1_ r) (by kernel_rfl) h
def y278:jaf Tryz.prog 123 true (jah y99 y100):=by
 refine jal (sp:=(sp_156_140 (sp_140 sp0))) (fn:=Tryz.f123) (body:=bodyOf Tryz.f123) mixed (sp_156_140_ok (sp_140_ok jaj)) Tryz.func123 (by kernel_rfl) (by kernel_rfl) fun ls t h ho b hb=>?_;unfold y100 at h;split at h
 ·rename_i s f0_ f1_;cases h;obtain rfl:=jap hb;exact⟨zh (by kernel_rfl),_,_,y277 s f0_ f1_ _ (jai ho)⟩
 ·cases h
def sp_123_140_ok {sp:jaa} (h:jab Tryz.prog sp):jab Tryz.prog (sp_123_140 sp):=jag y278 h
end Go.Sh
end

section
namespace Go.Sh
open Go Go.Proofs Go.RowKit Go.Sx
open Go.IntKind (wrap)
def y167:List SV:=[.a [.d,.d],.c (.p [.d,.d])]
def y42 (u78 u79 u80 u81:Int):Option Bool :=
 some (u78==u80)
def y168:List Lf->Option GT
 |[.d (.i .i64 u78),.d (.i .i64 u79),.d (.i .i64 u80),.d (.i .i64 u81)]=>some (.leaf (ok (y42 u78 u79 u80 u81)) [.c (.d (.b ((val (y42 u78 u79 u80 u81)))))])
 |_=>none
abbrev sp_139:jaa->jaa:=jan 139 true (jah y167 y168)
def jjZ (u78 u79 u80 u81:Int) (r:Bool):Sk (top r) (y42 u78 u79 u80 u81) :=
 .obT (.obT (.rc))
def jjf (u78 u79 u80 u81:Int) (r:Bool) (h:zb (y42 u78 u79 u80 u81) some=some r):jaG Tryz.f139 (sp0) (fun _ _ _=>none) (jaC y167 [.d (.i .i64 u78),.d (.i .i64 u79),.d (.i .i64 u80),.d (.i .i64 u81)]) [.c (.d (.b r))] :=
 Sk.vc (jjZ u78 u79 u80 u81 r) (by kernel_rfl) h
def jjg:jaf Tryz.prog 139 true (jah y167 y168):=by
 refine jal (sp:=sp0) (fn:=Tryz.f139) (body:=bodyOf Tryz.f139) mixed jaj Tryz.func139 (by kernel_rfl) (by kernel_rfl) fun ls t h ho b hb=>?_;unfold y168 at h;split at h
 ·rename_i u78 u79 u80 u81;cases h;obtain rfl:=jap hb;exact⟨zh (by kernel_rfl),_,_,jjf u78 u79 u80 u81 _ (jai ho)⟩
 ·cases h
def sp_139_ok {sp:jaa} (h:jab Tryz.prog sp):jab Tryz.prog (sp_139 sp):=jag jjg h
def y58:List SV:=[.c (.r (.recs 2 [])),.c (.f 139 [.p [.d,.d]])]
def y10 (s:List (List Int)) (u45 u46 x0:Int):Option (Int ⊕ (Int ⊕ Unit)) :=
 if x0<(↑s.length:Int)then
  if 0<=x0∧x0<(↑s.length:Int)then
  if zg x0<ze s then
   zb (y42 (za (za s x0.toNat []) 0 (0:Int)) (za (za s x0.toNat []) 1 (0:Int)) u45 u46) fun r0 =>
   if(r0)=true then
   some (.inr (.inl x0))
   else
   some (.inl (wrap .i64 (x0+1)))
  else none
  else none
 else
  some (.inr ((.inr ())))
def y202 (u4:Int):Option Int :=
 some u4
def y203 (u9:Unit):Option Int :=
 some (-1:Int)
def y118:(Int ⊕ Unit)->Option Int :=
 (qC (y202) (y203))
def y14 (s:List (List Int)) (u45 u46:Int):Option Int :=
 zb (jae (y10 s u45 u46) big (0:Int)) (y118)
def y59:List Lf->Option GT
 |[.r (.recs 2 s),.d (.i .i64 u45),.d (.i .i64 u46)]=>some (.leaf (ok (y14 s u45 u46)) [.c (.d (.i .i64 ((val (y14 s u45 u46)))))])
 |_=>none
abbrev sp_163_139:jaa->jaa:=jan 163 true (jah y58 y59)
abbrev y119 (s:List (List Int)) (u45 u46 r:Int):Lp (Int × Nat) Int (Int ⊕ Unit) Int Int :=
 ⟨fun z=>z.1,fun z=>z.2,fun z x n=>(x,n),fun z=>y10 s u45 u46,fun z=>y118,fun z=>top r,fun z=>0,[.c fun _=>(↑s.length:Int),.c fun vv=>vv.1,.c fun _=>s,.c fun _=>u45,.c fun _=>u46]⟩
def y237 (s:List (List Int)) (u45 u46 r:Int):Sk (top r) (y14 s u45 u46) :=
 .loop (y119 s u45 u46 r) (fun kk=>((0:Int),big)) fun z0 =>
 .br
 (.ob (.ob (.call (.brB
 (.exit (.obT (.rc)))
 (.next)))))
 (.exit (.obT (.rc)))
def y231 (s:List (List Int)) (u45 u46 r:Int) (h:zb (y14 s u45 u46) some=some r):jaG Tryz.f163 ((sp_139 sp0)) (fun gs id _=>match id with
 |0=>some ⟨Int × Nat,fun z=>⟨[(0,.w (.c (.o 0))),(1,.w (.c (.fn 139 [1]))),(7,.w (.c (.d (.i .i64 ((↑s.length:Int)))))),(8,.w (.c (.d (.i .i64 z.1))))],[(0,.ext (.recs 2 s)),(1,.ebox [.d (.i .i64 u45),.d (.i .i64 u46)])],2⟩,fun z=>(y119 s u45 u46 r).inv z,fun z=>z.2⟩
 |_=>none) (jaC y58 [.r (.recs 2 s),.d (.i .i64 u45),.d (.i .i64 u46)]) [.c (.d (.i .i64 r))] :=
 Sk.vc (y237 s u45 u46 r) (by kernel_rfl) h
def y232:jaf Tryz.prog 163 true (jah y58 y59):=by
 refine jal (sp:=(sp_139 sp0)) (fn:=Tryz.f163) (body:=bodyOf Tryz.f163) mixed (sp_139_ok jaj) Tryz.func163 (by kernel_rfl) (by kernel_rfl) fun ls t h ho b hb=>?_;unfold y59 at h;split at h
 ·rename_i s u45 u46;cases h;obtain rfl:=jap hb;exact⟨zh (by kernel_rfl),_,_,y231 s u45 u46 _ (jai ho)⟩
 ·cases h
def sp_163_139_ok {sp:jaa} (h:jab Tryz.prog sp):jab Tryz.prog (sp_163_139 sp):=jag y232 h
def y45:List SV:=[.c (.r (.recs 2 [])),.c (.f 139 [.p [.d,.d]])]
def y5 (s:List (List Int)) (u45 u46:Int):Option Bool :=
 zb (y14 s u45 u46) fun r0 =>
 some (decide (r0>=0))
def y46:List Lf->Option GT
 |[.r (.recs 2 s),.d (.i .i64 u45),.d (.i .i64 u46)]=>some (.leaf (ok (y5 s u45 u46)) [.c (.d (.b ((val (y5 s u45 u46)))))])
 |_=>none
abbrev sp_138_139:jaa->jaa:=jan 138 true (jah y45 y46)
def y204 (s:List (List Int)) (u45 u46:Int) (r:Bool):Sk (top r) (y5 s u45 u46) :=
 .call (.obT (.rc))
def y189 (s:List (List Int)) (u45 u46:Int) (r:Bool) (h:zb (y5 s u45 u46) some=some r):jaG Tryz.f138 ((sp_163_139 (sp_139 sp0))) (fun _ _ _=>none) (jaC y45 [.r (.recs 2 s),.d (.i .i64 u45),.d (.i .i64 u46)]) [.c (.d (.b r))] :=
 Sk.vc (y204 s u45 u46 r) (by kernel_rfl) h
def y190:jaf Tryz.prog 138 true (jah y45 y46):=by
 refine jal (sp:=(sp_163_139 (sp_139 sp0))) (fn:=Tryz.f138) (body:=bodyOf Tryz.f138) mixed (sp_163_139_ok (sp_139_ok jaj)) Tryz.func138 (by kernel_rfl) (by kernel_rfl) fun ls t h ho b hb=>?_;unfold y46 at h;split at h
 ·rename_i s u45 u46;cases h;obtain rfl:=jap hb;exact⟨zh (by kernel_rfl),_,_,y189 s u45 u46 _ (jai ho)⟩
 ·cases h
def sp_138_139_ok {sp:jaa} (h:jab Tryz.prog sp):jab Tryz.prog (sp_138_139 sp):=jag y190 h
def y238:List SV:=[.a [.d,.x (.st zS [])],.c (.r (.recs 2 []))]
def y78 (l:List (List Int)) (x0 x1:Int):Option (Int ⊕ (Unit ⊕ Unit)) :=
 if x1<x0 then
  if 0<=x1∧x1<(↑l.length:Int)then
  if zg x1<ze l then
   if 0<=x0∧x0<(↑l.length:Int)then
   if zg x0<ze l then
    if(za (za l x1.toNat []) 0 (0:Int)==za (za l x0.toNat []) 0 (0:Int))=true then
    some (.inr ((.inl ())))
    else
    some (.inl (wrap .i64 (x1+1)))
   else none
   else none
  else none
  else none
 else
  some (.inr ((.inr ())))
def y279 (l:List (List Int)) (x0:Int) (u26:Unit):Option (Int ⊕ ((Int × Int) ⊕ Unit)) :=
 some (.inr ((.inl ((x0,26)))))
def y280 (l:List (List Int)) (x0:Int) (u33:Unit):Option (Int ⊕ ((Int × Int) ⊕ Unit)) :=
 if 0<=x0∧x0<(↑l.length:Int)then
  if zg x0<ze l then
  zb (y21 (za (za l x0.toNat []) 1 (0:Int)) (0:Int) (16:Int)) fun r1 =>
  if(!r1)=true then
   some (.inr ((.inl ((x0,2)))))
  else
   some (.inl (wrap .i64 (x0+1)))
  else none
 else none
def y213 (l:List (List Int)) (x0:Int):(Unit ⊕ Unit)->Option (Int ⊕ ((Int × Int) ⊕ Unit)) :=
 (qC (y279 l x0) (y280 l x0))
def y79 (u1:List (List NC)) (l:List (List Int)) (x0:Int):Option (Int ⊕ ((Int × Int) ⊕ Unit)) :=
 if x0<(↑l.length:Int)then
  if 0<=x0∧x0<(↑l.length:Int)then
  if zg x0<ze l then
   zb (y21 (za (za l x0.toNat []) 0 (0:Int)) (0:Int) (wrap .i64 ((↑u1.length:Int)-1))) fun r0 =>
   if(!r0)=true then
   some (.inr ((.inl ((x0,6)))))
   else
   zb (jae (y78 l x0) big (0:Int)) (y213 l x0)
  else none
  else none
 else
  some (.inr ((.inr ())))
def jld (u4:Int × Int):Option (Int × Int) :=
 some (u4.1,u4.2)
def jle (u9:Unit):Option (Int × Int) :=
 some (((0:Int),0))
def y214:((Int × Int) ⊕ Unit)->Option (Int × Int) :=
 (qC (jld) (jle))
def y60 (u3:ByteArray) (u1:List (List NC)) (l:List (List Int)):Option (Int × Int) :=
 if(↑l.length:Int)>24 then
  some (((0:Int),8))
 else
  zb (jae (y79 u1 l) big (0:Int)) (y214)
def y239:List Lf->Option GT
 |[.d (.s u3),.x (.st [.s,.i .i64,.ints .i64,.ints .i64,.ints .i64,.i .i64,.recs 5,.i .i64] u1),.r (.recs 2 l)]=>some (.leaf (ok (y60 u3 u1 l)) [.c (.d (.i .i64 ((val (y60 u3 u1 l)).1))),.c (.d (.i .i64 ((val (y60 u3 u1 l)).2)))])
 |_=>none
abbrev sp_44:jaa->jaa:=jan 44 true (jah y238 y239)
abbrev y215 (u3:ByteArray) (u1:List (List NC)) (l:List (List Int)) (r:Int × Int):Lp (Int × Nat) Int (((Int × Int) ⊕ Unit)) (Int × Int) (Int × Int) :=
 ⟨fun z=>z.1,fun z=>z.2,fun z x n=>(x,n),fun z=>y79 u1 l,fun z=>y214,fun z=>top r,fun z=>0,[.c fun _=>0,.c fun vv=>vv.1,.c fun _=>l,.c fun _=>u3,.c fun _=>u1]⟩
abbrev y322 (u3:ByteArray) (u1:List (List NC)) (l:List (List Int)) (r:Int × Int) (m1:Nat):Lp (Int × Nat × Int × Nat) Int (Unit ⊕ Unit) ((Int ⊕ ((Int × Int) ⊕ Unit))) (Int × Int) :=
 ⟨fun z=>z.2.2.1,fun z=>z.2.2.2,fun z x n=>(z.1,z.2.1,x,n),fun z=>y78 l z.1,fun z=>y213 l z.1,fun z=>(y215 u3 u1 l r).cx (z.1,m1),fun z=>z.2.1,[.c fun _=>0,.c fun vv=>vv.1,.c fun vv=>vv.2.2.1,.c fun _=>l,.c fun _=>u3,.c fun _=>u1]⟩
def jnj (u3:ByteArray) (u1:List (List NC)) (l:List (List Int)) (r:Int × Int):Sk (top r) (zb (jae (y79 u1 l) big (0:Int)) (y214)) :=
 .loop (y215 u3 u1 l r) (fun kk=>((0:Int),big)) fun z0 =>
 .br
 (.ob (.ob (.call (.brB
 (.exit (.obT (.obT (.rc))))
 (.loop (y322 u3 u1 l r z0.2) (fun kk=>(z0.1,kk,0,big)) fun z1 =>
 .br
 (.ob (.ob (.ob (.ob (.brB
 (.exit (.exit (.obT (.obT (.rc)))))
 (.next))))))
 (.exit (.ob (.ob (.call (.brB
 (.exit (.obT (.obT (.rc))))
 (.next)))))))))))
 (.exit (.obT (.obT (.rc))))
def joN (u3:ByteArray) (u1:List (List NC)) (l:List (List Int)) (r:Int × Int):Sk (top r) (y60 u3 u1 l) :=
 .br
 (.obT (.obT (.rc)))
 (jnj u3 u1 l r)
def jnk (u3:ByteArray) (u1:List (List NC)) (l:List (List Int)) (r:Int × Int) (h:zb (y60 u3 u1 l) some=some r):jaG Tryz.f44 ((sp_45 sp0)) (fun gs id _=>match id with
 |0=>some ⟨Int × Nat,fun z=>⟨[(1,.w (.c (.o 1))),(2,.w (.c (.p 2 0 1 0))),(6,.w (.c (.d (.i .i64 z.1))))],[(1,.ext (.recs 2 l)),(2,.box 24 [.d (.s u3),.o 0]),(0,.xext (XC.st zS u1))],3⟩,fun z=>(y215 u3 u1 l r).inv z,fun z=>z.2⟩
 |2=>some ⟨Int × Nat × Int × Nat,fun z=>⟨[(1,.w (.c (.o 1))),(2,.w (.c (.p 2 0 1 0))),(6,.w (.c (.d (.i .i64 z.1)))),(7,.w (.c (.d (.i .i64 z.2.2.1))))],[(1,.ext (.recs 2 l)),(2,.box 24 [.d (.s u3),.o 0]),(0,.xext (XC.st zS u1))],3⟩,fun z=>(y322 u3 u1 l r (gs.getD 0 0)).inv z,fun z=>z.2.2.2⟩
 |_=>none) (jaC y238 [.d (.s u3),.x (.st zS u1),.r (.recs 2 l)]) [.c (.d (.i .i64 r.1)),.c (.d (.i .i64 r.2))] :=
 Sk.vc (joN u3 u1 l r) (by kernel_rfl) h
def jnl:jaf Tryz.prog 44 true (jah y238 y239):=by
 refine jal (sp:=(sp_45 sp0)) (fn:=Tryz.f44) (body:=bodyOf Tryz.f44) mixed (sp_45_ok jaj) Tryz.func44 (by kernel_rfl) (by kernel_rfl) fun ls t h ho b hb=>?_;unfold y239 at h;split at h
 ·rename_i u3 u1 l;cases h;obtain rfl:=jap hb;exact⟨zh (by kernel_rfl),_,_,jnk u3 u1 l _ (jai ho)⟩
 ·cases h
def sp_44_ok {sp:jaa} (h:jab Tryz.prog sp):jab Tryz.prog (sp_44 sp):=jag jnl h
def y216:List SV:=[.c (.p [.d,.x (.st zS []),.r (.ints .i64 [])]),.c (.r (.recs 2 [])),.c (.d)]
def y30 (l:List (List Int)) (u53:Int) (x0:(Int × List Bool)):Option ((Int × List Bool) ⊕ (List Bool)) :=
 if x0.1<(↑l.length:Int)then
  if 0<=x0.1∧x0.1<(↑l.length:Int)then
  if zg x0.1<ze l then
   if 0<=za (za l x0.1.toNat []) 0 (0:Int)∧za (za l x0.1.toNat []) 0 0<(↑x0.2.length:Int)then
   if zg (za (za l x0.1.toNat []) 0 (0:Int))<ze x0.2 then
    some (.inl ((wrap .i64 (x0.1+1),qw x0.2 (zg (za (za l x0.1.toNat []) 0 (0:Int))) (decide (za (za l x0.1.toNat []) 1 0<=u53)))))
   else none
   else none
  else none
  else none
 else
  some (.inr x0.2)
def y191 (u4:List Bool):Option (List Bool) :=
 some u4
def y38 (u7:ByteArray) (u5:List (List NC)) (u6:List Int) (l:List (List Int)) (u53:Int):Option (List Bool) :=
 if 0<=(↑u5.length:Int)∧(↑u5.length:Int)=(↑u5.length:Int)∧(↑(1:Nat):Int)*(↑u5.length:Int)<=281474976710656∧(↑u5.length:Int)<=9223372036854775807 then
  zb (jae (y30 l u53) big (((0:Int),zf (zg (↑u5.length:Int)) false))) (y191)
 else none
def y217:List Lf->Option GT
 |[.d (.s u7),.x (.st [.s,.i .i64,.ints .i64,.ints .i64,.ints .i64,.i .i64,.recs 5,.i .i64] u5),.r (.ints .i64 u6),.r (.recs 2 l),.d (.i .i64 u53)]=>some (.leaf (ok (y38 u7 u5 u6 l u53)) [.c (.row 4 (.bools ((val (y38 u7 u5 u6 l u53)))))])
 |_=>none
abbrev sp_94:jaa->jaa:=jan 94 true (jah y216 y217)
abbrev y313 (u7:ByteArray) (u5:List (List NC)) (u6:List Int) (l:List (List Int)) (u53:Int) (r:List Bool):Lp ((Int × List Bool) × Nat) (Int × List Bool) (List Bool) (List Bool) (List Bool) :=
 ⟨fun z=>z.1,fun z=>z.2,fun z x n=>(x,n),fun z=>y30 l u53,fun z=>y191,fun z=>top r,fun z=>0,[.c fun _=>u53,.c fun _=>(↑l.length:Int),.c fun vv=>vv.1.1,.c fun vv=>vv.1.2,.c fun _=>l]⟩
def jlY (u7:ByteArray) (u5:List (List NC)) (u6:List Int) (l:List (List Int)) (u53:Int) (r:List Bool):Sk (top r) (zb (jae (y30 l u53) big (((0:Int),zf (zg (↑u5.length:Int)) false))) (y191)) :=
 .loop (y313 u7 u5 u6 l u53 r) (fun kk=>(((0:Int),zf (zg (↑u5.length:Int)) false),big)) fun z0 =>
 .br
 (.ob (.ob (.ob (.ob (.next)))))
 (.exit (.obT (.rc)))
def jnm (u7:ByteArray) (u5:List (List NC)) (u6:List Int) (l:List (List Int)) (u53:Int) (r:List Bool):Sk (top r) (y38 u7 u5 u6 l u53) :=
 .obT (.ob (jlY u7 u5 u6 l u53 r))
def jlZ (u7:ByteArray) (u5:List (List NC)) (u6:List Int) (l:List (List Int)) (u53:Int) (r:List Bool) (h:zb (y38 u7 u5 u6 l u53) some=some r):jaG Tryz.f94 (sp0) (fun gs id _=>match id with
 |0=>some ⟨(Int × List Bool) × Nat,fun z=>⟨[(2,.w (.c (.d (.i .i64 u53)))),(7,.w (.c (.o 4))),(17,.w (.c (.o 3))),(18,.w (.c (.d (.i .i64 ((↑l.length:Int)))))),(19,.w (.c (.d (.i .i64 z.1.1))))],[(4,.row 4 (.bools z.1.2)),(3,.ext (.recs 2 l))],5⟩,fun z=>(y313 u7 u5 u6 l u53 r).inv z,fun z=>z.2⟩
 |_=>none) (jaC y216 [.d (.s u7),.x (.st zS u5),.r (.ints .i64 u6),.r (.recs 2 l),.d (.i .i64 u53)]) [.c (.row 4 (.bools r))] :=
 Sk.vc (jnm u7 u5 u6 l u53 r) (by kernel_rfl) h
def jl0:jaf Tryz.prog 94 true (jah y216 y217):=by
 refine jal (sp:=sp0) (fn:=Tryz.f94) (body:=bodyOf Tryz.f94) mixed jaj Tryz.func94 (by kernel_rfl) (by kernel_rfl) fun ls t h ho b hb=>?_;unfold y217 at h;split at h
 ·rename_i u7 u5 u6 l u53;cases h;obtain rfl:=jap hb;exact⟨zh (by kernel_rfl),_,_,jlZ u7 u5 u6 l u53 _ (jai ho)⟩
 ·cases h
def sp_94_ok {sp:jaa} (h:jab Tryz.prog sp):jab Tryz.prog (sp_94 sp):=jag jl0 h
end Go.Sh
end

section
namespace Go.Sh
open Go Go.Proofs Go.RowKit Go.Sx
open Go.IntKind (wrap)
def y218:List SV:=[.c (.p [.d,.x (.st zS []),.r (.ints .i64 [])]),.c (.d)]
def y43 (u5:List (List NC)) (u31:Int) (x0:(Int × List Int)):Option ((Int × List Int) ⊕ (List Int)) :=
 if x0.1<(↑u5.length:Int)then
  if 0<=x0.1∧x0.1<(↑u5.length:Int)then
  if zg x0.1<ze u5 then
   if(nI u5 x0.1.toNat (1:Nat)==u31)=true then
   if(ze x0.2+ze [x0.1])*8<=140737488355328∧ze x0.2+ze [x0.1]<=9223372036854775807 then
    some (.inl ((wrap .i64 (x0.1+1),x0.2++[x0.1])))
   else none
   else
   some (.inl ((wrap .i64 (x0.1+1),x0.2)))
  else none
  else none
 else
  some (.inr x0.2)
def y192 (u4:List Int):Option (List Int) :=
 some u4
def y4 (u5:List (List NC)) (u31:Int):Option (List Int) :=
 zb (jae (y43 u5 u31) big (((0:Int),[]))) (y192)
def y219:List Lf->Option GT
 |[.d (.s u7),.x (.st [.s,.i .i64,.ints .i64,.ints .i64,.ints .i64,.i .i64,.recs 5,.i .i64] u5),.r (.ints .i64 u6),.d (.i .i64 u31)]=>some (.leaf (ok (y4 u5 u31)) [.c (.row 3 (.ints .i64 ((val (y4 u5 u31)))))])
 |_=>none
abbrev sp_99:jaa->jaa:=jan 99 true (jah y218 y219)
abbrev y314 (u7:ByteArray) (u5:List (List NC)) (u6:List Int) (u31:Int) (r:List Int):Lp ((Int × List Int) × Nat) (Int × List Int) (List Int) (List Int) (List Int) :=
 ⟨fun z=>z.1,fun z=>z.2,fun z x n=>(x,n),fun z=>y43 u5 u31,fun z=>y192,fun z=>top r,fun z=>0,[.c fun _=>u31,.c fun _=>(↑u5.length:Int),.c fun vv=>vv.1.1,.c fun vv=>vv.1.2,.c fun _=>u5]⟩
def jl1 (u7:ByteArray) (u5:List (List NC)) (u6:List Int) (u31:Int) (r:List Int):Sk (top r) (zb (jae (y43 u5 u31) big (((0:Int),[]))) (y192)) :=
 .loopQ (y314 u7 u5 u6 u31 r) [.c fun _=>u31,.c fun _=>(↑u5.length:Int),.c fun vv=>vv.1.1,.p fun vv=>ze vv.1.2=(0:Nat),.c fun _=>u5] (fun kk=>(((0:Int),[]),big)) (fun z0 =>
 .br
 (.ob (.ob (.brB
 (.ob (.next))
 (.next))))
 (.exit (.obT (.rc)))) (fun _=>⟨rfl,trivial⟩)
def jnn (u7:ByteArray) (u5:List (List NC)) (u6:List Int) (u31:Int) (r:List Int):Sk (top r) (y4 u5 u31) :=
 .obT (jl1 u7 u5 u6 u31 r)
def jl2 (u7:ByteArray) (u5:List (List NC)) (u6:List Int) (u31:Int) (r:List Int) (h:zb (y4 u5 u31) some=some r):jaG Tryz.f99 (sp0) (fun gs id st=>match id with
 |0=>some ⟨(Int × List Int) × Nat,fun z=>⟨[(1,.w (.c (.d (.i .i64 u31)))),(5,.w (.c (.o 3))),(12,.w (.c (.o 0))),(13,.w (.c (.d (.i .i64 ((↑u5.length:Int)))))),(14,.w (.c (.d (.i .i64 z.1.1))))],[(3,.row 3 (.ints .i64 z.1.2)),(0,.xext (XC.st zS u5))],4⟩,fun z=>(y314 u7 u5 u6 u31 r).inv z,fun z=>z.2⟩
 |_=>none) (jaC y218 [.d (.s u7),.x (.st zS u5),.r (.ints .i64 u6),.d (.i .i64 u31)]) [.c (.row 3 (.ints .i64 r))] :=
 Sk.vc (jnn u7 u5 u6 u31 r) (by kernel_rfl) h
def jl3:jaf Tryz.prog 99 true (jah y218 y219):=by
 refine jal (sp:=sp0) (fn:=Tryz.f99) (body:=bodyOf Tryz.f99) mixed jaj Tryz.func99 (by kernel_rfl) (by kernel_rfl) fun ls t h ho b hb=>?_;unfold y219 at h;split at h
 ·rename_i u7 u5 u6 u31;cases h;obtain rfl:=jap hb;exact⟨zh (by kernel_rfl),_,_,jl2 u7 u5 u6 u31 _ (jai ho)⟩
 ·cases h
def sp_99_ok {sp:jaa} (h:jab Tryz.prog sp):jab Tryz.prog (sp_99 sp):=jag jl3 h
attribute [irreducible] y4
def y240:List SV:=[.c (.p [.d,.x (.st zS []),.r (.ints .i64 [])]),.c (.d)]
def y20 (u5:List (List NC)) (i:Int):Option Int :=
 if 0<=i∧i<(↑u5.length:Int)then
  if zg i<ze u5 then
  zb (y4 u5 (nI u5 i.toNat (1:Nat))) fun r0 =>
  zb (y37 r0 i) fun r1 =>
  some r1
  else none
 else none
def y241:List Lf->Option GT
 |[.d (.s u7),.x (.st [.s,.i .i64,.ints .i64,.ints .i64,.ints .i64,.i .i64,.recs 5,.i .i64] u5),.r (.ints .i64 u6),.d (.i .i64 i)]=>some (.leaf (ok (y20 u5 i)) [.c (.d (.i .i64 ((val (y20 u5 i)))))])
 |_=>none
abbrev sp_145:jaa->jaa:=jan 145 true (jah y240 y241)
def joO (u7:ByteArray) (u5:List (List NC)) (u6:List Int) (i r:Int):Sk (top r) (y20 u5 i) :=
 .obT (.ob (.ob (.call (.call (.obT (.rc))))))
def jno (u7:ByteArray) (u5:List (List NC)) (u6:List Int) (i r:Int) (h:zb (y20 u5 i) some=some r):jaG Tryz.f145 ((sp_99 (sp_134 sp0))) (fun _ _ _=>none) (jaC y240 [.d (.s u7),.x (.st zS u5),.r (.ints .i64 u6),.d (.i .i64 i)]) [.c (.d (.i .i64 r))] :=
 Sk.vc (joO u7 u5 u6 i r) (by kernel_rfl) h
def jnp:jaf Tryz.prog 145 true (jah y240 y241):=by
 refine jal (sp:=(sp_99 (sp_134 sp0))) (fn:=Tryz.f145) (body:=bodyOf Tryz.f145) mixed (sp_99_ok (sp_134_ok jaj)) Tryz.func145 (by kernel_rfl) (by kernel_rfl) fun ls t h ho b hb=>?_;unfold y241 at h;split at h
 ·rename_i u7 u5 u6 i;cases h;obtain rfl:=jap hb;exact⟨zh (by kernel_rfl),_,_,jno u7 u5 u6 i _ (jai ho)⟩
 ·cases h
def sp_145_ok {sp:jaa} (h:jab Tryz.prog sp):jab Tryz.prog (sp_145 sp):=jag jnp h
attribute [irreducible] y20
def y242:List SV:=[.c (.p [.p [.d,.x (.st zS []),.r (.ints .i64 [])],.d,.x (.ff .f32 []),.x (.rr 4 []),.r (.frs .f32 32 []),.r (.ints .i64 []),.r (.frs .f32 32 []),.x (.rr 4 []),.r (.ints .i64 [])])]
def y80 (u10:List (List Nat)) (r0:List Int) (x0:(Int × List (List Nat))):Option ((Int × List (List Nat)) ⊕ (List (List Nat))) :=
 if x0.1<(↑r0.length:Int)then
  if 0<=x0.1∧x0.1<(↑r0.length:Int)then
  if zg x0.1<ze r0 then
   if 0<=za r0 x0.1.toNat (0:Int)∧za r0 x0.1.toNat 0<(↑u10.length:Int)then
   if zg (za r0 x0.1.toNat (0:Int))<ze u10 then
    if(ze x0.2+ze [za u10 (zg (za r0 x0.1.toNat (0:Int))) []])*128<=140737488355328∧ze x0.2+ze [za u10 (zg (za r0 x0.1.toNat (0:Int))) []]<=9223372036854775807 then
    some (.inl ((wrap .i64 (x0.1+1),x0.2++[za u10 (zg (za r0 x0.1.toNat (0:Int))) []])))
    else none
   else none
   else none
  else none
  else none
 else
  some (.inr x0.2)
def y220 (u4:List (List Nat)):Option (List (List Nat)) :=
 some u4
def y7 (u12:List (List NC)) (u10:List (List Nat)):Option (List (List Nat)) :=
 zb (y4 u12 (4:Int)) fun r0 =>
 zb (jae (y80 u10 r0) big (((0:Int),[]))) (y220)
def y243:List Lf->Option GT
 |[.d (.s u20),.x (.st [.s,.i .i64,.ints .i64,.ints .i64,.ints .i64,.i .i64,.recs 5,.i .i64] u12),.r (.ints .i64 u21),.d (.i .i64 u18),.x (.ff .f32 u11),.x (.rr 4 u15),.r (.frs .f32 32 u14),.r (.ints .i64 u16),.r (.frs .f32 32 u10),.x (.rr 4 u17),.r (.ints .i64 u13)]=>some (.leaf (ok (y7 u12 u10)) [.c (.row 110 (.frs .f32 32 ((val (y7 u12 u10)))))])
 |_=>none
abbrev sp_104:jaa->jaa:=jan 104 true (jah y242 y243)
abbrev y323 (u20:ByteArray) (u12:List (List NC)) (u21:List Int) (u18:Int) (u11:List (List Nat)) (u15:List (List (List Int))) (u14:List (List Nat)) (u16:List Int) (u10:List (List Nat)) (u17:List (List (List Int))) (u13:List Int) (r:List (List Nat)):Lp ((Int × List (List Nat)) × Nat) ((Int × List (List Nat))) ((List (List Nat))) ((List (List Nat))) (List (List Nat)) :=
 ⟨fun z=>z.1,fun z=>z.2,fun z x n=>(x,n),fun z=>y80 u10 (val (y4 u12 (4:Int))),fun z=>y220,fun z=>top r,fun z=>0,[.c fun _=>0,.c fun _=>(↑(ze (val (y4 u12 (4:Int)))):Int),.c fun vv=>vv.1.1,.c fun _=>0,.c fun _=>u18,.c fun vv=>vv.1.2,.c fun _=>val (y4 u12 (4:Int)),.c fun _=>u20,.c fun _=>u11,.c fun _=>u15,.c fun _=>u14,.c fun _=>u16,.c fun _=>u10,.c fun _=>u17,.c fun _=>u13,.c fun _=>u12,.c fun _=>u21]⟩
def jnq (u20:ByteArray) (u12:List (List NC)) (u21:List Int) (u18:Int) (u11:List (List Nat)) (u15:List (List (List Int))) (u14:List (List Nat)) (u16:List Int) (u10:List (List Nat)) (u17:List (List (List Int))) (u13:List Int) (r:List (List Nat)):Sk (top r) (zb (jae (y80 u10 (val (y4 u12 (4:Int)))) big (((0:Int),[]))) (y220)) :=
 .loopQ (y323 u20 u12 u21 u18 u11 u15 u14 u16 u10 u17 u13 r) [.c fun _=>0,.c fun _=>(↑(ze (val (y4 u12 (4:Int)))):Int),.c fun vv=>vv.1.1,.c fun _=>0,.c fun _=>u18,.p fun vv=>ze vv.1.2=(0:Nat),.c fun _=>val (y4 u12 (4:Int)),.c fun _=>u20,.c fun _=>u11,.c fun _=>u15,.c fun _=>u14,.c fun _=>u16,.c fun _=>u10,.c fun _=>u17,.c fun _=>u13,.c fun _=>u12,.c fun _=>u21] (fun kk=>(((0:Int),[]),big)) (fun z0 =>
 .br
 (.ob (.ob (.obT (.ob (.ob (.ob (.next)))))))
 (.exit (.obT (.rc)))) (fun _=>⟨rfl,trivial⟩)
def joP (u20:ByteArray) (u12:List (List NC)) (u21:List Int) (u18:Int) (u11:List (List Nat)) (u15:List (List (List Int))) (u14:List (List Nat)) (u16:List Int) (u10:List (List Nat)) (u17:List (List (List Int))) (u13:List Int) (r:List (List Nat)):Sk (top r) (y7 u12 u10) :=
 .obT (.call (jnq u20 u12 u21 u18 u11 u15 u14 u16 u10 u17 u13 r))
def jnr (u20:ByteArray) (u12:List (List NC)) (u21:List Int) (u18:Int) (u11:List (List Nat)) (u15:List (List (List Int))) (u14:List (List Nat)) (u16:List Int) (u10:List (List Nat)) (u17:List (List (List Int))) (u13:List Int) (r:List (List Nat)) (h:zb (y7 u12 u10) some=some r):jaG Tryz.f104 ((sp_99 sp0)) (fun gs id st=>match id with
 |0=>some ⟨(Int × List (List Nat)) × Nat,fun z=>⟨[(0,.w (.c (.p 10 0 1 0))),(3,.w (.c (.o 11))),(10,.w (.c (.o 12))),(11,.w (.c (.d (.i .i64 ((↑(ze (val (y4 u12 (4:Int)))):Int)))))),(12,.w (.c (.d (.i .i64 z.1.1))))],[(10,.ebox [.p 2 0 1 0,.d (.i .i64 u18),.o 3,.o 4,.o 5,.o 6,.o 7,.o 8,.o 9]),(11,.row 110 (.frs .f32 32 z.1.2)),(12,.row 3 (.ints .i64 (val (y4 u12 (4:Int))))),(2,.ebox [.d (.s u20),.o 0,.o 1]),(3,.xext (XC.ff .f32 u11)),(4,.xext (XC.rr (4:Nat) u15)),(5,.ext (.frs .f32 32 u14)),(6,.ext (.ints .i64 u16)),(7,.ext (.frs .f32 32 u10)),(8,.xext (XC.rr (4:Nat) u17)),(9,.ext (.ints .i64 u13)),(0,.xext (XC.st zS u12)),(1,.ext (.ints .i64 u21))],13⟩,fun z=>(y323 u20 u12 u21 u18 u11 u15 u14 u16 u10 u17 u13 r).inv z,fun z=>z.2⟩
 |_=>none) (jaC y242 [.d (.s u20),.x (.st zS u12),.r (.ints .i64 u21),.d (.i .i64 u18),.x (.ff .f32 u11),.x (.rr 4 u15),.r (.frs .f32 32 u14),.r (.ints .i64 u16),.r (.frs .f32 32 u10),.x (.rr 4 u17),.r (.ints .i64 u13)]) [.c (.row 110 (.frs .f32 32 r))] :=
 Sk.vc (joP u20 u12 u21 u18 u11 u15 u14 u16 u10 u17 u13 r) (by kernel_rfl) h
def jns:jaf Tryz.prog 104 true (jah y242 y243):=by
 refine jal (sp:=(sp_99 sp0)) (fn:=Tryz.f104) (body:=bodyOf Tryz.f104) mixed (sp_99_ok jaj) Tryz.func104 (by kernel_rfl) (by kernel_rfl) fun ls t h ho b hb=>?_;unfold y243 at h;split at h
 ·rename_i u20 u12 u21 u18 u11 u15 u14 u16 u10 u17 u13;cases h;obtain rfl:=jap hb;exact⟨zh (by kernel_rfl),_,_,jnr u20 u12 u21 u18 u11 u15 u14 u16 u10 u17 u13 _ (jai ho)⟩
 ·cases h
def sp_104_ok {sp:jaa} (h:jab Tryz.prog sp):jab Tryz.prog (sp_104 sp):=jag jns h
attribute [irreducible] y7
def y244:List SV:=[.c (.p [.p [.d,.x (.st zS []),.r (.ints .i64 [])],.d,.x (.ff .f32 []),.x (.rr 4 []),.r (.frs .f32 32 []),.r (.ints .i64 []),.r (.frs .f32 32 []),.x (.rr 4 []),.r (.ints .i64 [])])]
def y52 (u13:List Int) (x0:(Int × Int)):Option ((Int × Int) ⊕ Int) :=
 if x0.2<(↑u13.length:Int)then
  if 0<=x0.2∧x0.2<(↑u13.length:Int)then
  if zg x0.2<ze u13 then
   some (.inl ((wrap .i64 (x0.1+za u13 x0.2.toNat (0:Int)),wrap .i64 (x0.2+1))))
  else none
  else none
 else
  some (.inr x0.1)
def y221 (u4:Int):Option Int :=
 some u4
def y61 (u13:List Int):Option Int :=
 zb (jae (y52 u13) big (((0:Int),0))) (y221)
def y245:List Lf->Option GT
 |[.d (.s u20),.x (.st [.s,.i .i64,.ints .i64,.ints .i64,.ints .i64,.i .i64,.recs 5,.i .i64] u12),.r (.ints .i64 u21),.d (.i .i64 u18),.x (.ff .f32 u11),.x (.rr 4 u15),.r (.frs .f32 32 u14),.r (.ints .i64 u16),.r (.frs .f32 32 u10),.x (.rr 4 u17),.r (.ints .i64 u13)]=>some (.leaf (ok (y61 u13)) [.c (.d (.i .i64 ((val (y61 u13)))))])
 |_=>none
abbrev sp_105:jaa->jaa:=jan 105 true (jah y244 y245)
abbrev y324 (u20:ByteArray) (u12:List (List NC)) (u21:List Int) (u18:Int) (u11:List (List Nat)) (u15:List (List (List Int))) (u14:List (List Nat)) (u16:List Int) (u10:List (List Nat)) (u17:List (List (List Int))) (u13:List Int) (r:Int):Lp ((Int × Int) × Nat) (Int × Int) Int Int Int :=
 ⟨fun z=>z.1,fun z=>z.2,fun z x n=>(x,n),fun z=>y52 u13,fun z=>y221,fun z=>top r,fun z=>0,[.c fun vv=>vv.1.1,.c fun _=>(↑u13.length:Int),.c fun vv=>vv.1.2,.c fun _=>u13]⟩
def jnt (u20:ByteArray) (u12:List (List NC)) (u21:List Int) (u18:Int) (u11:List (List Nat)) (u15:List (List (List Int))) (u14:List (List Nat)) (u16:List Int) (u10:List (List Nat)) (u17:List (List (List Int))) (u13:List Int) (r:Int):Sk (top r) (zb (jae (y52 u13) big (((0:Int),0))) (y221)) :=
 .loop (y324 u20 u12 u21 u18 u11 u15 u14 u16 u10 u17 u13 r) (fun kk=>(((0:Int),0),big)) fun z0 =>
 .br
 (.ob (.ob (.next)))
 (.exit (.obT (.rc)))
def joQ (u20:ByteArray) (u12:List (List NC)) (u21:List Int) (u18:Int) (u11:List (List Nat)) (u15:List (List (List Int))) (u14:List (List Nat)) (u16:List Int) (u10:List (List Nat)) (u17:List (List (List Int))) (u13:List Int) (r:Int):Sk (top r) (y61 u13) :=
 .obT (jnt u20 u12 u21 u18 u11 u15 u14 u16 u10 u17 u13 r)
def jnu (u20:ByteArray) (u12:List (List NC)) (u21:List Int) (u18:Int) (u11:List (List Nat)) (u15:List (List (List Int))) (u14:List (List Nat)) (u16:List Int) (u10:List (List Nat)) (u17:List (List (List Int))) (u13:List Int) (r:Int) (h:zb (y61 u13) some=some r):jaG Tryz.f105 (sp0) (fun gs id st=>match id with
 |0=>some ⟨(Int × Int) × Nat,fun z=>⟨[(3,.w (.c (.d (.i .i64 z.1.1)))),(9,.w (.c (.o 9))),(10,.w (.c (.d (.i .i64 ((↑u13.length:Int)))))),(11,.w (.c (.d (.i .i64 z.1.2))))],[(9,.ext (.ints .i64 u13))],11⟩,fun z=>(y324 u20 u12 u21 u18 u11 u15 u14 u16 u10 u17 u13 r).inv z,fun z=>z.2⟩
 |_=>none) (jaC y244 [.d (.s u20),.x (.st zS u12),.r (.ints .i64 u21),.d (.i .i64 u18),.x (.ff .f32 u11),.x (.rr 4 u15),.r (.frs .f32 32 u14),.r (.ints .i64 u16),.r (.frs .f32 32 u10),.x (.rr 4 u17),.r (.ints .i64 u13)]) [.c (.d (.i .i64 r))] :=
 Sk.vc (joQ u20 u12 u21 u18 u11 u15 u14 u16 u10 u17 u13 r) (by kernel_rfl) h
def jnv:jaf Tryz.prog 105 true (jah y244 y245):=by
 refine jal (sp:=sp0) (fn:=Tryz.f105) (body:=bodyOf Tryz.f105) mixed jaj Tryz.func105 (by kernel_rfl) (by kernel_rfl) fun ls t h ho b hb=>?_;unfold y245 at h;split at h
 ·rename_i u20 u12 u21 u18 u11 u15 u14 u16 u10 u17 u13;cases h;obtain rfl:=jap hb;exact⟨zh (by kernel_rfl),_,_,jnu u20 u12 u21 u18 u11 u15 u14 u16 u10 u17 u13 _ (jai ho)⟩
 ·cases h
def sp_105_ok {sp:jaa} (h:jab Tryz.prog sp):jab Tryz.prog (sp_105 sp):=jag jnv h
attribute [irreducible] y61
def y281:List SV:=[.c (.p [.p [.d,.x (.st zS []),.r (.ints .i64 [])],.d,.x (.ff .f32 []),.x (.rr 4 []),.r (.frs .f32 32 []),.r (.ints .i64 []),.r (.frs .f32 32 []),.x (.rr 4 []),.r (.ints .i64 [])])]
def jt0 (u11 u10:List (List Nat)) (x0:Int × List (List Nat)) (x1:(Int × List Nat)):Option ((Int × List Nat) ⊕ (List Nat)) :=
 if x1.1<32 then
  zb (jkW u11 u10 x0.1 x1.1) fun r0 =>
  if(ze x1.2+ze [qv .f32 r0])*4<=140737488355328∧ze x1.2+ze [qv .f32 r0]<=9223372036854775807 then
  some (.inl ((wrap .i64 (x1.1+1),x1.2++[qv .f32 r0])))
  else none
 else
  some (.inr x1.2)
def y259 (x0:Int × List (List Nat)) (u26:List Nat):Option ((Int × List (List Nat)) ⊕ (List (List Nat))) :=
 if(ze x0.2+ze (xj (fun r=>NC.toFlts (qg r (NC.d (D.v z3)))) [[NC.r (Cont.floats .f32 u26)]]))*24<=140737488355328∧ze x0.2+ze (xj (fun r=>NC.toFlts (qg r (NC.d (D.v z3)))) [[NC.r (Cont.floats .f32 u26)]])<=9223372036854775807 then
  some (.inl ((wrap .i64 (x0.1+1),x0.2++xj (fun r=>NC.toFlts (qg r (NC.d (D.v z3)))) [[NC.r (Cont.floats .f32 u26)]])))
 else none
def y73 (u12:List (List NC)) (u11 u10:List (List Nat)) (x0:(Int × List (List Nat))):Option ((Int × List (List Nat)) ⊕ (List (List Nat))) :=
 if x0.1<(↑u12.length:Int)then
  zb (jae (jt0 u11 u10 x0) big (((-96:Int),[]))) (y259 x0)
 else
  some (.inr x0.2)
def y260 (u18:Int) (u4:List (List Nat)):Option (Int × List (List Nat)) :=
 some ((wrap .i64 (u18+1),u4))
def y71 (u12:List (List NC)) (u18:Int) (u11 u10:List (List Nat)):Option (Int × List (List Nat)) :=
 zb (jae (y73 u12 u11 u10) big (((0:Int),[]))) (y260 u18)
def y282:List Lf->Option GT
 |[.d (.s u20),.x (.st [.s,.i .i64,.ints .i64,.ints .i64,.ints .i64,.i .i64,.recs 5,.i .i64] u12),.r (.ints .i64 u21),.d (.i .i64 u18),.x (.ff .f32 u11),.x (.rr 4 u15),.r (.frs .f32 32 u14),.r (.ints .i64 u16),.r (.frs .f32 32 u10),.x (.rr 4 u17),.r (.ints .i64 u13)]=>some (.leaf (ok (y71 u12 u18 u11 u10)) [.s [.d (.i .i64 ((val (y71 u12 u18 u11 u10)).1)),.x 157 (.ff .f32 ((val (y71 u12 u18 u11 u10)).2)),.g 8]])
 |_=>none
abbrev sp_106:jaa->jaa:=jan 106 true (jah y281 y282)
abbrev y261 (u20:ByteArray) (u12:List (List NC)) (u21:List Int) (u18:Int) (u11:List (List Nat)) (u15:List (List (List Int))) (u14:List (List Nat)) (u16:List Int) (u10:List (List Nat)) (u17:List (List (List Int))) (u13:List Int) (r:Int × List (List Nat)):Lp ((Int × List (List Nat)) × Nat) ((Int × List (List Nat))) ((List (List Nat))) ((Int × List (List Nat))) (Int × List (List Nat)) :=
 ⟨fun z=>z.1,fun z=>z.2,fun z x n=>(x,n),fun z=>y73 u12 u11 u10,fun z=>y260 u18,fun z=>top r,fun z=>0,[.c fun _=>0,.c fun _=>0,.c fun _=>0,.c fun _=>(↑u12.length:Int),.c fun vv=>vv.1.1,.c fun _=>0,.c fun _=>u18,.c fun _=>(0:Int),.c fun _=>qd none (0:Nat) (0:Nat),.c fun _=>qd none (0:Nat) (0:Nat),.c fun _=>wrap .i64 (u18+1),.c fun _=>u20,.c fun _=>u11,.c fun _=>u15,.c fun _=>u14,.c fun _=>u16,.c fun _=>u10,.c fun _=>u17,.c fun _=>u13,.c fun vv=>vv.1.2,.c fun _=>u12,.c fun _=>u21]⟩
abbrev jhq (u20:ByteArray) (u12:List (List NC)) (u21:List Int) (u18:Int) (u11:List (List Nat)) (u15:List (List (List Int))) (u14:List (List Nat)) (u16:List Int) (u10:List (List Nat)) (u17:List (List (List Int))) (u13:List Int) (r:Int × List (List Nat)) (m1:Nat):Lp ((Int × List (List Nat)) × Nat × (Int × List Nat) × Nat) (Int × List Nat) (List Nat) (((Int × List (List Nat)) ⊕ (List (List Nat)))) (Int × List (List Nat)) :=
 ⟨fun z=>z.2.2.1,fun z=>z.2.2.2,fun z x n=>(z.1,z.2.1,x,n),fun z=>jt0 u11 u10 z.1,fun z=>y259 z.1,fun z=>(y261 u20 u12 u21 u18 u11 u15 u14 u16 u10 u17 u13 r).cx (z.1,m1),fun z=>z.2.1,[.c fun _=>0,.c fun _=>0,.c fun _=>0,.c fun vv=>vv.1.1,.c fun vv=>vv.2.2.1.1,.c fun _=>(↑u12.length:Int),.c fun vv=>vv.1.1,.c fun _=>0,.c fun _=>u18,.c fun _=>(0:Int),.c fun _=>qd none (0:Nat) (0:Nat),.c fun _=>qd none (0:Nat) (0:Nat),.c fun _=>wrap .i64 (u18+1),.c fun vv=>vv.2.2.1.2,.c fun _=>u20,.c fun _=>u11,.c fun _=>u15,.c fun _=>u14,.c fun _=>u16,.c fun _=>u10,.c fun _=>u17,.c fun _=>u13,.c fun vv=>vv.1.2,.c fun _=>u12,.c fun _=>u21]⟩
def jqE (u20:ByteArray) (u12:List (List NC)) (u21:List Int) (u18:Int) (u11:List (List Nat)) (u15:List (List (List Int))) (u14:List (List Nat)) (u16:List Int) (u10:List (List Nat)) (u17:List (List (List Int))) (u13:List Int) (r:Int × List (List Nat)):Sk (top r) (zb (jae (y73 u12 u11 u10) big (((0:Int),[]))) (y260 u18)) :=
 .loopQ (y261 u20 u12 u21 u18 u11 u15 u14 u16 u10 u17 u13 r) [.c fun _=>0,.c fun _=>0,.c fun _=>0,.c fun _=>(↑u12.length:Int),.c fun vv=>vv.1.1,.c fun _=>0,.c fun _=>u18,.c fun _=>(0:Int),.c fun _=>qd none (0:Nat) (0:Nat),.c fun _=>qd none (0:Nat) (0:Nat),.c fun _=>wrap .i64 (u18+1),.c fun _=>u20,.c fun _=>u11,.c fun _=>u15,.c fun _=>u14,.c fun _=>u16,.c fun _=>u10,.c fun _=>u17,.c fun _=>u13,.p fun vv=>ze vv.1.2=(0:Nat),.c fun _=>u12,.c fun _=>u21] (fun kk=>(((0:Int),[]),big)) (fun z0 =>
 .br
 (.loopQ (jhq u20 u12 u21 u18 u11 u15 u14 u16 u10 u17 u13 r z0.2) [.c fun _=>0,.c fun _=>0,.c fun _=>0,.c fun vv=>vv.1.1,.c fun vv=>vv.2.2.1.1,.c fun _=>(↑u12.length:Int),.c fun vv=>vv.1.1,.c fun _=>0,.c fun _=>u18,.c fun _=>(0:Int),.c fun _=>qd none (0:Nat) (0:Nat),.c fun _=>qd none (0:Nat) (0:Nat),.c fun _=>wrap .i64 (u18+1),.p fun vv=>ze vv.2.2.1.2=(0:Nat),.c fun _=>u20,.c fun _=>u11,.c fun _=>u15,.c fun _=>u14,.c fun _=>u16,.c fun _=>u10,.c fun _=>u17,.c fun _=>u13,.c fun vv=>vv.1.2,.c fun _=>u12,.c fun _=>u21] (fun kk=>(z0.1,kk,((-96:Int),[]),big)) (fun z1 =>
 .br
 (.call (.obT (.ob (.next))))
 (.exit (.ob (.next)))) (fun _=>⟨rfl,trivial⟩))
 (.exit (.obT (.rc)))) (fun _=>⟨rfl,trivial⟩)
def jso (u20:ByteArray) (u12:List (List NC)) (u21:List Int) (u18:Int) (u11:List (List Nat)) (u15:List (List (List Int))) (u14:List (List Nat)) (u16:List Int) (u10:List (List Nat)) (u17:List (List (List Int))) (u13:List Int) (r:Int × List (List Nat)):Sk (top r) (y71 u12 u18 u11 u10) :=
 .obT (.obT (.obT (.obT (jqE u20 u12 u21 u18 u11 u15 u14 u16 u10 u17 u13 r))))
def jqF (u20:ByteArray) (u12:List (List NC)) (u21:List Int) (u18:Int) (u11:List (List Nat)) (u15:List (List (List Int))) (u14:List (List Nat)) (u16:List Int) (u10:List (List Nat)) (u17:List (List (List Int))) (u13:List Int) (r:Int × List (List Nat)) (h:zb (y71 u12 u18 u11 u10) some=some r):jaG Tryz.f106 ((sp_149 sp0)) (fun gs id st=>match id with
 |0=>some ⟨(Int × List (List Nat)) × Nat,fun z=>⟨[(0,.w (.c (.p 10 0 1 0))),(2,.w (.c (.p 11 0 1 0))),(3,.w (.c (.p 12 0 1 0))),(26,.w (.c (.d (.i .i64 ((↑u12.length:Int)))))),(27,.w (.c (.d (.i .i64 z.1.1))))],[(10,.ebox [.p 2 0 1 0,.d (.i .i64 u18),.o 3,.o 4,.o 5,.o 6,.o 7,.o 8,.o 9]),(11,.box 78 [.d (.i .i64 0),.d (.v (qd none (0:Nat) (0:Nat))),.d (.v (qd none (0:Nat) (0:Nat)))]),(12,.box 78 [.d (.i .i64 (wrap .i64 (u18+1))),.o 13,.o 8]),(2,.ebox [.d (.s u20),.o 0,.o 1]),(3,.xext (XC.ff .f32 u11)),(4,.xext (XC.rr (4:Nat) u15)),(5,.ext (.frs .f32 32 u14)),(6,.ext (.ints .i64 u16)),(7,.ext (.frs .f32 32 u10)),(8,.xext (XC.rr (4:Nat) u17)),(9,.ext (.ints .i64 u13)),(13,.xrow 157 (XC.ff .f32 z.1.2)),(0,.xext (XC.st zS u12)),(1,.ext (.ints .i64 u21))],14⟩,fun z=>(y261 u20 u12 u21 u18 u11 u15 u14 u16 u10 u17 u13 r).inv z,fun z=>z.2⟩
 |2=>some ⟨(Int × List (List Nat)) × Nat × (Int × List Nat) × Nat,fun z=>⟨[(0,.w (.c (.p 10 0 1 0))),(2,.w (.c (.p 11 0 1 0))),(3,.w (.c (.p 12 0 1 0))),(4,.w (.c (.d (.i .i64 (z.1.1))))),(5,.w (.c (.o 13))),(6,.w (.c (.d (.i .i64 z.2.2.1.1)))),(26,.w (.c (.d (.i .i64 ((↑u12.length:Int)))))),(27,.w (.c (.d (.i .i64 (z.1.1)))))],[(10,.ebox [.p 2 0 1 0,.d (.i .i64 u18),.o 3,.o 4,.o 5,.o 6,.o 7,.o 8,.o 9]),(11,.box 78 [.d (.i .i64 0),.d (.v (qd none (0:Nat) (0:Nat))),.d (.v (qd none (0:Nat) (0:Nat)))]),(12,.box 78 [.d (.i .i64 (wrap .i64 (u18+1))),.o 14,.o 8]),(13,.row 108 (.floats .f32 z.2.2.1.2)),(2,.ebox [.d (.s u20),.o 0,.o 1]),(3,.xext (XC.ff .f32 u11)),(4,.xext (XC.rr (4:Nat) u15)),(5,.ext (.frs .f32 32 u14)),(6,.ext (.ints .i64 u16)),(7,.ext (.frs .f32 32 u10)),(8,.xext (XC.rr (4:Nat) u17)),(9,.ext (.ints .i64 u13)),(14,.xrow 157 (XC.ff .f32 z.1.2)),(0,.xext (XC.st zS u12)),(1,.ext (.ints .i64 u21))],15⟩,fun z=>(jhq u20 u12 u21 u18 u11 u15 u14 u16 u10 u17 u13 r (gs.getD 0 0)).inv z,fun z=>z.2.2.2⟩
 |_=>none) (jaC y281 [.d (.s u20),.x (.st zS u12),.r (.ints .i64 u21),.d (.i .i64 u18),.x (.ff .f32 u11),.x (.rr 4 u15),.r (.frs .f32 32 u14),.r (.ints .i64 u16),.r (.frs .f32 32 u10),.x (.rr 4 u17),.r (.ints .i64 u13)]) [.s [.d (.i .i64 r.1),.x 157 (.ff .f32 r.2),.g 8]] :=
 Sk.vc (jso u20 u12 u21 u18 u11 u15 u14 u16 u10 u17 u13 r) (by kernel_rfl) h
def jqG:jaf Tryz.prog 106 true (jah y281 y282):=by
 refine jal (sp:=(sp_149 sp0)) (fn:=Tryz.f106) (body:=bodyOf Tryz.f106) mixed (sp_149_ok jaj) Tryz.func106 (by kernel_rfl) (by kernel_rfl) fun ls t h ho b hb=>?_;unfold y282 at h;split at h
 ·rename_i u20 u12 u21 u18 u11 u15 u14 u16 u10 u17 u13;cases h;obtain rfl:=jap hb;exact⟨zh (by kernel_rfl),_,_,jqF u20 u12 u21 u18 u11 u15 u14 u16 u10 u17 u13 _ (jai ho)⟩
 ·cases h
def sp_106_ok {sp:jaa} (h:jab Tryz.prog sp):jab Tryz.prog (sp_106 sp):=jag jqG h
attribute [irreducible] y71
def jlD:List (Option Cont):=[none]
def jt1 (x_:Nat):Option Int :=
 if(qn (FloatKind.format .f32) x_ x_ != some Ordering.eq)=true then
  some (27:Int)
 else
  if(gC (j7.sub (FloatKind.format .f32) x_ x_))=true then
  if(qn (FloatKind.format .f32) (zM (j7.sub (FloatKind.format .f32) x_ x_) (0:Nat)) (0:Nat)!=some Ordering.eq)=true then
   some (27:Int)
  else
   if(qn (FloatKind.format .f32) x_ (1266679808:Nat)==some Ordering.gt||qn (FloatKind.format .f32) x_ (1266679808:Nat)==some Ordering.eq)=true then
   some (2:Int)
   else
   if(qn (FloatKind.format .f32) x_ (3414163456:Nat)==some Ordering.lt||qn (FloatKind.format .f32) x_ (3414163456:Nat)==some Ordering.eq)=true then
    some (2:Int)
   else
    if jbU .f32 .i64 x_=true then
    if(qn (FloatKind.format .f32) (qv .f32 (f2i .f32 x_)) x_ != some Ordering.eq)=true then
     some (27:Int)
    else
     if jbU .f32 .i64 x_=true then
     zb (jea (f2i .f32 x_) (32767:Int)) fun r0 =>
     zb (jhc r0 (2:Int)) fun r1 =>
     some r1
     else none
    else none
  else
  some (27:Int)
def jfX:List A->Option (Prop × List RV)
 |[.d (.f .f32 x_)]=>some (ok (jt1 x_),[.d (.i .i64 ((val (jt1 x_))))])
 |_=>none
abbrev sp_164:jaa->jaa:=jan 164 true (jar jlD jfX)
def jwi (x_:Nat) (r:Int):Sk (top r) (jt1 x_) :=
 .brB
 (.obT (.rc))
 (.brB
 (.obT (.brB
 (.obT (.rc))
 (.brB
 (.obT (.rc))
 (.brB
 (.obT (.rc))
 (.ob (.obT (.brB
 (.obT (.rc))
 (.ob (.call (.call (.obT (.rc))))))))))))
 (.obT (.obT (.rc))))
def jt2 (x_:Nat) (r:Int) (h:zb (jt1 x_) some=some r):ja1 Tryz.f164 ((sp_160 (sp_77 sp0))) (fun _ _ _=>none) [.d (.f .f32 x_)] [.d (.i .i64 r)] :=
 Sk.vc (jwi x_ r) (by kernel_rfl) h
def jt3:jaf Tryz.prog 164 true (jar jlD jfX):=by
 refine jaA (sp:=(sp_160 (sp_77 sp0))) (fn:=Tryz.f164) (body:=bodyOf Tryz.f164) mixed (sp_160_ok (sp_77_ok jaj)) Tryz.func164 (by kernel_rfl) (by kernel_rfl) fun as_ ob rs h ho=>?_;unfold jfX at h;split at h
 ·rename_i x_;cases h;exact⟨zh rfl,_,_,jt2 x_ _ (jai ho)⟩
 ·cases h
def sp_164_ok {sp:jaa} (h:jab Tryz.prog sp):jab Tryz.prog (sp_164 sp):=jag jt3 h
attribute [irreducible] jt1
def jj0:List (Option Cont):=[some (.floats .f32 [])]
def jii (l:List Nat) (x0:Int):Option (Int ⊕ (Int ⊕ Unit)) :=
 if x0<(↑l.length:Int)then
  if 0<=x0∧x0<(↑l.length:Int)then
  if zg x0<ze l then
   zb (jt1 (za l x0.toNat (0:Nat))) fun r0 =>
   if(r0 != 0)=true then
   some (.inr (.inl r0))
   else
   some (.inl (wrap .i64 (x0+1)))
  else none
  else none
 else
  some (.inr ((.inr ())))
def joR (u4:Int):Option Int :=
 some u4
def joS (u9:Unit):Option Int :=
 some (0:Int)
def jij:(Int ⊕ Unit)->Option Int :=
 (qC (joR) (joS))
def jnw (l:List Nat):Option Int :=
 zb (jae (jii l) big (0:Int)) (jij)
def jeR:List A->Option (Prop × List RV)
 |[.r (.floats .f32 l)]=>some (ok (jnw l),[.d (.i .i64 ((val (jnw l))))])
 |_=>none
abbrev sp_142:jaa->jaa:=jan 142 true (jar jj0 jeR)
abbrev jik (l:List Nat) (r:Int):Lp (Int × Nat) Int (Int ⊕ Unit) Int Int :=
 ⟨fun z=>z.1,fun z=>z.2,fun z x n=>(x,n),fun z=>jii l,fun z=>jij,fun z=>top r,fun z=>0,[.c fun _=>(↑l.length:Int),.c fun vv=>vv.1,.c fun _=>l]⟩
def jt4 (l:List Nat) (r:Int):Sk (top r) (jnw l) :=
 .loop (jik l r) (fun kk=>((0:Int),big)) fun z0 =>
 .br
 (.ob (.ob (.call (.brB
 (.exit (.obT (.rc)))
 (.next)))))
 (.exit (.obT (.rc)))
def jsp (l:List Nat) (r:Int) (h:zb (jnw l) some=some r):ja1 Tryz.f142 ((sp_164 sp0)) (fun gs id st=>match id with
 |0=>some ⟨Int × Nat,fun z=>⟨[(6,.w (.c (.o 0))),(7,.w (.c (.d (.i .i64 ((↑l.length:Int)))))),(8,.w (.c (.d (.i .i64 z.1))))],[(0,.ext (.floats .f32 l))],1⟩,fun z=>(jik l r).inv z,fun z=>z.2⟩
 |_=>none) [.r (.floats .f32 l)] [.d (.i .i64 r)] :=
 Sk.vc (jt4 l r) (by kernel_rfl) h
def jsq:jaf Tryz.prog 142 true (jar jj0 jeR):=by
 refine jaA (sp:=(sp_164 sp0)) (fn:=Tryz.f142) (body:=bodyOf Tryz.f142) mixed (sp_164_ok jaj) Tryz.func142 (by kernel_rfl) (by kernel_rfl) fun as_ ob rs h ho=>?_;unfold jeR at h;split at h
 ·rename_i l;cases h;exact⟨zh rfl,_,_,jsp l _ (jai ho)⟩
 ·cases h
def sp_142_ok {sp:jaa} (h:jab Tryz.prog sp):jab Tryz.prog (sp_142 sp):=jag jsq h
attribute [irreducible] jnw
def jfY:List SV:=[.c (.r (.frs .f32 32 []))]
def jt5 (l:List (List Nat)) (x0:Int):Option (Int ⊕ (Int ⊕ Unit)) :=
 if x0<(↑l.length:Int)then
  if 0<=x0∧x0<(↑l.length:Int)then
  if zg x0<ze l then
   if ze (za l x0.toNat [])=(32:Nat)∧0<=zM none (0:Int)∧zM none 0<=zM none (↑(32:Nat):Int)∧zM none (↑(32:Nat):Int)<=(↑(32:Nat):Int)then
   zb (jnw (yH (32:Nat) (yI (0:Nat) (za l x0.toNat [])))) fun r0 =>
   if(r0 != 0)=true then
    some (.inr (.inl r0))
   else
    some (.inl (wrap .i64 (x0+1)))
   else none
  else none
  else none
 else
  some (.inr ((.inr ())))
def jqH (u4:Int):Option Int :=
 some u4
def jqI (u9:Unit):Option Int :=
 some (0:Int)
def jj1:(Int ⊕ Unit)->Option Int :=
 (qC (jqH) (jqI))
def jnx (l:List (List Nat)):Option Int :=
 zb (jae (jt5 l) big (0:Int)) (jj1)
def jfZ:List Lf->Option GT
 |[.r (.frs .f32 32 l)]=>some (.leaf (ok (jnx l)) [.c (.d (.i .i64 ((val (jnx l)))))])
 |_=>none
abbrev sp_100:jaa->jaa:=jan 100 true (jah jfY jfZ)
abbrev jj2 (l:List (List Nat)) (r:Int):Lp (Int × Nat) Int (Int ⊕ Unit) Int Int :=
 ⟨fun z=>z.1,fun z=>z.2,fun z x n=>(x,n),fun z=>jt5 l,fun z=>jj1,fun z=>top r,fun z=>0,[.c fun _=>(↑l.length:Int),.c fun vv=>vv.1,.c fun _=>l]⟩
def jwj (l:List (List Nat)) (r:Int):Sk (top r) (jnx l) :=
 .loop (jj2 l r) (fun kk=>((0:Int),big)) fun z0 =>
 .br
 (.ob (.ob (.obT (.ob (.call (.brB
 (.exit (.obT (.rc)))
 (.next)))))))
 (.exit (.obT (.rc)))
def jt6 (l:List (List Nat)) (r:Int) (h:zb (jnx l) some=some r):jaG Tryz.f100 ((sp_142 sp0)) (fun gs id st=>match id with
 |0=>some ⟨Int × Nat,fun z=>⟨[(6,.w (.c (.o 0))),(7,.w (.c (.d (.i .i64 ((↑l.length:Int)))))),(8,.w (.c (.d (.i .i64 z.1))))],[(0,.ext (.frs .f32 32 l))],1⟩,fun z=>(jj2 l r).inv z,fun z=>z.2⟩
 |_=>none) (jaC jfY [.r (.frs .f32 32 l)]) [.c (.d (.i .i64 r))] :=
 Sk.vc (jwj l r) (by kernel_rfl) h
def jt7:jaf Tryz.prog 100 true (jah jfY jfZ):=by
 refine jal (sp:=(sp_142 sp0)) (fn:=Tryz.f100) (body:=bodyOf Tryz.f100) mixed (sp_142_ok jaj) Tryz.func100 (by kernel_rfl) (by kernel_rfl) fun ls t h ho b hb=>?_;unfold jfZ at h;split at h
 ·rename_i l;cases h;obtain rfl:=jap hb;exact⟨zh (by kernel_rfl),_,_,jt6 l _ (jai ho)⟩
 ·cases h
def sp_100_ok {sp:jaa} (h:jab Tryz.prog sp):jab Tryz.prog (sp_100 sp):=jag jt7 h
attribute [irreducible] jnx
def y222:List SV:=[.c (.p [.d,.x (.st zS []),.r (.ints .i64 [])]),.a [.d,.x (.ff .f32 []),.x (.rr 4 [])],.c (.r (.frs .f32 32 [])),.c (.r (.bools []))]
def y15 (u7:ByteArray) (u5:List (List NC)) (u6:List Int) (u82:Int) (u30:List Bool):Option (Int × List Int × List (List Nat) × List (List (List Int)) × List Int) :=
 zb (y17 u7 u5 u6 u30) fun r0 =>
 if 0<=(↑u5.length:Int)∧(↑u5.length:Int)=(↑u5.length:Int)∧(↑(128:Nat):Int)*(↑u5.length:Int)<=281474976710656∧(↑u5.length:Int)<=9223372036854775807 then
  if 0<=(↑u5.length:Int)∧(↑u5.length:Int)=(↑u5.length:Int)∧(↑(24:Nat):Int)*(↑u5.length:Int)<=281474976710656∧(↑u5.length:Int)<=9223372036854775807 then
  if 0<=(↑u5.length:Int)∧(↑u5.length:Int)=(↑u5.length:Int)∧(↑(8:Nat):Int)*(↑u5.length:Int)<=281474976710656∧(↑u5.length:Int)<=9223372036854775807 then
   some ((u82,r0,zf (zg (↑u5.length:Int)) zO,zf (zg (↑u5.length:Int)) (NC.toRecs (qg [NC.r (Cont.recs (4:Nat) [])] (NC.d (D.v z3)))),zf (zg (↑u5.length:Int)) (0:Int)))
  else none
  else none
 else none
def y223:List Lf->Option GT
 |[.d (.s u7),.x (.st [.s,.i .i64,.ints .i64,.ints .i64,.ints .i64,.i .i64,.recs 5,.i .i64] u5),.r (.ints .i64 u6),.d (.i .i64 u82),.x (.ff .f32 u87),.x (.rr 4 u88),.r (.frs .f32 32 in_),.r (.bools u30)]=>some (.leaf (ok (y15 u7 u5 u6 u82 u30)) [.c (.box 205 [.g 2,.d (.i .i64 ((val (y15 u7 u5 u6 u82 u30)).1)),.g 3,.g 4,.g 5,.row 3 (.ints .i64 ((val (y15 u7 u5 u6 u82 u30)).2.1)),.row 110 (.frs .f32 32 ((val (y15 u7 u5 u6 u82 u30)).2.2.1)),.x 158 (.rr 4 ((val (y15 u7 u5 u6 u82 u30)).2.2.2.1)),.row 3 (.ints .i64 ((val (y15 u7 u5 u6 u82 u30)).2.2.2.2))])])
 |_=>none
abbrev sp_102:jaa->jaa:=jan 102 true (jah y222 y223)
def jny (u7:ByteArray) (u5:List (List NC)) (u6:List Int) (u82:Int) (u87:List (List Nat)) (u88:List (List (List Int))) (in_:List (List Nat)) (u30:List Bool) (r:Int × List Int × List (List Nat) × List (List (List Int)) × List Int):Sk (top r) (y15 u7 u5 u6 u82 u30) :=
 .obT (.call (.ob (.ob (.ob (.obT (.rc))))))
def jl4 (u7:ByteArray) (u5:List (List NC)) (u6:List Int) (u82:Int) (u87:List (List Nat)) (u88:List (List (List Int))) (in_:List (List Nat)) (u30:List Bool) (r:Int × List Int × List (List Nat) × List (List (List Int)) × List Int) (h:zb (y15 u7 u5 u6 u82 u30) some=some r):jaG Tryz.f102 ((sp_93 sp0)) (fun _ _ _=>none) (jaC y222 [.d (.s u7),.x (.st zS u5),.r (.ints .i64 u6),.d (.i .i64 u82),.x (.ff .f32 u87),.x (.rr 4 u88),.r (.frs .f32 32 in_),.r (.bools u30)]) [.c (.box 205 [.g 2,.d (.i .i64 r.1),.g 3,.g 4,.g 5,.row 3 (.ints .i64 r.2.1),.row 110 (.frs .f32 32 r.2.2.1),.x 158 (.rr 4 r.2.2.2.1),.row 3 (.ints .i64 r.2.2.2.2)])] :=
 Sk.vc (jny u7 u5 u6 u82 u87 u88 in_ u30 r) (by kernel_rfl) h
def jl5:jaf Tryz.prog 102 true (jah y222 y223):=by
 refine jal (sp:=(sp_93 sp0)) (fn:=Tryz.f102) (body:=bodyOf Tryz.f102) mixed (sp_93_ok jaj) Tryz.func102 (by kernel_rfl) (by kernel_rfl) fun ls t h ho b hb=>?_;unfold y223 at h;split at h
 ·rename_i u7 u5 u6 u82 u87 u88 in_ u30;cases h;obtain rfl:=jap hb;exact⟨zh (by kernel_rfl),_,_,jl4 u7 u5 u6 u82 u87 u88 in_ u30 _ (jai ho)⟩
 ·cases h
def sp_102_ok {sp:jaa} (h:jab Tryz.prog sp):jab Tryz.prog (sp_102 sp):=jag jl5 h
attribute [irreducible] y15
end Go.Sh
end

section
namespace Go.Sh
open Go Go.Proofs Go.RowKit Go.Sx
open Go.IntKind (wrap)
def jvs:List (Option Cont):=[none,none]
def jeS (n by_:Int):Option Int :=
 if by_≠(0:Int)then
  if by_≠(0:Int)then
  if Int.tmod n by_<0 then
   some (wrap .i64 (wrap .i64 (Int.tdiv n by_)-1))
  else
   some (wrap .i64 (Int.tdiv n by_))
  else none
 else none
def jnz:List A->Option (Prop × List RV)
 |[.d (.i .i64 n),.d (.i .i64 by_)]=>some (ok (jeS n by_),[.d (.i .i64 ((val (jeS n by_))))])
 |_=>none
abbrev sp_184:jaa->jaa:=jan 184 true (jar jvs jnz)
def jDW (n by_ r:Int):Sk (top r) (jeS n by_) :=
 .ob (.ob (.br
 (.obT (.rc))
 (.obT (.rc))))
def jCp (n by_ r:Int) (h:zb (jeS n by_) some=some r):ja1 Tryz.f184 (sp0) (fun _ _ _=>none) [.d (.i .i64 n),.d (.i .i64 by_)] [.d (.i .i64 r)] :=
 Sk.vc (jDW n by_ r) (by kernel_rfl) h
def jCq:jaf Tryz.prog 184 true (jar jvs jnz):=by
 refine jaA (sp:=sp0) (fn:=Tryz.f184) (body:=bodyOf Tryz.f184) mixed jaj Tryz.func184 (by kernel_rfl) (by kernel_rfl) fun as_ ob rs h ho=>?_;unfold jnz at h;split at h
 ·rename_i n by_;cases h;exact⟨zh rfl,_,_,jCp n by_ _ (jai ho)⟩
 ·cases h
def sp_184_ok {sp:jaa} (h:jab Tryz.prog sp):jab Tryz.prog (sp_184 sp):=jag jCq h
attribute [irreducible] jeS
def jpM:List (Option Cont):=[none,none]
def y94 (n by_:Int):Option Int :=
 zb (jeS (wrap .i64 (wrap .i64 (2*n)+by_)) (wrap .i64 (2*by_))) fun r0 =>
 some r0
def jjh:List A->Option (Prop × List RV)
 |[.d (.i .i64 n),.d (.i .i64 by_)]=>some (ok (y94 n by_),[.d (.i .i64 ((val (y94 n by_))))])
 |_=>none
abbrev sp_181:jaa->jaa:=jan 181 true (jar jpM jjh)
def jAa (n by_ r:Int):Sk (top r) (y94 n by_) :=
 .call (.obT (.rc))
def jyl (n by_ r:Int) (h:zb (y94 n by_) some=some r):ja1 Tryz.f181 ((sp_184 sp0)) (fun _ _ _=>none) [.d (.i .i64 n),.d (.i .i64 by_)] [.d (.i .i64 r)] :=
 Sk.vc (jAa n by_ r) (by kernel_rfl) h
def jym:jaf Tryz.prog 181 true (jar jpM jjh):=by
 refine jaA (sp:=(sp_184 sp0)) (fn:=Tryz.f181) (body:=bodyOf Tryz.f181) mixed (sp_184_ok jaj) Tryz.func181 (by kernel_rfl) (by kernel_rfl) fun as_ ob rs h ho=>?_;unfold jjh at h;split at h
 ·rename_i n by_;cases h;exact⟨zh rfl,_,_,jyl n by_ _ (jai ho)⟩
 ·cases h
def sp_181_ok {sp:jaa} (h:jab Tryz.prog sp):jab Tryz.prog (sp_181 sp):=jag jym h
attribute [irreducible] y94
def jlE:List (Option Cont):=[none]
def jnA (x_:Nat):Option Int :=
 if(qn (FloatKind.format .f32) x_ x_ != some Ordering.eq)=true then
  some (27:Int)
 else
  if(gC (j7.sub (FloatKind.format .f32) x_ x_))=true then
  if(qn (FloatKind.format .f32) (zM (j7.sub (FloatKind.format .f32) x_ x_) (0:Nat)) (0:Nat)!=some Ordering.eq)=true then
   some (27:Int)
  else
   if(qn (FloatKind.format .f32) x_ (1266679808:Nat)==some Ordering.gt||qn (FloatKind.format .f32) x_ (1266679808:Nat)==some Ordering.eq)=true then
   some (2:Int)
   else
   if(qn (FloatKind.format .f32) x_ (3414163456:Nat)==some Ordering.lt||qn (FloatKind.format .f32) x_ (3414163456:Nat)==some Ordering.eq)=true then
    some (2:Int)
   else
    if jbU .f32 .i64 x_=true then
    if(qn (FloatKind.format .f32) (qv .f32 (f2i .f32 x_)) x_ != some Ordering.eq)=true then
     some (27:Int)
    else
     if jbU .f32 .i64 x_=true then
     zb (jcL (f2i .f32 x_) (32767:Int)) fun r0 =>
     zb (jc1 r0 (2:Int)) fun r1 =>
     some r1
     else none
    else none
  else
  some (27:Int)
def jf0:List A->Option (Prop × List RV)
 |[.d (.f .f32 x_)]=>some (ok (jnA x_),[.d (.i .i64 ((val (jnA x_))))])
 |_=>none
abbrev sp_175:jaa->jaa:=jan 175 true (jar jlE jf0)
def jwk (x_:Nat) (r:Int):Sk (top r) (jnA x_) :=
 .brB
 (.obT (.rc))
 (.brB
 (.obT (.brB
 (.obT (.rc))
 (.brB
 (.obT (.rc))
 (.brB
 (.obT (.rc))
 (.ob (.obT (.brB
 (.obT (.rc))
 (.ob (.call (.call (.obT (.rc))))))))))))
 (.obT (.obT (.rc))))
def jt8 (x_:Nat) (r:Int) (h:zb (jnA x_) some=some r):ja1 Tryz.f175 ((sp_177 (sp_176 sp0))) (fun _ _ _=>none) [.d (.f .f32 x_)] [.d (.i .i64 r)] :=
 Sk.vc (jwk x_ r) (by kernel_rfl) h
def jt9:jaf Tryz.prog 175 true (jar jlE jf0):=by
 refine jaA (sp:=(sp_177 (sp_176 sp0))) (fn:=Tryz.f175) (body:=bodyOf Tryz.f175) mixed (sp_177_ok (sp_176_ok jaj)) Tryz.func175 (by kernel_rfl) (by kernel_rfl) fun as_ ob rs h ho=>?_;unfold jf0 at h;split at h
 ·rename_i x_;cases h;exact⟨zh rfl,_,_,jt8 x_ _ (jai ho)⟩
 ·cases h
def sp_175_ok {sp:jaa} (h:jab Tryz.prog sp):jab Tryz.prog (sp_175 sp):=jag jt9 h
attribute [irreducible] jnA
def jj3:List (Option Cont):=[some (.floats .f32 [])]
def jua (l:List Nat) (x0:Int):Option (Int ⊕ (Int ⊕ Unit)) :=
 if x0<(↑l.length:Int)then
  if 0<=x0∧x0<(↑l.length:Int)then
  if zg x0<ze l then
   zb (jnA (za l x0.toNat (0:Nat))) fun r0 =>
   if(r0 != 0)=true then
   some (.inr (.inl r0))
   else
   some (.inl (wrap .i64 (x0+1)))
  else none
  else none
 else
  some (.inr ((.inr ())))
def joT (u4:Int):Option Int :=
 some u4
def joU (u9:Unit):Option Int :=
 some (0:Int)
def jil:(Int ⊕ Unit)->Option Int :=
 (qC (joT) (joU))
def y68 (l:List Nat):Option Int :=
 zb (jae (jua l) big (0:Int)) (jil)
def jeT:List A->Option (Prop × List RV)
 |[.r (.floats .f32 l)]=>some (ok (y68 l),[.d (.i .i64 ((val (y68 l))))])
 |_=>none
abbrev sp_166:jaa->jaa:=jan 166 true (jar jj3 jeT)
abbrev jim (l:List Nat) (r:Int):Lp (Int × Nat) Int (Int ⊕ Unit) Int Int :=
 ⟨fun z=>z.1,fun z=>z.2,fun z x n=>(x,n),fun z=>jua l,fun z=>jil,fun z=>top r,fun z=>0,[.c fun _=>(↑l.length:Int),.c fun vv=>vv.1,.c fun _=>l]⟩
def jub (l:List Nat) (r:Int):Sk (top r) (y68 l) :=
 .loop (jim l r) (fun kk=>((0:Int),big)) fun z0 =>
 .br
 (.ob (.ob (.call (.brB
 (.exit (.obT (.rc)))
 (.next)))))
 (.exit (.obT (.rc)))
def jsr (l:List Nat) (r:Int) (h:zb (y68 l) some=some r):ja1 Tryz.f166 ((sp_175 sp0)) (fun gs id st=>match id with
 |0=>some ⟨Int × Nat,fun z=>⟨[(6,.w (.c (.o 0))),(7,.w (.c (.d (.i .i64 ((↑l.length:Int)))))),(8,.w (.c (.d (.i .i64 z.1))))],[(0,.ext (.floats .f32 l))],1⟩,fun z=>(jim l r).inv z,fun z=>z.2⟩
 |_=>none) [.r (.floats .f32 l)] [.d (.i .i64 r)] :=
 Sk.vc (jub l r) (by kernel_rfl) h
def jss:jaf Tryz.prog 166 true (jar jj3 jeT):=by
 refine jaA (sp:=(sp_175 sp0)) (fn:=Tryz.f166) (body:=bodyOf Tryz.f166) mixed (sp_175_ok jaj) Tryz.func166 (by kernel_rfl) (by kernel_rfl) fun as_ ob rs h ho=>?_;unfold jeT at h;split at h
 ·rename_i l;cases h;exact⟨zh rfl,_,_,jsr l _ (jai ho)⟩
 ·cases h
def sp_166_ok {sp:jaa} (h:jab Tryz.prog sp):jab Tryz.prog (sp_166 sp):=jag jss h
attribute [irreducible] y68
def jj4:List (Option Cont):=[some (.recs 5 []),some (.recs 4 [])]
def y85 (s:List (List Int)) (x0 x1:Int):Option (Int ⊕ (Unit ⊕ Unit)) :=
 if x1<4 then
  if(0<=x1∧x1<(↑(4:Nat):Int))∧za [true,true,true,true] (zg x1*1) false=true then
  zb (jcL (za [za (za s x0.toNat []) 0 (0:Int),za (za s x0.toNat []) 1 (0:Int),za (za s x0.toNat []) 2 (0:Int),za (za s x0.toNat []) 3 (0:Int)] (zg x1*1) (0:Int)) (32767:Int)) fun r3 =>
  if(!r3)=true then
   some (.inr ((.inl ())))
  else
   some (.inl (wrap .i64 (x1+1)))
  else none
 else
  some (.inr ((.inr ())))
def joV (x0:Int) (u26:Unit):Option (Int ⊕ (Int ⊕ Unit)) :=
 some (.inr (.inl x0))
def joW (x0:Int) (u33:Unit):Option (Int ⊕ (Int ⊕ Unit)) :=
 some (.inl (wrap .i64 (x0+1)))
def jin (x0:Int):(Unit ⊕ Unit)->Option (Int ⊕ (Int ⊕ Unit)) :=
 (qC (joV x0) (joW x0))
def y86 (s:List (List Int)) (x0:Int):Option (Int ⊕ (Int ⊕ Unit)) :=
 if x0<(↑s.length:Int)then
  if 0<=x0∧x0<(↑s.length:Int)then
  if zg x0<ze s then
   zb (jae (y85 s x0) big (0:Int)) (jin x0)
  else none
  else none
 else
  some (.inr ((.inr ())))
def joX (u4:Int):Option (Int × Int) :=
 some ((u4,2))
def joY (u9:Unit):Option (Int × Int) :=
 some (((0:Int),0))
def y283:(Int ⊕ Unit)->Option (Int × Int) :=
 (qC (joX) (joY))
def y69 (c s:List (List Int)):Option (Int × Int) :=
 zb (y39 c) fun r0 =>
 zb (jc1 ((↑s.length:Int)==(↑c.length:Int)) (10:Int)) fun r1 =>
 zb (jda [r0,r1]) fun r2 =>
 if(r2 != 0)=true then
  some (((0:Int),r2))
 else
  zb (jae (y86 s) big (0:Int)) (y283)
def jeU:List A->Option (Prop × List RV)
 |[.r (.recs 5 c),.r (.recs 4 s)]=>some (ok (y69 c s),[.d (.i .i64 ((val (y69 c s)).1)),.d (.i .i64 ((val (y69 c s)).2))])
 |_=>none
abbrev sp_167:jaa->jaa:=jan 167 true (jar jj4 jeU)
abbrev y284 (c s:List (List Int)) (r:Int × Int):Lp (Int × Nat) Int (Int ⊕ Unit) (Int × Int) (Int × Int) :=
 ⟨fun z=>z.1,fun z=>z.2,fun z x n=>(x,n),fun z=>y86 s,fun z=>y283,fun z=>top r,fun z=>0,[.c fun _=>(↑s.length:Int),.c fun vv=>vv.1,.c fun _=>s]⟩
abbrev jio (c s:List (List Int)) (r:Int × Int) (m1:Nat):Lp (Int × Nat × Int × Nat) Int (Unit ⊕ Unit) ((Int ⊕ (Int ⊕ Unit))) (Int × Int) :=
 ⟨fun z=>z.2.2.1,fun z=>z.2.2.2,fun z x n=>(z.1,z.2.1,x,n),fun z=>y85 s z.1,fun z=>jin z.1,fun z=>(y284 c s r).cx (z.1,m1),fun z=>z.2.1,[.c fun vv=>vv.1,.c fun _=>(↑s.length:Int),.c fun vv=>vv.1,.c fun vv=>za (za s vv.1.toNat []) 0 (0:Int),.c fun vv=>za (za s vv.1.toNat []) 1 (0:Int),.c fun vv=>za (za s vv.1.toNat []) 2 (0:Int),.c fun vv=>za (za s vv.1.toNat []) 3 (0:Int),.c fun vv=>vv.2.2.1,.c fun _=>s]⟩
def jst (c s:List (List Int)) (r:Int × Int):Sk (top r) (zb (jae (y86 s) big (0:Int)) (y283)) :=
 .loop (y284 c s r) (fun kk=>((0:Int),big)) fun z0 =>
 .br
 (.ob (.ob (.obC ((0:Int)<=0∧(0:Int)<2) (by decide) (.obC ((0:Int)<=1∧(1:Int)<2) (by decide) (.obC ((0:Int)<=0∧(0:Int)<2) (by decide) (.obC ((0:Int)<=1∧(1:Int)<2) (by decide) (.loop (jio c s r z0.2) (fun kk=>(z0.1,kk,0,big)) fun z1 =>
 .br
 (.ob (.call (.brB
 (.exit (.exit (.obT (.obT (.rc)))))
 (.next))))
 (.exit (.next)))))))))
 (.exit (.obT (.obT (.rc))))
def juc (c s:List (List Int)) (r:Int × Int):Sk (top r) (y69 c s) :=
 .call (.call (.call (.brB
 (.obT (.obT (.rc)))
 (jst c s r))))
def jsu (c s:List (List Int)) (r:Int × Int) (h:zb (y69 c s) some=some r):ja1 Tryz.f167 ((sp_161 (sp_176 (sp_165 (sp_177 sp0))))) (fun gs id st=>match id with
 |0=>some ⟨Int × Nat,fun z=>⟨[(24,.w (.c (.o 1))),(25,.w (.c (.d (.i .i64 ((↑s.length:Int)))))),(26,.w (.c (.d (.i .i64 z.1))))],[(1,.ext (.recs 4 s))],2⟩,fun z=>(y284 c s r).inv z,fun z=>z.2⟩
 |2=>some ⟨Int × Nat × Int × Nat,fun z=>⟨[(7,.w (.c (.d (.i .i64 z.1)))),(24,.w (.c (.o 1))),(25,.w (.c (.d (.i .i64 ((↑s.length:Int)))))),(26,.w (.c (.d (.i .i64 z.1)))),(43,.w (.a [.d (.i .i64 (za (za s z.1.toNat []) (0:Nat) (0:Int))),.d (.i .i64 (za (za s z.1.toNat []) (1:Nat) (0:Int))),.d (.i .i64 (za (za s z.1.toNat []) (2:Nat) (0:Int))),.d (.i .i64 (za (za s z.1.toNat []) (3:Nat) (0:Int)))])),(44,.w (.c (.d (.i .i64 z.2.2.1))))],[(1,.ext (.recs 4 s))],2⟩,fun z=>(jio c s r (gs.getD 0 0)).inv z,fun z=>z.2.2.2⟩
 |_=>none) [.r (.recs 5 c),.r (.recs 4 s)] [.d (.i .i64 r.1),.d (.i .i64 r.2)] :=
 Sk.vc (juc c s r) (by kernel_rfl) h
def jsv:jaf Tryz.prog 167 true (jar jj4 jeU):=by
 refine jaA (sp:=(sp_161 (sp_176 (sp_165 (sp_177 sp0))))) (fn:=Tryz.f167) (body:=bodyOf Tryz.f167) mixed (sp_161_ok (sp_176_ok (sp_165_ok (sp_177_ok jaj)))) Tryz.func167 (by kernel_rfl) (by kernel_rfl) fun as_ ob rs h ho=>?_;unfold jeU at h;split at h
 ·rename_i c s;cases h;exact⟨zh rfl,_,_,jsu c s _ (jai ho)⟩
 ·cases h
def sp_167_ok {sp:jaa} (h:jab Tryz.prog sp):jab Tryz.prog (sp_167 sp):=jag jsv h
attribute [irreducible] y69
def jnB:List (Option Cont):=[some (.recs 5 []),some (.recs 4 [])]
def jqJ (c s:List (List Int)) (x0:(Int × List (List Int))):Option ((Int × List (List Int)) ⊕ (List (List Int))) :=
 if x0.1<(↑c.length:Int)then
  if 0<=x0.1∧x0.1<(↑c.length:Int)then
  if zg x0.1<ze c then
   if 0<=x0.1∧x0.1<(↑s.length:Int)then
   if zg x0.1<ze s then
    if(ze x0.2+ze [[za (za c x0.1.toNat []) 0 (0:Int),za (za c x0.1.toNat []) 1 (0:Int),za (za c x0.1.toNat []) 2 (0:Int),za (za c x0.1.toNat []) 3 (0:Int),za (za c x0.1.toNat []) 4 (0:Int),za (za s x0.1.toNat []) 0 (0:Int),za (za s x0.1.toNat []) 1 (0:Int),za (za s x0.1.toNat []) 2 (0:Int),za (za s x0.1.toNat []) 3 (0:Int),0]])*80<=140737488355328∧ze x0.2+ze [[za (za c x0.1.toNat []) 0 (0:Int),za (za c x0.1.toNat []) 1 (0:Int),za (za c x0.1.toNat []) 2 (0:Int),za (za c x0.1.toNat []) 3 (0:Int),za (za c x0.1.toNat []) 4 (0:Int),za (za s x0.1.toNat []) 0 (0:Int),za (za s x0.1.toNat []) 1 (0:Int),za (za s x0.1.toNat []) 2 (0:Int),za (za s x0.1.toNat []) 3 (0:Int),0]]<=9223372036854775807 then
    some (.inl ((wrap .i64 (x0.1+1),x0.2++[[za (za c x0.1.toNat []) 0 (0:Int),za (za c x0.1.toNat []) 1 (0:Int),za (za c x0.1.toNat []) 2 (0:Int),za (za c x0.1.toNat []) 3 (0:Int),za (za c x0.1.toNat []) 4 (0:Int),za (za s x0.1.toNat []) 0 (0:Int),za (za s x0.1.toNat []) 1 (0:Int),za (za s x0.1.toNat []) 2 (0:Int),za (za s x0.1.toNat []) 3 (0:Int),0]])))
    else none
   else none
   else none
  else none
  else none
 else
  some (.inr x0.2)
def jf1 (u4:List (List Int)):Option (List (List Int)) :=
 some u4
def y87 (c s:List (List Int)):Option (List (List Int)) :=
 zb (jae (jqJ c s) big (((0:Int),[]))) (jf1)
def jhr:List A->Option (Prop × List RV)
 |[.r (.recs 5 c),.r (.recs 4 s)]=>some (ok (y87 c s),[.row 236 (.recs 10 ((val (y87 c s))))])
 |_=>none
abbrev sp_168:jaa->jaa:=jan 168 true (jar jnB jhr)
abbrev jlF (c s r:List (List Int)):Lp ((Int × List (List Int)) × Nat) ((Int × List (List Int))) ((List (List Int))) ((List (List Int))) (List (List Int)) :=
 ⟨fun z=>z.1,fun z=>z.2,fun z x n=>(x,n),fun z=>jqJ c s,fun z=>jf1,fun z=>top r,fun z=>0,[.c fun _=>(↑c.length:Int),.c fun vv=>vv.1.1,.c fun _=>s,.c fun vv=>vv.1.2,.c fun _=>c]⟩
def jwl (c s r:List (List Int)):Sk (top r) (zb (jae (jqJ c s) big (((0:Int),[]))) (jf1)) :=
 .loopQ (jlF c s r) [.c fun _=>(↑c.length:Int),.c fun vv=>vv.1.1,.c fun _=>s,.p fun vv=>ze vv.1.2=(0:Nat),.c fun _=>c] (fun kk=>(((0:Int),[]),big)) (fun z0 =>
 .br
 (.ob (.ob (.ob (.ob (.ob (.next))))))
 (.exit (.obT (.rc)))) (fun _=>⟨rfl,trivial⟩)
def jyn (c s r:List (List Int)):Sk (top r) (y87 c s) :=
 jwl c s r
def jwm (c s r:List (List Int)) (h:zb (y87 c s) some=some r):ja1 Tryz.f168 (sp0) (fun gs id st=>match id with
 |0=>some ⟨(Int × List (List Int)) × Nat,fun z=>⟨[(1,.w (.c (.o 1))),(5,.w (.c (.o 2))),(8,.w (.c (.o 0))),(9,.w (.c (.d (.i .i64 ((↑c.length:Int)))))),(10,.w (.c (.d (.i .i64 z.1.1))))],[(1,.ext (.recs 4 s)),(2,.row 236 (.recs 10 z.1.2)),(0,.ext (.recs 5 c))],3⟩,fun z=>(jlF c s r).inv z,fun z=>z.2⟩
 |_=>none) [.r (.recs 5 c),.r (.recs 4 s)] [.row 236 (.recs 10 r)] :=
 Sk.vc (jyn c s r) (by kernel_rfl) h
def jwn:jaf Tryz.prog 168 true (jar jnB jhr):=by
 refine jaA (sp:=sp0) (fn:=Tryz.f168) (body:=bodyOf Tryz.f168) mixed jaj Tryz.func168 (by kernel_rfl) (by kernel_rfl) fun as_ ob rs h ho=>?_;unfold jhr at h;split at h
 ·rename_i c s;cases h;exact⟨zh rfl,_,_,jwm c s _ (jai ho)⟩
 ·cases h
def sp_168_ok {sp:jaa} (h:jab Tryz.prog sp):jab Tryz.prog (sp_168 sp):=jag jwn h
attribute [irreducible] y87
def jhs:List (Option Cont):=[some (.recs 10 [])]
def y92 (l:List (List Int)) (x0:(Int × List (List Int))):Option ((Int × List (List Int)) ⊕ (List (List Int))) :=
 if x0.1<(↑l.length:Int)then
  if 0<=x0.1∧x0.1<(↑l.length:Int)then
  if zg x0.1<ze l then
   if(ze x0.2+ze [[za (za l x0.1.toNat []) 5 (0:Int),za (za l x0.1.toNat []) 6 (0:Int),za (za l x0.1.toNat []) 7 (0:Int),za (za l x0.1.toNat []) 8 (0:Int)]])*32<=140737488355328∧ze x0.2+ze [[za (za l x0.1.toNat []) 5 (0:Int),za (za l x0.1.toNat []) 6 (0:Int),za (za l x0.1.toNat []) 7 (0:Int),za (za l x0.1.toNat []) 8 (0:Int)]]<=9223372036854775807 then
   some (.inl ((wrap .i64 (x0.1+1),x0.2++[[za (za l x0.1.toNat []) 5 (0:Int),za (za l x0.1.toNat []) 6 (0:Int),za (za l x0.1.toNat []) 7 (0:Int),za (za l x0.1.toNat []) 8 (0:Int)]])))
   else none
  else none
  else none
 else
  some (.inr x0.2)
def y246 (u4:List (List Int)):Option (List (List Int)) :=
 some u4
def y55 (l:List (List Int)):Option (List (List Int)) :=
 zb (jae (y92 l) big (((0:Int),[]))) (y246)
def y262:List A->Option (Prop × List RV)
 |[.r (.recs 10 l)]=>some (ok (y55 l),[.row 174 (.recs 4 ((val (y55 l))))])
 |_=>none
abbrev sp_170:jaa->jaa:=jan 170 true (jar jhs y262)
abbrev jgq (l r:List (List Int)):Lp ((Int × List (List Int)) × Nat) ((Int × List (List Int))) ((List (List Int))) ((List (List Int))) (List (List Int)) :=
 ⟨fun z=>z.1,fun z=>z.2,fun z x n=>(x,n),fun z=>y92 l,fun z=>y246,fun z=>top r,fun z=>0,[.c fun _=>(↑l.length:Int),.c fun vv=>vv.1.1,.c fun vv=>vv.1.2,.c fun _=>l]⟩
def joZ (l r:List (List Int)):Sk (top r) (zb (jae (y92 l) big (((0:Int),[]))) (y246)) :=
 .loopQ (jgq l r) [.c fun _=>(↑l.length:Int),.c fun vv=>vv.1.1,.p fun vv=>ze vv.1.2=(0:Nat),.c fun _=>l] (fun kk=>(((0:Int),[]),big)) (fun z0 =>
 .br
 (.ob (.ob (.ob (.next))))
 (.exit (.obT (.rc)))) (fun _=>⟨rfl,trivial⟩)
def jqK (l r:List (List Int)):Sk (top r) (y55 l) :=
 joZ l r
def jo0 (l r:List (List Int)) (h:zb (y55 l) some=some r):ja1 Tryz.f170 (sp0) (fun gs id st=>match id with
 |0=>some ⟨(Int × List (List Int)) × Nat,fun z=>⟨[(3,.w (.c (.o 1))),(6,.w (.c (.o 0))),(7,.w (.c (.d (.i .i64 ((↑l.length:Int)))))),(8,.w (.c (.d (.i .i64 z.1.1))))],[(1,.row 174 (.recs 4 z.1.2)),(0,.ext (.recs 10 l))],2⟩,fun z=>(jgq l r).inv z,fun z=>z.2⟩
 |_=>none) [.r (.recs 10 l)] [.row 174 (.recs 4 r)] :=
 Sk.vc (jqK l r) (by kernel_rfl) h
def jo1:jaf Tryz.prog 170 true (jar jhs y262):=by
 refine jaA (sp:=sp0) (fn:=Tryz.f170) (body:=bodyOf Tryz.f170) mixed jaj Tryz.func170 (by kernel_rfl) (by kernel_rfl) fun as_ ob rs h ho=>?_;unfold y262 at h;split at h
 ·rename_i l;cases h;exact⟨zh rfl,_,_,jo0 l _ (jai ho)⟩
 ·cases h
def sp_170_ok {sp:jaa} (h:jab Tryz.prog sp):jab Tryz.prog (sp_170 sp):=jag jo1 h
attribute [irreducible] y55
def jj5:List (Option Cont):=[some (.recs 10 [])]
def jud (l:List (List Int)) (x0:(Int × Int)):Option ((Int × Int) ⊕ Int) :=
 if x0.2<(↑l.length:Int)then
  if 0<=x0.2∧x0.2<(↑l.length:Int)then
  if zg x0.2<ze l then
   some (.inl ((wrap .i64 (x0.1+za (za l x0.2.toNat []) 9 (0:Int)),wrap .i64 (x0.2+1))))
  else none
  else none
 else
  some (.inr x0.1)
def jip (u4:Int):Option Int :=
 some u4
def y88 (l:List (List Int)):Option Int :=
 zb (jae (jud l) big (((0:Int),0))) (jip)
def jeV:List A->Option (Prop × List RV)
 |[.r (.recs 10 l)]=>some (ok (y88 l),[.d (.i .i64 ((val (y88 l))))])
 |_=>none
abbrev sp_171:jaa->jaa:=jan 171 true (jar jj5 jeV)
abbrev jiq (l:List (List Int)) (r:Int):Lp ((Int × Int) × Nat) (Int × Int) Int Int Int :=
 ⟨fun z=>z.1,fun z=>z.2,fun z x n=>(x,n),fun z=>jud l,fun z=>jip,fun z=>top r,fun z=>0,[.c fun vv=>vv.1.1,.c fun _=>(↑l.length:Int),.c fun vv=>vv.1.2,.c fun _=>l]⟩
def jue (l:List (List Int)) (r:Int):Sk (top r) (y88 l) :=
 .loop (jiq l r) (fun kk=>(((0:Int),0),big)) fun z0 =>
 .br
 (.ob (.ob (.next)))
 (.exit (.obT (.rc)))
def jsw (l:List (List Int)) (r:Int) (h:zb (y88 l) some=some r):ja1 Tryz.f171 (sp0) (fun gs id st=>match id with
 |0=>some ⟨(Int × Int) × Nat,fun z=>⟨[(3,.w (.c (.d (.i .i64 z.1.1)))),(6,.w (.c (.o 0))),(7,.w (.c (.d (.i .i64 ((↑l.length:Int)))))),(8,.w (.c (.d (.i .i64 z.1.2))))],[(0,.ext (.recs 10 l))],1⟩,fun z=>(jiq l r).inv z,fun z=>z.2⟩
 |_=>none) [.r (.recs 10 l)] [.d (.i .i64 r)] :=
 Sk.vc (jue l r) (by kernel_rfl) h
def jsx:jaf Tryz.prog 171 true (jar jj5 jeV):=by
 refine jaA (sp:=sp0) (fn:=Tryz.f171) (body:=bodyOf Tryz.f171) mixed jaj Tryz.func171 (by kernel_rfl) (by kernel_rfl) fun as_ ob rs h ho=>?_;unfold jeV at h;split at h
 ·rename_i l;cases h;exact⟨zh rfl,_,_,jsw l _ (jai ho)⟩
 ·cases h
def sp_171_ok {sp:jaa} (h:jab Tryz.prog sp):jab Tryz.prog (sp_171 sp):=jag jsx h
attribute [irreducible] y88
end Go.Sh
end
