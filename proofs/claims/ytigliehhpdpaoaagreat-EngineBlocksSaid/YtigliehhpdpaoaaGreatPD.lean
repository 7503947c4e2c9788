/- Part 4 of the proof of EngineBlocks: the executor, the mirrors of the functions, the plain facts. -/
import Derived.Test.YtigliehhpdpaoaaGreatPC
import Derived.RangeFuncNested
import Derived.RangeFuncBound
import Derived.RangeFuncCalls
import Derived.RangeFuncLeaves
import Derived.Shelf.Abstract
import Derived.Shelf.RegionOpen
import Derived.WalkKit
import Derived.OwnWalkIn
import Derived.TacticsInMore
import Derived.LoopNIn
import Derived.LoopIn
import Derived.Test.YtigliehhpdpaoaaGreatProg
set_option maxRecDepth 100000
set_option linter.unusedSectionVars false
set_option linter.unusedSimpArgs false
set_option linter.unusedVariables false
set_option linter.defProp false
open Array renaming getD->qQ,getElem?_eq_some_iff->zM,replicate_succ->ju,replicate_zero->jv
open Bool renaming and_eq_true->zk
open ByteArray renaming data->qi,mk->xd,size->yp
open Eq renaming mp->js
open Go renaming CallsIn->fT,Code->jn,Func->jL,Oper->qu,Program->zP,Value->zs,World->zr,callsIn_of_wp->gQ,callsIn_wide->fV,execOp->xg,results_none->j7,undef->zJ,wpIn_block->fN,wpIn_cond_false->jR,wpIn_cond_true->j5,wpIn_region_list->gZ,wpIn_seq->yL,wpIn_skip->fD,wpListIn_nil->j6,wpListIn_plain->xK,wp_mono->yl
open Go.Act renaming put->jO
open Go.Deferred renaming ofValue->gY
open Go.Ending renaming returned->yg
open Go.Fence renaming wide->xR,wide_round->jE
open Go.FloatKind renaming nearest->qw
open Go.IntKind renaming i64->qP
open Go.IntWalk renaming i64_in->fA
open Go.Oper renaming semAt_none->jQ,semAt_some->jP
open Go.Region renaming ready->jD,wanted->yP
open Go.Result renaming andThen_ok->zn
open Go.RowKit renaming Below->yn,intOf->ku
open Go.RowKit.Below renaming refl->xM
open Go.Sem renaming run_bind->zq,run_pure->zt
open Go.Value renaming agg->kY,int->x9,ownBlock->zU,pointer->xr,slice->zx
open Go.Value.pointer renaming inj->kW
open Go.World renaming block_lt_of_cell?->xe,cell?->fC,cell?_of_block->xj,cell?_setCell_same'->yU,frozen?->kz,grownBy_alloc->fG,size_alloc->f7
open Go.World.grownBy renaming refl->gF
open Ieee renaming Format->gv
open Ieee.Format renaming order->qo
open Int renaming toNat->zf
open List renaming all_eq_true->zy,append_nil->yw,append_toArray->jH,cons_append->qq,drop->jf,getD->zb,getElem?_eq_getElem->zH,getElem?_map->zR,headD->zA,length->za,length_cons->zB,length_nil->qe,map->qt,map_cons->zL,map_nil->xp,map_toArray->yj,mem_append->qR,mem_cons->qr,mem_cons_of_mem->zu,mem_cons_self->zw,mem_map->qn,mem_map_of_mem->jI,mem_singleton->z6,nil_append->qS,not_mem_nil->g5,push_toArray->j8,replicate->zh,set->qz,size_toArray->xJ,take->je,take_length->yk
open Nat renaming beq->zF,ble->qN,eq_of_beq_eq_true->zi,le_of_ble_eq_true->zQ,le_of_not_lt->yi,le_refl->zp,le_trans->xb,lt_succ_self->zo,not_lt_of_le->yB,reduceAdd->gR,reduceSub->gS,zero_add->qa
open Ne renaming symm->jc
open Option renaming bind->ze,bind_eq_some_iff->zK,getD->z8,isSome->gT,map_eq_some_iff->z4,map_some->qk
open Option.some renaming inj->yf,injEq->zj
open Prod.mk renaming injEq->qp
open Sum renaming elim->qy
open UInt8 renaming toNat->qG
section
namespace Go.Sh
open Go Go.Proofs Go.RowKit Go.Sx
open Go.IntKind (wrap)
set_option maxRecDepth 100000
def jsY:List SV:=[.a [.d,.x (.st zS [])],.c (.d)]
def jqS (u1:List (List NC)) (i x0:Int):Option (Int ⊕ (Unit ⊕ Unit)) :=
 if x0<i then if 0<=x0∧x0<(↑u1.length:Int)then
  if zf x0<za u1 then if(nS u1 x0.toNat (0:Nat)==nS u1 i.toNat (0:Nat))=true then some (.inr ((.inl ())))
   else
   some (.inl (wrap .i64 (x0+1)))
  else none
  else none
 else some (.inr ((.inr ())))
def jot (u1:List (List NC)) (i:Int) (u3:Unit):Option Int :=some (5:Int)
def y15 (u1:List (List NC)) (i x1:Int):Option (Int ⊕ (Unit ⊕ Unit)) :=
 if x1<(↑(za (nL u1 i.toNat (2:Nat))):Int)then if 0<=x1∧x1<(↑(za (nL u1 i.toNat (2:Nat))):Int)then
  if zf x1<za (nL u1 i.toNat (2:Nat))then
   ze (y23 (zb (nL u1 i.toNat (2:Nat)) x1.toNat (0:Int)) (0:Int) (wrap .i64 ((↑u1.length:Int)-1))) fun r3 =>
   if(!r3)=true then
   some (.inr ((.inl ())))
   else
   some (.inl (wrap .i64 (x1+1)))
  else none
  else none
 else some (.inr ((.inr ())))
def jou (u1:List (List NC)) (i:Int) (u7:Unit):Option Int :=some (6:Int)
def jqT (u1:List (List NC)) (i x2:Int):Option (Int ⊕ (Unit ⊕ Unit)) :=
 if x2<(↑(za (nL u1 i.toNat (2:Nat))):Int)then if 0<=z8 none (0:Int)∧z8 none 0<=z8 (some x2) (↑(za (nL u1 i.toNat (2:Nat))):Int)∧z8 (some x2) (↑(za (nL u1 i.toNat (2:Nat))):Int)<=(↑(za (nL u1 i.toNat (2:Nat))):Int)then
  if 0<=x2∧x2<(↑(za (nL u1 i.toNat (2:Nat))):Int)then if zf x2<za (nL u1 i.toNat (2:Nat))then
   ze (jfW (je (zf (z8 (some x2) (↑(za (nL u1 i.toNat (2:Nat))):Int))-0) (jf (0:Nat) (nL u1 i.toNat (2:Nat)))) (zb (nL u1 i.toNat (2:Nat)) x2.toNat (0:Int))) fun r5 =>
   if(r5)=true then some (.inr ((.inl ())))
   else some (.inl (wrap .i64 (x2+1)))
   else none
  else none
  else none
 else some (.inr ((.inr ())))
def jov (u1:List (List NC)) (i:Int) (u22:Unit):Option Int :=some (26:Int)
def jqU (u1:List (List NC)) (i x3:Int):Option (Int ⊕ (Unit ⊕ Unit)) :=
 if x3<(↑(za (nL u1 i.toNat (3:Nat))):Int)then if 0<=x3∧x3<(↑(za (nL u1 i.toNat (3:Nat))):Int)then
  if zf x3<za (nL u1 i.toNat (3:Nat))then
   ze (y23 (zb (nL u1 i.toNat (3:Nat)) x3.toNat (0:Int)) (0:Int) (64:Int)) fun r6 =>
   if(!r6)=true then
   some (.inr ((.inl ())))
   else
   some (.inl (wrap .i64 (x3+1)))
  else none
  else none
 else some (.inr ((.inr ())))
def jow (u1:List (List NC)) (i:Int) (u64:Unit):Option Int :=some (2:Int)
def jqV (u1:List (List NC)) (i x4:Int):Option (Int ⊕ (Unit ⊕ Unit)) :=
 if x4<(↑(za (nL u1 i.toNat (4:Nat))):Int)then if 0<=x4∧x4<(↑(za (nL u1 i.toNat (4:Nat))):Int)then
  if zf x4<za (nL u1 i.toNat (4:Nat))then
   ze (y23 (zb (nL u1 i.toNat (4:Nat)) x4.toNat (0:Int)) (-4000:Int) (4000:Int)) fun r7 =>
   if(!r7)=true then
   some (.inr ((.inl ())))
   else
   some (.inl (wrap .i64 (x4+1)))
  else none
  else none
 else some (.inr ((.inr ())))
def jox (u1:List (List NC)) (i:Int) (u65:Unit):Option Int :=some (2:Int)
def y198 (u1:List (List NC)) (i:Int) (u66:Unit):Option Int :=
 ze (y23 (nI u1 i.toNat (5:Nat)) (0:Int) (64:Int)) fun r8 =>
 if(!r8)=true then some (2:Int)
 else if(nI u1 i.toNat (1:Nat)!=2)=true then
  if(nI u1 i.toNat (5:Nat)!=0)=true then some (2:Int)
  else if(nI u1 i.toNat (1:Nat)!=3)=true then
   if(↑(za (nR u1 i.toNat (6:Nat))):Int)>0 then some (10:Int)
   else some (0:Int)
   else
   ze (y42 (nR u1 i.toNat (6:Nat))) fun r9 =>
   some r9.2
  else
  if(nI u1 i.toNat (1:Nat)!=3)=true then if(↑(za (nR u1 i.toNat (6:Nat))):Int)>0 then some (10:Int)
   else
   some (0:Int)
  else
   ze (y42 (nR u1 i.toNat (6:Nat))) fun r9 =>
   some r9.2
def jiE (u1:List (List NC)) (i:Int):(Unit ⊕ Unit)->Option Int :=(qy (jox u1 i) (y198 u1 i))
def y199 (u1:List (List NC)) (i:Int) (u67:Unit):Option Int :=ze (jae (jqV u1 i) big (0:Int)) (jiE u1 i)
def jiF (u1:List (List NC)) (i:Int):(Unit ⊕ Unit)->Option Int :=(qy (jow u1 i) (y199 u1 i))
def y200 (u1:List (List NC)) (i:Int) (u26:Unit):Option Int :=ze (jae (jqU u1 i) big (0:Int)) (jiF u1 i)
def jeU (u1:List (List NC)) (i:Int):(Unit ⊕ Unit)->Option Int :=(qy (jov u1 i) (y200 u1 i))
def y201 (u1:List (List NC)) (i:Int) (u20:Unit):Option Int :=
 ze (y23 (nI u1 i.toNat (7:Nat)) (-1:Int) (wrap .i64 ((↑u1.length:Int)-1))) fun r4 =>
 if(!r4)=true then some (6:Int)
 else ze (jae (jqT u1 i) big (0:Int)) (jeU u1 i)
def y28 (u1:List (List NC)) (i:Int):(Unit ⊕ Unit)->Option Int :=(qy (jou u1 i) (y201 u1 i))
def y202 (u1:List (List NC)) (i:Int) (u4:Unit):Option Int :=
 ze (y23 (nI u1 i.toNat (1:Nat)) (0:Int) (4:Int)) fun r1 =>
 if(!r1)=true then some (15:Int)
 else if(nI u1 i.toNat (1:Nat)==0)=true then
  if(nI u1 i.toNat (1:Nat)==1)=true then if(nI u1 i.toNat (1:Nat)==1)=true then
   ze (y23 (↑(za (nL u1 i.toNat (2:Nat))):Int) (0:Int) (6:Int)) fun r2 =>
   if(!r2)=true then some (10:Int)
   else if((↑(za (nL u1 i.toNat (3:Nat))):Int)!=(↑(za (nL u1 i.toNat (2:Nat))):Int))=true then some (10:Int)
    else
    if((↑(za (nL u1 i.toNat (4:Nat))):Int)!=(↑(za (nL u1 i.toNat (2:Nat))):Int))=true then some (10:Int)
    else ze (jae (y15 u1 i) big (0:Int)) (y28 u1 i)
   else
   ze (y23 (↑(za (nL u1 i.toNat (2:Nat))):Int) (0:Int) (6:Int)) fun r2 =>
   if(!r2)=true then some (10:Int)
   else if((↑(za (nL u1 i.toNat (3:Nat))):Int)!=(↑(za (nL u1 i.toNat (2:Nat))):Int))=true then some (10:Int)
    else
    if((↑(za (nL u1 i.toNat (4:Nat))):Int)!=0)=true then some (10:Int)
    else ze (jae (y15 u1 i) big (0:Int)) (y28 u1 i)
  else if(nI u1 i.toNat (1:Nat)==1)=true then
   ze (y23 (↑(za (nL u1 i.toNat (2:Nat))):Int) (0:Int) (0:Int)) fun r10 =>
   if(!r10)=true then some (10:Int)
   else if((↑(za (nL u1 i.toNat (3:Nat))):Int)!=(↑(za (nL u1 i.toNat (2:Nat))):Int))=true then some (10:Int)
    else
    if((↑(za (nL u1 i.toNat (4:Nat))):Int)!=(↑(za (nL u1 i.toNat (2:Nat))):Int))=true then some (10:Int)
    else ze (jae (y15 u1 i) big (0:Int)) (y28 u1 i)
   else
   ze (y23 (↑(za (nL u1 i.toNat (2:Nat))):Int) (0:Int) (0:Int)) fun r10 =>
   if(!r10)=true then some (10:Int)
   else if((↑(za (nL u1 i.toNat (3:Nat))):Int)!=(↑(za (nL u1 i.toNat (2:Nat))):Int))=true then some (10:Int)
    else
    if((↑(za (nL u1 i.toNat (4:Nat))):Int)!=0)=true then some (10:Int)
    else ze (jae (y15 u1 i) big (0:Int)) (y28 u1 i)
  else
  if(nI u1 i.toNat (1:Nat)==1)=true then if(nI u1 i.toNat (1:Nat)==1)=true then
   ze (y23 (↑(za (nL u1 i.toNat (2:Nat))):Int) (1:Int) (6:Int)) fun r11 =>
   if(!r11)=true then some (10:Int)
   else if((↑(za (nL u1 i.toNat (3:Nat))):Int)!=(↑(za (nL u1 i.toNat (2:Nat))):Int))=true then some (10:Int)
    else
    if((↑(za (nL u1 i.toNat (4:Nat))):Int)!=(↑(za (nL u1 i.toNat (2:Nat))):Int))=true then some (10:Int)
    else ze (jae (y15 u1 i) big (0:Int)) (y28 u1 i)
   else
   ze (y23 (↑(za (nL u1 i.toNat (2:Nat))):Int) (1:Int) (6:Int)) fun r11 =>
   if(!r11)=true then some (10:Int)
   else if((↑(za (nL u1 i.toNat (3:Nat))):Int)!=(↑(za (nL u1 i.toNat (2:Nat))):Int))=true then some (10:Int)
    else
    if((↑(za (nL u1 i.toNat (4:Nat))):Int)!=0)=true then some (10:Int)
    else ze (jae (y15 u1 i) big (0:Int)) (y28 u1 i)
  else if(nI u1 i.toNat (1:Nat)==1)=true then
   ze (y23 (↑(za (nL u1 i.toNat (2:Nat))):Int) (1:Int) (1:Int)) fun r12 =>
   if(!r12)=true then some (10:Int)
   else if((↑(za (nL u1 i.toNat (3:Nat))):Int)!=(↑(za (nL u1 i.toNat (2:Nat))):Int))=true then some (10:Int)
    else
    if((↑(za (nL u1 i.toNat (4:Nat))):Int)!=(↑(za (nL u1 i.toNat (2:Nat))):Int))=true then some (10:Int)
    else ze (jae (y15 u1 i) big (0:Int)) (y28 u1 i)
   else
   ze (y23 (↑(za (nL u1 i.toNat (2:Nat))):Int) (1:Int) (1:Int)) fun r12 =>
   if(!r12)=true then some (10:Int)
   else if((↑(za (nL u1 i.toNat (3:Nat))):Int)!=(↑(za (nL u1 i.toNat (2:Nat))):Int))=true then some (10:Int)
    else
    if((↑(za (nL u1 i.toNat (4:Nat))):Int)!=0)=true then some (10:Int)
    else ze (jae (y15 u1 i) big (0:Int)) (y28 u1 i)
def jeV (u1:List (List NC)) (i:Int):(Unit ⊕ Unit)->Option Int :=(qy (jot u1 i) (y202 u1 i))
def jqW (u5:zY) (u1:List (List NC)) (i:Int):Option Int :=
 if 0<=i∧i<(↑u1.length:Int)then if zf i<za u1 then
  ze (jcX (nS u1 i.toNat (0:Nat))) fun r0 =>
  if(!r0)=true then some (4:Int)
  else if(nS u1 i.toNat (0:Nat)==xd #[(115:UInt8),(116:UInt8),(97:UInt8),(110:UInt8),(100:UInt8)])=true then some (4:Int)
   else
   ze (jae (jqS u1 i) big (0:Int)) (jeV u1 i)
  else none
 else none
def jkd:List Lf->Option GT|[.d (.s u5),.x (.st [.s,.i .i64,.ints .i64,.ints .i64,.ints .i64,.i .i64,.recs 5,.i .i64] u1),.d (.i .i64 i)]=>some (.leaf (ok (jqW u5 u1 i)) [.c (.d (.i .i64 ((val (jqW u5 u1 i)))))])|_=>none
abbrev sp_82:jab->jab:=jal 82 true (jak jsY jkd)
def sp_82_ok:KO sp_82:=jag (kT (sp_81_ok (sp_48_ok (sp_45_ok (sp_131_ok jaf)))) Tryz.func82 (by kernel_rfl) fun ls t h ho=>by
 unfold jkd at h;split at h
 ·rename_i u5 u1 i;cases h;have ho:=jad ho
  generalize val (jqW u5 u1 i)=r at ho ⊢
  let l0:=lp0 (jqS u1 i) (jeV u1 i) r fun z=>⟨[(1,.w (.c (.d (.i .i64 i)))),(2,.w (.c (.p 1 0 1 0))),(5,.w (.c (.p 2 0 1 0))),(6,.w (.c (.d (.i .i64 z.1))))],[(1,.box 24 [.d (.s u5),.o 0]),(2,.box 118 [.d (.s (nS u1 i.toNat (0:Nat))),.d (.i .i64 (nI u1 i.toNat (1:Nat))),.o 3,.o 4,.o 5,.d (.i .i64 (nI u1 i.toNat (5:Nat))),.o 6,.d (.i .i64 (nI u1 i.toNat (7:Nat)))]),(0,.xext (XC.st zS u1)),(3,.ext (.ints .i64 (nL u1 i.toNat (2:Nat)))),(4,.ext (.ints .i64 (nL u1 i.toNat (3:Nat)))),(5,.ext (.ints .i64 (nL u1 i.toNat (4:Nat)))),(6,.ext (.recs 5 (nR u1 i.toNat (6:Nat))))],7⟩
  let l1:Lp (Unit × Int × Nat) Int (Unit ⊕ Unit) Int Int:=⟨fun z=>z.2.1,fun z=>z.2.2,fun z x n=>((),x,n),fun z=>y15 u1 i,fun z=>y28 u1 i,fun z=>top r,fun z=>0,fun z=>⟨[(2,.w (.c (.p 1 0 1 0))),(5,.w (.c (.p 2 0 1 0))),(10,.w (.c (.d (.i .i64 z.2.1))))],[(1,.box 24 [.d (.s u5),.o 0]),(2,.box 118 [.d (.s (nS u1 i.toNat (0:Nat))),.d (.i .i64 (nI u1 i.toNat (1:Nat))),.o 3,.o 4,.o 5,.d (.i .i64 (nI u1 i.toNat (5:Nat))),.o 6,.d (.i .i64 (nI u1 i.toNat (7:Nat)))]),(0,.xext (XC.st zS u1)),(3,.ext (.ints .i64 (nL u1 i.toNat (2:Nat)))),(4,.ext (.ints .i64 (nL u1 i.toNat (3:Nat)))),(5,.ext (.ints .i64 (nL u1 i.toNat (4:Nat)))),(6,.ext (.recs 5 (nR u1 i.toNat (6:Nat))))],7⟩⟩
  let l2:Lp (Unit × Unit × Int × Nat) Int (Unit ⊕ Unit) Int Int:=⟨fun z=>z.2.2.1,fun z=>z.2.2.2,fun z x n=>((),(),x,n),fun z=>jqT u1 i,fun z=>jeU u1 i,fun z=>top r,fun z=>0,fun z=>⟨[(5,.w (.c (.p 1 0 1 0))),(11,.w (.c (.d (.i .i64 z.2.2.1))))],[(1,.box 118 [.d (.s (nS u1 i.toNat (0:Nat))),.d (.i .i64 (nI u1 i.toNat (1:Nat))),.o 2,.o 3,.o 4,.d (.i .i64 (nI u1 i.toNat (5:Nat))),.o 5,.d (.i .i64 (nI u1 i.toNat (7:Nat)))]),(2,.ext (.ints .i64 (nL u1 i.toNat (2:Nat)))),(3,.ext (.ints .i64 (nL u1 i.toNat (3:Nat)))),(4,.ext (.ints .i64 (nL u1 i.toNat (4:Nat)))),(5,.ext (.recs 5 (nR u1 i.toNat (6:Nat))))],6⟩⟩
  let l3:Lp (Unit × Unit × Unit × Int × Nat) Int (Unit ⊕ Unit) Int Int:=⟨fun z=>z.2.2.2.1,fun z=>z.2.2.2.2,fun z x n=>((),(),(),x,n),fun z=>jqU u1 i,fun z=>jiF u1 i,fun z=>top r,fun z=>0,fun z=>⟨[(5,.w (.c (.p 1 0 1 0))),(12,.w (.c (.d (.i .i64 z.2.2.2.1))))],[(1,.box 118 [.d (.s (nS u1 i.toNat (0:Nat))),.d (.i .i64 (nI u1 i.toNat (1:Nat))),.o 2,.o 3,.o 4,.d (.i .i64 (nI u1 i.toNat (5:Nat))),.o 5,.d (.i .i64 (nI u1 i.toNat (7:Nat)))]),(2,.ext (.ints .i64 (nL u1 i.toNat (2:Nat)))),(3,.ext (.ints .i64 (nL u1 i.toNat (3:Nat)))),(4,.ext (.ints .i64 (nL u1 i.toNat (4:Nat)))),(5,.ext (.recs 5 (nR u1 i.toNat (6:Nat))))],6⟩⟩
  let l4:Lp (Unit × Unit × Unit × Unit × Int × Nat) Int (Unit ⊕ Unit) Int Int:=⟨fun z=>z.2.2.2.2.1,fun z=>z.2.2.2.2.2,fun z x n=>((),(),(),(),x,n),fun z=>jqV u1 i,fun z=>jiE u1 i,fun z=>top r,fun z=>0,fun z=>⟨[(5,.w (.c (.p 1 0 1 0))),(13,.w (.c (.d (.i .i64 z.2.2.2.2.1))))],[(1,.box 118 [.d (.s (nS u1 i.toNat (0:Nat))),.d (.i .i64 (nI u1 i.toNat (1:Nat))),.o 2,.o 3,.o 4,.d (.i .i64 (nI u1 i.toNat (5:Nat))),.o 5,.d (.i .i64 (nI u1 i.toNat (7:Nat)))]),(2,.ext (.ints .i64 (nL u1 i.toNat (2:Nat)))),(3,.ext (.ints .i64 (nL u1 i.toNat (3:Nat)))),(4,.ext (.ints .i64 (nL u1 i.toNat (4:Nat)))),(5,.ext (.recs 5 (nR u1 i.toNat (6:Nat))))],6⟩⟩
  let p2:Sk (top r) (ze (jae (y15 u1 i) big (0:Int)) (y28 u1 i)):=.loop (l1) (fun kk=>((),0,big)) fun z0 =>
   .br
   (.ob (.ob (.call (.brB
   (.exit (.obT (.rc)))
   (.next)))))
   (.exit (.call (.brB
   (.obT (.rc))
   (.loop (l2) (fun kk=>((),(),0,big)) fun z0 =>
   .br
   (.ob (.ob (.ob (.call (.brB
   (.exit (.obT (.rc)))
   (.next))))))
   (.exit (.loop (l3) (fun kk=>((),(),(),0,big)) fun z0 =>
   .br
   (.ob (.ob (.call (.brB
   (.exit (.obT (.rc)))
   (.next)))))
   (.exit (.loop (l4) (fun kk=>((),(),(),(),0,big)) fun z0 =>
   .br
   (.ob (.ob (.call (.brB
   (.exit (.obT (.rc)))
   (.next)))))
   (.exit (.call (.brB
   (.obT (.rc))
   (.brB
   (.brB
   (.obT (.rc))
   (.brB
   (.br
   (.obT (.rc))
   (.obT (.rc)))
   (.call (.obT (.rc)))))
   (.brB
   (.br
   (.obT (.rc))
   (.obT (.rc)))
   (.call (.obT (.rc))))))))))))))))
  exact⟨by kernel_rfl,(fun _ id _=>match id with
   |0=>l0.li
   |2=>l1.li
   |4=>l2.li
   |6=>l3.li
   |8=>l4.li
   |_=>none),Sk.vd ho (.ob (.ob (.call (.brB
   (.obT (.rc))
   (.brB
   (.obT (.rc))
   (.loop (l0) (fun kk=>((0:Int),big)) fun z0 =>
   .br
   (.ob (.ob (.brB
   (.exit (.obT (.rc)))
   (.next))))
   (.exit (.call (.brB
   (.obT (.rc))
   (.brB
   (.brB
   (.brB
   (.call (.brB
   (.obT (.rc))
   (.brB
   (.obT (.rc))
   (.brB
   (.obT (.rc))
   (p2)))))
   (.call (.brB
   (.obT (.rc))
   (.brB
   (.obT (.rc))
   (.brB
   (.obT (.rc))
   (p2))))))
   (.brB
   (.call (.brB
   (.obT (.rc))
   (.brB
   (.obT (.rc))
   (.brB
   (.obT (.rc))
   (p2)))))
   (.call (.brB
   (.obT (.rc))
   (.brB
   (.obT (.rc))
   (.brB
   (.obT (.rc))
   (p2)))))))
   (.brB
   (.brB
   (.call (.brB
   (.obT (.rc))
   (.brB
   (.obT (.rc))
   (.brB
   (.obT (.rc))
   (p2)))))
   (.call (.brB
   (.obT (.rc))
   (.brB
   (.obT (.rc))
   (.brB
   (.obT (.rc))
   (p2))))))
   (.brB
   (.call (.brB
   (.obT (.rc))
   (.brB
   (.obT (.rc))
   (.brB
   (.obT (.rc))
   (p2)))))
   (.call (.brB
   (.obT (.rc))
   (.brB
   (.obT (.rc))
   (.brB
   (.obT (.rc))
   (p2))))))))))))))))) (by kernel_rfl)⟩
 ·cases h)
end Go.Sh
end

section
namespace Go.Sh
open Go Go.Proofs Go.RowKit Go.Sx
open Go.IntKind (wrap)
set_option maxRecDepth 100000
def joy:List SV:=[.a [.d,.x (.st zS [])]]
def y77 (u5:zY) (u1:List (List NC)) (x0:Int):Option (Int ⊕ ((Int × Int) ⊕ Unit)) :=
 if x0<(↑u1.length:Int)then
  ze (jqW u5 u1 x0) fun r1 =>
  if(r1 != 0)=true then
  some (.inr ((.inl (x0,r1))))
  else
  some (.inl (wrap .i64 (x0+1)))
 else some (.inr ((.inr ())))
def jkC (u3:Int × Int):Option (Int × Int) :=some (u3.1,u3.2)
def jkD (u4:Unit):Option (Int × Int) :=some (((0:Int),0))
def jfF:((Int × Int) ⊕ Unit)->Option (Int × Int) :=(qy (jkC) (jkD))
def y83 (u5:zY) (u1:List (List NC)):Option (Int × Int) :=
 ze (jcX u5) fun r0 =>
 if(!r0)=true then some (((0:Int),4))
 else if(↑u1.length:Int)>24 then some (((0:Int),8))
  else
  ze (jae (y77 u5 u1) big (0:Int)) (jfF)
def jgt:List Lf->Option GT|[.d (.s u5),.x (.st [.s,.i .i64,.ints .i64,.ints .i64,.ints .i64,.i .i64,.recs 5,.i .i64] u1)]=>some (.leaf (ok (y83 u5 u1)) [.c (.d (.i .i64 ((val (y83 u5 u1)).1))),.c (.d (.i .i64 ((val (y83 u5 u1)).2)))])|_=>none
abbrev sp_21:jab->jab:=jal 21 true (jak joy jgt)
def sp_21_ok:KO sp_21:=jag (kT (sp_81_ok (sp_82_ok jaf)) Tryz.func21 (by kernel_rfl) fun ls t h ho=>by
 unfold jgt at h;split at h
 ·rename_i u5 u1;cases h;have ho:=jad ho
  generalize val (y83 u5 u1)=r at ho ⊢
  let l0:=lp0 (y77 u5 u1) jfF r fun z=>⟨[(1,.w (.c (.p 1 0 1 0))),(4,.w (.c (.d (.i .i64 z.1))))],[(1,.box 24 [.d (.s u5),.o 0]),(0,.xext (XC.st zS u1))],2⟩
  exact⟨by kernel_rfl,(fun _ id _=>match id with
   |0=>l0.li
   |_=>none),Sk.vd ho (.call (.brB
   (.obT (.obT (.rc)))
   (.br
   (.obT (.obT (.rc)))
   (.loop (l0) (fun kk=>((0:Int),big)) fun z0 =>
   .br
   (.call (.brB
   (.exit (.obT (.obT (.rc))))
   (.next)))
   (.exit (.obT (.obT (.rc)))))))) (by kernel_rfl)⟩
 ·cases h)
def jwf:List SV:=[.a [.d,.d,.r (.ints .i64 []),.r (.ints .i64 []),.r (.ints .i64 []),.d,.r (.recs 5 []),.d],.c (.d)]
def jec (u34:zY) (u17:Int) (u21 u19 u16:List Int) (u18:Int) (u35:List (List Int)) (u36 u68:Int):Option Bool :=
 ze (jfW u21 u68) fun r0 =>
 if(r0)=true then some true
 else some (u36==u68)
def jnJ:List Lf->Option GT|[.d (.s u34),.d (.i .i64 u17),.r (.ints .i64 u21),.r (.ints .i64 u19),.r (.ints .i64 u16),.d (.i .i64 u18),.r (.recs 5 u35),.d (.i .i64 u36),.d (.i .i64 u68)]=>some (.leaf (ok (jec u34 u17 u21 u19 u16 u18 u35 u36 u68)) [.c (.d (.b ((val (jec u34 u17 u21 u19 u16 u18 u35 u36 u68)))))])|_=>none
abbrev sp_87:jab->jab:=jal 87 true (jak jwf jnJ)
def sp_87_ok:KO sp_87:=jag (kT (sp_48_ok jaf) Tryz.func87 (by kernel_rfl) fun ls t h ho=>by
 unfold jnJ at h;split at h
 ·rename_i u34 u17 u21 u19 u16 u18 u35 u36 u68;cases h;have ho:=jad ho
  generalize val (jec u34 u17 u21 u19 u16 u18 u35 u36 u68)=r at ho ⊢
  exact⟨by kernel_rfl,fun _ _ _=>none,Sk.vd ho (.call (.brB
   (.obT (.rc))
   (.obT (.rc)))) (by kernel_rfl)⟩
 ·cases h)
def jwg:List SV:=[.a [.d,.x (.st zS [])],.c (.r (.ints .i64 [])),.c (.d)]
def jqX (u1:List (List NC)) (u57:List Int) (u33 x0:Int):Option (Int ⊕ (Unit ⊕ Unit)) :=
 if x0<(↑u1.length:Int)then if 0<=u33∧u33<(↑u1.length:Int)then
  if zf u33<za u1 then
   ze (jec (nS u1 u33.toNat (0:Nat)) (nI u1 u33.toNat (1:Nat)) (nL u1 u33.toNat (2:Nat)) (nL u1 u33.toNat (3:Nat)) (nL u1 u33.toNat (4:Nat)) (nI u1 u33.toNat (5:Nat)) (nR u1 u33.toNat (6:Nat)) (nI u1 u33.toNat (7:Nat)) x0) fun r0 =>
   if(r0)=true then
   ze (jfW u57 x0) fun r1 =>
   if(!r1)=true then some (.inr ((.inl ())))
   else some (.inl (wrap .i64 (x0+1)))
   else
   some (.inl (wrap .i64 (x0+1)))
  else none
  else none
 else some (.inr ((.inr ())))
def jqY (u3:Unit):Option Bool :=some false
def jqZ (u4:Unit):Option Bool :=some true
def jlw:(Unit ⊕ Unit)->Option Bool :=(qy (jqY) (jqZ))
def jed (u5:zY) (u1:List (List NC)) (u57:List Int) (u33:Int):Option Bool :=ze (jae (jqX u1 u57 u33) big (0:Int)) (jlw)
def jnK:List Lf->Option GT|[.d (.s u5),.x (.st [.s,.i .i64,.ints .i64,.ints .i64,.ints .i64,.i .i64,.recs 5,.i .i64] u1),.r (.ints .i64 u57),.d (.i .i64 u33)]=>some (.leaf (ok (jed u5 u1 u57 u33)) [.c (.d (.b ((val (jed u5 u1 u57 u33)))))])|_=>none
abbrev sp_83:jab->jab:=jal 83 true (jak jwg jnK)
def sp_83_ok:KO sp_83:=jag (kT (sp_87_ok (sp_48_ok jaf)) Tryz.func83 (by kernel_rfl) fun ls t h ho=>by
 unfold jnK at h;split at h
 ·rename_i u5 u1 u57 u33;cases h;have ho:=jad ho
  generalize val (jed u5 u1 u57 u33)=r at ho ⊢
  let l0:=lp0 (jqX u1 u57 u33) jlw r fun z=>⟨[(1,.w (.c (.o 1))),(2,.w (.c (.d (.i .i64 u33)))),(3,.w (.c (.p 2 0 1 0))),(7,.w (.c (.d (.i .i64 z.1))))],[(1,.ext (.ints .i64 u57)),(2,.box 24 [.d (.s u5),.o 0]),(0,.xext (XC.st zS u1))],3⟩
  exact⟨by kernel_rfl,(fun _ id _=>match id with
   |0=>l0.li
   |_=>none),Sk.vd ho (.loop (l0) (fun kk=>((0:Int),big)) fun z0 =>
   .br
   (.ob (.ob (.call (.brB
   (.call (.brB
   (.exit (.obT (.rc)))
   (.next)))
   (.next)))))
   (.exit (.obT (.rc)))) (by kernel_rfl)⟩
 ·cases h)
def jwh:List SV:=[.a [.d,.x (.st zS [])]]
def joz (u5:zY) (u1:List (List NC)) (x0:List Int) (x1:(Int × Int)):Option ((Int × Int) ⊕ Int) :=
 if x1.2>=0 then
  ze (jfW x0 x1.2) fun r0 =>
  if(!r0)=true then
  ze (jed u5 u1 x0 x1.2) fun r1 =>
  if(r1)=true then some (.inl ((x1.2,wrap .i64 (x1.2-1))))
  else some (.inl ((x1.1,wrap .i64 (x1.2-1))))
  else
  some (.inl ((x1.1,wrap .i64 (x1.2-1))))
 else some (.inr x1.1)
def jgu (x0:List Int) (u7:Int):Option ((List Int) ⊕ (Unit ⊕ (List Int))) :=
 if u7<0 then some (.inr ((.inl ())))
 else if(za x0+za [u7])*8<=140737488355328∧za x0+za [u7]<=9223372036854775807 then some (.inl (x0++[u7]))
  else none
def juH (u5:zY) (u1:List (List NC)) (x0:(List Int)):Option ((List Int) ⊕ (Unit ⊕ (List Int))) :=
 if(↑x0.length:Int)<(↑u1.length:Int)then ze (jae (joz u5 u1 x0) big (((-1:Int),wrap .i64 ((↑u1.length:Int)-1)))) (jgu x0)
 else some (.inr (.inr x0))
def jq0 (u3:Unit):Option (List Int × Bool) :=some ([],false)
def jq1 (u4:List Int):Option (List Int × Bool) :=some (u4,true)
def jlx:(Unit ⊕ (List Int))->Option (List Int × Bool) :=(qy (jq0) (jq1))
def jdp (u5:zY) (u1:List (List NC)):Option (List Int × Bool) :=ze (jae (juH u5 u1) big []) (jlx)
def jnL:List Lf->Option GT|[.d (.s u5),.x (.st [.s,.i .i64,.ints .i64,.ints .i64,.ints .i64,.i .i64,.recs 5,.i .i64] u1)]=>some (.leaf (ok (jdp u5 u1)) [.c (.row 3 (.ints .i64 ((val (jdp u5 u1)).1))),.c (.d (.b ((val (jdp u5 u1)).2)))])|_=>none
abbrev sp_23:jab->jab:=jal 23 true (jak jwh jnL)
def sp_23_ok:KO sp_23:=jag (kT (sp_48_ok (sp_83_ok jaf)) Tryz.func23 (by kernel_rfl) fun ls t h ho=>by
 unfold jnL at h;split at h
 ·rename_i u5 u1;cases h;have ho:=jad ho
  generalize val (jdp u5 u1)=r at ho ⊢
  let l0:=lp0 (juH u5 u1) jlx r fun z=>⟨[(1,.w (.c (.p 1 0 1 0))),(4,.w (.c (.o 2)))],[(1,.box 24 [.d (.s u5),.o 0]),(2,.row 3 (.ints .i64 z.1)),(0,.xext (XC.st zS u1))],3⟩
  let l1 (m1:Nat):Lp (List Int × Nat × (Int × Int) × Nat) (Int × Int) Int (((List Int) ⊕ (Unit ⊕ (List Int)))) (List Int × Bool):=⟨fun z=>z.2.2.1,fun z=>z.2.2.2,fun z x n=>(z.1,z.2.1,x,n),fun z=>joz u5 u1 z.1,fun z=>jgu z.1,fun z=>(l0).cx (z.1,m1),fun z=>z.2.1,fun z=>⟨[(1,.w (.c (.p 1 0 1 0))),(4,.w (.c (.o 2))),(5,.w (.c (.d (.i .i64 z.2.2.1.1)))),(6,.w (.c (.d (.i .i64 z.2.2.1.2))))],[(1,.box 24 [.d (.s u5),.o 0]),(2,.row 3 (.ints .i64 z.1)),(0,.xext (XC.st zS u1))],3⟩⟩
  exact⟨by kernel_rfl,(fun gs id _=>match id with
   |0=>l0.li
   |2=>(l1 (gs.getD 0 0)).li
   |_=>none),Sk.vd ho ((.loopQ (l0) [.c fun _=>0,.c fun _=>u5,.p fun vv=>za vv.1=(0:Nat),.c fun _=>u1] (fun kk=>([],big)) (fun z0 =>
   .br
   (.loop (l1 z0.2) (fun kk=>(z0.1,kk,((-1:Int),wrap .i64 ((↑u1.length:Int)-1)),big)) fun z1 =>
   .br
   (.call (.brB
   (.call (.brB
   (.next)
   (.next)))
   (.next)))
   (.exit (.br
   (.exit (.obT (.obT (.ret (fun r=>(Ob (za r.1=(0:Nat)) ∧
 (Ob (false=r.2) ∧
 True))) ⟨⟨rfl⟩,⟨⟨rfl⟩,trivial⟩⟩))))
   (.ob (.next)))))
   (.exit (.obT (.obT (.rc))))) (fun _=>⟨rfl,trivial⟩))) (by kernel_rfl)⟩
 ·cases h)
def jq2:List SV:=[.a [.d,.x (.st zS [])]]
def jq3 (u5:zY) (u1:List (List NC)):Option Int :=
 ze (y83 u5 u1) fun r0 =>
 if(r0.2 != 0)=true then some r0.2
 else
  ze (jdp u5 u1) fun r1 =>
  if(!r1.2)=true then
  some (19:Int)
  else
  some (0:Int)
def jiG:List Lf->Option GT|[.d (.s u5),.x (.st [.s,.i .i64,.ints .i64,.ints .i64,.ints .i64,.i .i64,.recs 5,.i .i64] u1)]=>some (.leaf (ok (jq3 u5 u1)) [.c (.d (.i .i64 ((val (jq3 u5 u1)))))])|_=>none
abbrev sp_22:jab->jab:=jal 22 true (jak jq2 jiG)
def sp_22_ok:KO sp_22:=jag (kT (sp_21_ok (sp_23_ok jaf)) Tryz.func22 (by kernel_rfl) fun ls t h ho=>by
 unfold jiG at h;split at h
 ·rename_i u5 u1;cases h;have ho:=jad ho
  generalize val (jq3 u5 u1)=r at ho ⊢
  exact⟨by kernel_rfl,fun _ _ _=>none,Sk.vd ho (.call (.brB
   (.obT (.rc))
   (.call (.brB
   (.obT (.rc))
   (.obT (.rc)))))) (by kernel_rfl)⟩
 ·cases h)
end Go.Sh
end

section
namespace Go.Sh
open Go Go.Proofs Go.RowKit Go.Sx
open Go.IntKind (wrap)
set_option maxRecDepth 100000
def jzF:List (Option Cont):=[some (.ints .i64 [])]
def y94 (l:List Int) (x0:Int):Option (Int ⊕ (Int ⊕ Unit)) :=
 if x0<(↑l.length:Int)then if 0<=x0∧x0<(↑l.length:Int)then
  if zf x0<za l then if(zb l x0.toNat (0:Int)!=0)=true then some (.inr ((.inl (zb l x0.toNat (0:Int)))))
   else
   some (.inl (wrap .i64 (x0+1)))
  else none
  else none
 else some (.inr ((.inr ())))
def juI (u3:Int):Option Int :=some u3
def juJ (u4:Unit):Option Int :=some (0:Int)
def jpW:(Int ⊕ Unit)->Option Int :=(qy (juI) (juJ))
def jcH (l:List Int):Option Int :=ze (jae (y94 l) big (0:Int)) (jpW)
def jse:List A->Option (Prop × List RV)|[.r (.ints .i64 l)]=>some (ok (jcH l),[.d (.i .i64 ((val (jcH l))))])|_=>none
abbrev sp_76:jab->jab:=jal 76 true (jaK jzF jse)
def sp_76_ok:KO sp_76:=jag (kK jaf Tryz.func76 (by kernel_rfl) fun as_ ob rs h ho=>by
 unfold jse at h;split at h
 ·rename_i l;cases h;have ho:=jad ho
  generalize val (jcH l)=r at ho ⊢
  let l0:=lp0 (y94 l) jpW r fun z=>⟨[(5,.w (.c (.o 0))),(6,.w (.c (.d (.i .i64 ((↑l.length:Int)))))),(7,.w (.c (.d (.i .i64 z.1))))],[(0,.ext (.ints .i64 l))],1⟩
  exact⟨by kernel_rfl,(fun _ id _=>match id with
   |0=>l0.li
   |_=>none),Sk.vd ho (.loop (l0) (fun kk=>((0:Int),big)) fun z0 =>
   .br
   (.ob (.ob (.brB
   (.exit (.obT (.rc)))
   (.next))))
   (.exit (.obT (.rc)))) (by kernel_rfl)⟩
 ·cases h)
def jyf:List (Option Cont):=[none]
def jq4 (s:zY) (x0:Int):Option (Int ⊕ (Unit ⊕ Unit)) :=
 if x0<(↑(yp s):Int)then if 0<=x0∧x0<(↑(yp s):Int)then
  if(↑(qG (qQ (qi s) x0.toNat (0:UInt8))):Int)>=97 then if(↑(qG (qQ (qi s) x0.toNat (0:UInt8))):Int)<=122 then some (.inl (wrap .i64 (x0+1)))
   else
   if(↑(qG (qQ (qi s) x0.toNat (0:UInt8))):Int)>=65 then if(!decide ((↑(qG (qQ (qi s) x0.toNat (0:UInt8))):Int)<=90))=true then
    if(x0==0)=true then some (.inr ((.inl ())))
    else if((↑(qG (qQ (qi s) x0.toNat (0:UInt8))):Int)!=45)=true then
     if(↑(qG (qQ (qi s) x0.toNat (0:UInt8))):Int)<48 then some (.inr ((.inl ())))
     else if(↑(qG (qQ (qi s) x0.toNat (0:UInt8))):Int)>57 then some (.inr ((.inl ())))
      else
      some (.inl (wrap .i64 (x0+1)))
     else
     some (.inl (wrap .i64 (x0+1)))
    else
    some (.inl (wrap .i64 (x0+1)))
   else if(x0==0)=true then some (.inr ((.inl ())))
    else
    if((↑(qG (qQ (qi s) x0.toNat (0:UInt8))):Int)!=45)=true then if(↑(qG (qQ (qi s) x0.toNat (0:UInt8))):Int)<48 then some (.inr ((.inl ())))
     else
     if(↑(qG (qQ (qi s) x0.toNat (0:UInt8))):Int)>57 then some (.inr ((.inl ())))
     else some (.inl (wrap .i64 (x0+1)))
    else some (.inl (wrap .i64 (x0+1)))
  else if(↑(qG (qQ (qi s) x0.toNat (0:UInt8))):Int)>=65 then
   if(!decide ((↑(qG (qQ (qi s) x0.toNat (0:UInt8))):Int)<=90))=true then if(x0==0)=true then some (.inr ((.inl ())))
    else
    if((↑(qG (qQ (qi s) x0.toNat (0:UInt8))):Int)!=45)=true then if(↑(qG (qQ (qi s) x0.toNat (0:UInt8))):Int)<48 then some (.inr ((.inl ())))
     else
     if(↑(qG (qQ (qi s) x0.toNat (0:UInt8))):Int)>57 then some (.inr ((.inl ())))
     else some (.inl (wrap .i64 (x0+1)))
    else some (.inl (wrap .i64 (x0+1)))
   else some (.inl (wrap .i64 (x0+1)))
   else
   if(x0==0)=true then some (.inr ((.inl ())))
   else if((↑(qG (qQ (qi s) x0.toNat (0:UInt8))):Int)!=45)=true then
    if(↑(qG (qQ (qi s) x0.toNat (0:UInt8))):Int)<48 then some (.inr ((.inl ())))
    else if(↑(qG (qQ (qi s) x0.toNat (0:UInt8))):Int)>57 then some (.inr ((.inl ())))
     else
     some (.inl (wrap .i64 (x0+1)))
    else
    some (.inl (wrap .i64 (x0+1)))
  else none
 else some (.inr ((.inr ())))
def jsZ (s:zY) (u3:Unit):Option Bool :=some false
def js0 (s:zY) (u4:Unit):Option Bool :=
 if(s != xd #[])=true then some (decide ((↑(yp s):Int)<=12))
 else some false
def jnM (s:zY):(Unit ⊕ Unit)->Option Bool :=(qy (jsZ s) (js0 s))
def jh0 (s:zY):Option Bool :=ze (jae (jq4 s) big (0:Int)) (jnM s)
def jpX:List A->Option (Prop × List RV)|[.d (.s s)]=>some (ok (jh0 s),[.d (.b ((val (jh0 s))))])|_=>none
abbrev sp_78:jab->jab:=jal 78 true (jaK jyf jpX)
def sp_78_ok:KO sp_78:=jag (kK jaf Tryz.func78 (by kernel_rfl) fun as_ ob rs h ho=>by
 unfold jpX at h;split at h
 ·rename_i s;cases h;have ho:=jad ho
  generalize val (jh0 s)=r at ho ⊢
  let l0:=lp0 (jq4 s) (jnM s) r fun z=>⟨[(0,.w (.c (.d (.s s)))),(7,.w (.c (.d (.i .i64 ((↑(yp s):Int)))))),(8,.w (.c (.d (.i .i64 z.1))))],[],1⟩
  exact⟨by kernel_rfl,(fun _ id _=>match id with
   |0=>l0.li
   |_=>none),Sk.vd ho ((.loop (l0) (fun kk=>((0:Int),big)) fun z0 =>
   .br
   (.ob (.br
   (.br
   (.next)
   (.br
   (.brB
   (.brB
   (.exit (.obT (.rc)))
   (.brB
   (.br
   (.exit (.obT (.rc)))
   (.br
   (.exit (.obT (.rc)))
   (.next)))
   (.next)))
   (.next))
   (.brB
   (.exit (.obT (.rc)))
   (.brB
   (.br
   (.exit (.obT (.rc)))
   (.br
   (.exit (.obT (.rc)))
   (.next)))
   (.next)))))
   (.br
   (.brB
   (.brB
   (.exit (.obT (.rc)))
   (.brB
   (.br
   (.exit (.obT (.rc)))
   (.br
   (.exit (.obT (.rc)))
   (.next)))
   (.next)))
   (.next))
   (.brB
   (.exit (.obT (.rc)))
   (.brB
   (.br
   (.exit (.obT (.rc)))
   (.br
   (.exit (.obT (.rc)))
   (.next)))
   (.next))))))
   (.exit (.brB
   (.obT (.rc))
   (.obT (.rc)))))) (by kernel_rfl)⟩
 ·cases h)
def js1:List SV:=[.c (.d),.c (.p [.d,.x (.st zS [])])]
def jly (n:Int) (u58:zY) (u69:List (List NC)):Option Bool :=
 ze (y34 n (0:Int) (wrap .i64 ((↑u69.length:Int)-1))) fun r0 =>
 some r0
def jke:List Lf->Option GT|[.d (.i .i64 n),.d (.s u58),.x (.st [.s,.i .i64,.ints .i64,.ints .i64,.ints .i64,.i .i64,.recs 5,.i .i64] u69)]=>some (.leaf (ok (jly n u58 u69)) [.c (.d (.b ((val (jly n u58 u69)))))])|_=>none
abbrev sp_122:jab->jab:=jal 122 true (jak js1 jke)
def sp_122_ok:KO sp_122:=jag (kT (sp_84_ok jaf) Tryz.func122 (by kernel_rfl) fun ls t h ho=>by
 unfold jke at h;split at h
 ·rename_i n u58 u69;cases h;have ho:=jad ho
  generalize val (jly n u58 u69)=r at ho ⊢
  exact⟨by kernel_rfl,fun _ _ _=>none,Sk.vd ho (.obT (.call (.obT (.rc)))) (by kernel_rfl)⟩
 ·cases h)
def js2:List SV:=[.c (.d),.c (.p [.f 122 [.p [.d,.x (.st zS [])]]])]
def jq5 (n:Int) (u70:zY) (u71:List (List NC)):Option Bool :=
 ze (jly n u70 u71) fun r0 =>
 some !r0
def jkf:List Lf->Option GT|[.d (.i .i64 n),.d (.s u70),.x (.st [.s,.i .i64,.ints .i64,.ints .i64,.ints .i64,.i .i64,.recs 5,.i .i64] u71)]=>some (.leaf (ok (jq5 n u70 u71)) [.c (.d (.b ((val (jq5 n u70 u71)))))])|_=>none
abbrev sp_124:jab->jab:=jal 124 true (jak js2 jkf)
def sp_124_ok:KO sp_124:=jag (kT (sp_122_ok jaf) Tryz.func124 (by kernel_rfl) fun ls t h ho=>by
 unfold jkf at h;split at h
 ·rename_i n u70 u71;cases h;have ho:=jad ho
  generalize val (jq5 n u70 u71)=r at ho ⊢
  exact⟨by kernel_rfl,fun _ _ _=>none,Sk.vd ho (.obT (.call (.obT (.rc)))) (by kernel_rfl)⟩
 ·cases h)
def y247:List SV:=[.c (.r (.ints .i64 [])),.c (.f 124 [.p [.f 122 [.p [.d,.x (.st zS [])]]]])]
def y29 (s:List Int) (u37:zY) (u38:List (List NC)) (x0:Int):Option (Int ⊕ (Int ⊕ Unit)) :=
 if x0<(↑s.length:Int)then if 0<=x0∧x0<(↑s.length:Int)then
  if zf x0<za s then
   ze (jq5 (zb s x0.toNat (0:Int)) u37 u38) fun r0 =>
   if(r0)=true then
   some (.inr (.inl x0))
   else
   some (.inl (wrap .i64 (x0+1)))
  else none
  else none
 else some (.inr ((.inr ())))
def y219 (u3:Int):Option Int :=some u3
def y220 (u4:Unit):Option Int :=some (-1:Int)
def y163:(Int ⊕ Unit)->Option Int :=(qy (y219) (y220))
def y43 (s:List Int) (u37:zY) (u38:List (List NC)):Option Int :=ze (jae (y29 s u37 u38) big (0:Int)) (y163)
def y169:List Lf->Option GT|[.r (.ints .i64 s),.d (.s u37),.x (.st [.s,.i .i64,.ints .i64,.ints .i64,.ints .i64,.i .i64,.recs 5,.i .i64] u38)]=>some (.leaf (ok (y43 s u37 u38)) [.c (.d (.i .i64 ((val (y43 s u37 u38)))))])|_=>none
abbrev sp_156_124:jab->jab:=jal 156 true (jak y247 y169)
def sp_156_124_ok:KO sp_156_124:=jag (kT (sp_124_ok (sp_122_ok jaf)) Tryz.func156 (by kernel_rfl) fun ls t h ho=>by
 unfold y169 at h;split at h
 ·rename_i s u37 u38;cases h;have ho:=jad ho
  generalize val (y43 s u37 u38)=r at ho ⊢
  let l0:=lp0 (y29 s u37 u38) y163 r fun z=>⟨[(0,.w (.c (.o 0))),(1,.w (.c (.fn 124 [3]))),(7,.w (.c (.d (.i .i64 ((↑s.length:Int)))))),(8,.w (.c (.d (.i .i64 z.1))))],[(0,.ext (.ints .i64 s)),(3,.ebox [.fn 122 [2]]),(2,.ebox [.d (.s u37),.o 1]),(1,.xext (XC.st zS u38))],4⟩
  exact⟨by kernel_rfl,(fun _ id _=>match id with
   |0=>l0.li
   |_=>none),Sk.vd ho (.loop (l0) (fun kk=>((0:Int),big)) fun z0 =>
   .br
   (.ob (.ob (.call (.brB
   (.exit (.obT (.rc)))
   (.next)))))
   (.exit (.obT (.rc)))) (by kernel_rfl)⟩
 ·cases h)
def y221:List SV:=[.c (.r (.ints .i64 [])),.c (.f 124 [.p [.f 122 [.p [.d,.x (.st zS [])]]]])]
def y17 (s:List Int) (u37:zY) (u38:List (List NC)):Option Bool :=
 ze (y43 s u37 u38) fun r0 =>
 some (decide (r0>=0))
def y155:List Lf->Option GT|[.r (.ints .i64 s),.d (.s u37),.x (.st [.s,.i .i64,.ints .i64,.ints .i64,.ints .i64,.i .i64,.recs 5,.i .i64] u38)]=>some (.leaf (ok (y17 s u37 u38)) [.c (.d (.b ((val (y17 s u37 u38)))))])|_=>none
abbrev sp_123_124:jab->jab:=jal 123 true (jak y221 y155)
def sp_123_124_ok:KO sp_123_124:=jag (kT (sp_156_124_ok (sp_124_ok (sp_122_ok jaf))) Tryz.func123 (by kernel_rfl) fun ls t h ho=>by
 unfold y155 at h;split at h
 ·rename_i s u37 u38;cases h;have ho:=jad ho
  generalize val (y17 s u37 u38)=r at ho ⊢
  exact⟨by kernel_rfl,fun _ _ _=>none,Sk.vd ho (.call (.obT (.rc))) (by kernel_rfl)⟩
 ·cases h)
def js3:List SV:=[.a [.d,.d,.r (.ints .i64 []),.r (.ints .i64 []),.r (.ints .i64 []),.d,.r (.recs 5 []),.d],.c (.p [.d,.d,.r (.ints .i64 []),.r (.ints .i64 []),.r (.ints .i64 []),.d,.r (.recs 5 []),.d])]
def jq6 (u72:zY) (u73:Int) (u74 u75 u76:List Int) (u77:Int) (u78:List (List Int)) (u79:Int) (u58:zY) (u80:Int) (u81 u82 u83:List Int) (u84:Int) (u85:List (List Int)) (u86:Int):Option Bool :=some (u72==u58)
def jkg:List Lf->Option GT|[.d (.s u72),.d (.i .i64 u73),.r (.ints .i64 u74),.r (.ints .i64 u75),.r (.ints .i64 u76),.d (.i .i64 u77),.r (.recs 5 u78),.d (.i .i64 u79),.d (.s u58),.d (.i .i64 u80),.r (.ints .i64 u81),.r (.ints .i64 u82),.r (.ints .i64 u83),.d (.i .i64 u84),.r (.recs 5 u85),.d (.i .i64 u86)]=>some (.leaf (ok (jq6 u72 u73 u74 u75 u76 u77 u78 u79 u58 u80 u81 u82 u83 u84 u85 u86)) [.c (.d (.b ((val (jq6 u72 u73 u74 u75 u76 u77 u78 u79 u58 u80 u81 u82 u83 u84 u85 u86)))))])|_=>none
abbrev sp_126:jab->jab:=jal 126 true (jak js3 jkg)
def sp_126_ok:KO sp_126:=jag (kT jaf Tryz.func126 (by kernel_rfl) fun ls t h ho=>by
 unfold jkg at h;split at h
 ·rename_i u72 u73 u74 u75 u76 u77 u78 u79 u58 u80 u81 u82 u83 u84 u85 u86;cases h;have ho:=jad ho
  generalize val (jq6 u72 u73 u74 u75 u76 u77 u78 u79 u58 u80 u81 u82 u83 u84 u85 u86)=r at ho ⊢
  exact⟨by kernel_rfl,fun _ _ _=>none,Sk.vd ho (.obT (.obT (.rc))) (by kernel_rfl)⟩
 ·cases h)
def y192:List SV:=[.c (.x (.st zS [])),.c (.f 126 [.p [.d,.d,.r (.ints .i64 []),.r (.ints .i64 []),.r (.ints .i64 []),.d,.r (.recs 5 []),.d]])]
def y14 (s:List (List NC)) (u39:zY) (u40:Int) (u41 u42 u43:List Int) (u44:Int) (u45:List (List Int)) (u46 x0:Int):Option (Int ⊕ (Int ⊕ Unit)) :=
 if x0<(↑s.length:Int)then if 0<=x0∧x0<(↑s.length:Int)then
  if zf x0<za s then
   ze (jq6 (nS s x0.toNat (0:Nat)) (nI s x0.toNat (1:Nat)) (nL s x0.toNat (2:Nat)) (nL s x0.toNat (3:Nat)) (nL s x0.toNat (4:Nat)) (nI s x0.toNat (5:Nat)) (nR s x0.toNat (6:Nat)) (nI s x0.toNat (7:Nat)) u39 u40 u41 u42 u43 u44 u45 u46) fun r0 =>
   if(r0)=true then
   some (.inr (.inl x0))
   else
   some (.inl (wrap .i64 (x0+1)))
  else none
  else none
 else some (.inr ((.inr ())))
def y185 (u3:Int):Option Int :=some u3
def y186 (u4:Unit):Option Int :=some (-1:Int)
def y117:(Int ⊕ Unit)->Option Int :=(qy (y185) (y186))
def y22 (s:List (List NC)) (u39:zY) (u40:Int) (u41 u42 u43:List Int) (u44:Int) (u45:List (List Int)) (u46:Int):Option Int :=ze (jae (y14 s u39 u40 u41 u42 u43 u44 u45 u46) big (0:Int)) (y117)
def y123:List Lf->Option GT|[.x (.st [.s,.i .i64,.ints .i64,.ints .i64,.ints .i64,.i .i64,.recs 5,.i .i64] s),.d (.s u39),.d (.i .i64 u40),.r (.ints .i64 u41),.r (.ints .i64 u42),.r (.ints .i64 u43),.d (.i .i64 u44),.r (.recs 5 u45),.d (.i .i64 u46)]=>some (.leaf (ok (y22 s u39 u40 u41 u42 u43 u44 u45 u46)) [.c (.d (.i .i64 ((val (y22 s u39 u40 u41 u42 u43 u44 u45 u46)))))])|_=>none
abbrev sp_157_126:jab->jab:=jal 157 true (jak y192 y123)
def sp_157_126_ok:KO sp_157_126:=jag (kT (sp_126_ok jaf) Tryz.func157 (by kernel_rfl) fun ls t h ho=>by
 unfold y123 at h;split at h
 ·rename_i s u39 u40 u41 u42 u43 u44 u45 u46;cases h;have ho:=jad ho
  generalize val (y22 s u39 u40 u41 u42 u43 u44 u45 u46)=r at ho ⊢
  let l0:=lp0 (y14 s u39 u40 u41 u42 u43 u44 u45 u46) y117 r fun z=>⟨[(0,.w (.c (.o 0))),(1,.w (.c (.fn 126 [5]))),(7,.w (.c (.d (.i .i64 ((↑s.length:Int)))))),(8,.w (.c (.d (.i .i64 z.1))))],[(0,.xext (XC.st zS s)),(5,.ebox [.d (.s u39),.d (.i .i64 u40),.o 1,.o 2,.o 3,.d (.i .i64 u44),.o 4,.d (.i .i64 u46)]),(1,.ext (.ints .i64 u41)),(2,.ext (.ints .i64 u42)),(3,.ext (.ints .i64 u43)),(4,.ext (.recs 5 u45))],6⟩
  exact⟨by kernel_rfl,(fun _ id _=>match id with
   |0=>l0.li
   |_=>none),Sk.vd ho ((.loop (l0) (fun kk=>((0:Int),big)) fun z0 =>
   .br
   (.ob (.ob (.call (.brB
   (.exit (.obT (.rc)))
   (.next)))))
   (.exit (.obT (.rc))))) (by kernel_rfl)⟩
 ·cases h)
def y187:List SV:=[.c (.x (.st zS [])),.c (.f 126 [.p [.d,.d,.r (.ints .i64 []),.r (.ints .i64 []),.r (.ints .i64 []),.d,.r (.recs 5 []),.d]])]
def y9 (s:List (List NC)) (u39:zY) (u40:Int) (u41 u42 u43:List Int) (u44:Int) (u45:List (List Int)) (u46:Int):Option Bool :=
 ze (y22 s u39 u40 u41 u42 u43 u44 u45 u46) fun r0 =>
 some (decide (r0>=0))
def y97:List Lf->Option GT|[.x (.st [.s,.i .i64,.ints .i64,.ints .i64,.ints .i64,.i .i64,.recs 5,.i .i64] s),.d (.s u39),.d (.i .i64 u40),.r (.ints .i64 u41),.r (.ints .i64 u42),.r (.ints .i64 u43),.d (.i .i64 u44),.r (.recs 5 u45),.d (.i .i64 u46)]=>some (.leaf (ok (y9 s u39 u40 u41 u42 u43 u44 u45 u46)) [.c (.d (.b ((val (y9 s u39 u40 u41 u42 u43 u44 u45 u46)))))])|_=>none
abbrev sp_125_126:jab->jab:=jal 125 true (jak y187 y97)
def sp_125_126_ok:KO sp_125_126:=jag (kT (sp_157_126_ok (sp_126_ok jaf)) Tryz.func125 (by kernel_rfl) fun ls t h ho=>by
 unfold y97 at h;split at h
 ·rename_i s u39 u40 u41 u42 u43 u44 u45 u46;cases h;have ho:=jad ho
  generalize val (y9 s u39 u40 u41 u42 u43 u44 u45 u46)=r at ho ⊢
  exact⟨by kernel_rfl,fun _ _ _=>none,Sk.vd ho (.call (.obT (.rc))) (by kernel_rfl)⟩
 ·cases h)
def jlz:List (Option Cont):=[some (.ints .i64 []),none]
def y20 (s:List Int) (v x0:Int):Option (Int ⊕ (Int ⊕ Unit)) :=
 if x0<(↑s.length:Int)then if 0<=x0∧x0<(↑s.length:Int)then
  if zf x0<za s then if(v==zb s x0.toNat (0:Int))=true then some (.inr (.inl x0))
   else
   some (.inl (wrap .i64 (x0+1)))
  else none
  else none
 else some (.inr ((.inr ())))
def jiH (u3:Int):Option Int :=some u3
def jiI (u4:Unit):Option Int :=some (-1:Int)
def y227:(Int ⊕ Unit)->Option Int :=(qy (jiH) (jiI))
def y44 (s:List Int) (v:Int):Option Int :=ze (jae (y20 s v) big (0:Int)) (y227)
def y236:List A->Option (Prop × List RV)|[.r (.ints .i64 s),.d (.i .i64 v)]=>some (ok (y44 s v),[.d (.i .i64 ((val (y44 s v))))])|_=>none
abbrev sp_134:jab->jab:=jal 134 true (jaK jlz y236)
def sp_134_ok:KO sp_134:=jag (kK jaf Tryz.func134 (by kernel_rfl) fun as_ ob rs h ho=>by
 unfold y236 at h;split at h
 ·rename_i s v;cases h;have ho:=jad ho
  generalize val (y44 s v)=r at ho ⊢
  let l0:=lp0 (y20 s v) y227 r fun z=>⟨[(0,.w (.c (.o 0))),(1,.w (.c (.d (.i .i64 v)))),(7,.w (.c (.d (.i .i64 ((↑s.length:Int)))))),(8,.w (.c (.d (.i .i64 z.1))))],[(0,.ext (.ints .i64 s))],2⟩
  exact⟨by kernel_rfl,(fun _ id _=>match id with
   |0=>l0.li
   |_=>none),Sk.vd ho (.loop (l0) (fun kk=>((0:Int),big)) fun z0 =>
   .br
   (.ob (.ob (.brB
   (.exit (.obT (.rc)))
   (.next))))
   (.exit (.obT (.rc)))) (by kernel_rfl)⟩
 ·cases h)
def jiJ:List (Option Cont):=[some (.ints .i64 []),none]
def y56 (s:List Int) (v:Int):Option Bool :=
 ze (y44 s v) fun r0 =>
 some (decide (r0>=0))
def y207:List A->Option (Prop × List RV)|[.r (.ints .i64 s),.d (.i .i64 v)]=>some (ok (y56 s v),[.d (.b ((val (y56 s v))))])|_=>none
abbrev sp_158:jab->jab:=jal 158 true (jaK jiJ y207)
def sp_158_ok:KO sp_158:=jag (kK (sp_134_ok jaf) Tryz.func158 (by kernel_rfl) fun as_ ob rs h ho=>by
 unfold y207 at h;split at h
 ·rename_i s v;cases h;have ho:=jad ho
  generalize val (y56 s v)=r at ho ⊢
  exact⟨by kernel_rfl,fun _ _ _=>none,Sk.vd ho (.call (.obT (.rc))) (by kernel_rfl)⟩
 ·cases h)
def jwi:List (Option Cont):=[some (.ints .i64 [])]
def jq7 (l:List Int) (x0:Int):Option (Int ⊕ (Unit ⊕ Unit)) :=
 if x0<(↑l.length:Int)then if 0<=x0∧x0<(↑l.length:Int)then
  if zf x0<za l then if 0<=z8 none (0:Int)∧z8 none 0<=z8 (some x0) (↑l.length:Int)∧z8 (some x0) (↑l.length:Int)<=(↑l.length:Int)then
   ze (y56 (je (zf (z8 (some x0) (↑l.length:Int))-0) (jf (0:Nat) l)) (zb l x0.toNat (0:Int))) fun r0 =>
   if(r0)=true then some (.inr ((.inl ())))
   else some (.inl (wrap .i64 (x0+1)))
   else none
  else none
  else none
 else some (.inr ((.inr ())))
def jq8 (u3:Unit):Option Bool :=some true
def jq9 (u4:Unit):Option Bool :=some false
def jlA:(Unit ⊕ Unit)->Option Bool :=(qy (jq8) (jq9))
def jdq (l:List Int):Option Bool :=ze (jae (jq7 l) big (0:Int)) (jlA)
def jnN:List A->Option (Prop × List RV)|[.r (.ints .i64 l)]=>some (ok (jdq l),[.d (.b ((val (jdq l))))])|_=>none
abbrev sp_128:jab->jab:=jal 128 true (jaK jwi jnN)
def sp_128_ok:KO sp_128:=jag (kK (sp_158_ok jaf) Tryz.func128 (by kernel_rfl) fun as_ ob rs h ho=>by
 unfold jnN at h;split at h
 ·rename_i l;cases h;have ho:=jad ho
  generalize val (jdq l)=r at ho ⊢
  let l0:=lp0 (jq7 l) jlA r fun z=>⟨[(0,.w (.c (.o 0))),(5,.w (.c (.o 0))),(6,.w (.c (.d (.i .i64 ((↑l.length:Int)))))),(7,.w (.c (.d (.i .i64 z.1))))],[(0,.ext (.ints .i64 l))],1⟩
  exact⟨by kernel_rfl,(fun _ id _=>match id with
   |0=>l0.li
   |_=>none),Sk.vd ho (.loop (l0) (fun kk=>((0:Int),big)) fun z0 =>
   .br
   (.ob (.ob (.ob (.call (.brB
   (.exit (.obT (.rc)))
   (.next))))))
   (.exit (.obT (.rc)))) (by kernel_rfl)⟩
 ·cases h)
def juK:List (Option Cont):=[none]
def jlB (n:Int):Option Bool :=
 ze (y34 n (0:Int) (64:Int)) fun r0 =>
 some r0
def jlC:List A->Option (Prop × List RV)|[.d (.i .i64 n)]=>some (ok (jlB n),[.d (.b ((val (jlB n))))])|_=>none
abbrev sp_159:jab->jab:=jal 159 true (jaK juK jlC)
def sp_159_ok:KO sp_159:=jag (kK (sp_84_ok jaf) Tryz.func159 (by kernel_rfl) fun as_ ob rs h ho=>by
 unfold jlC at h;split at h
 ·rename_i n;cases h;have ho:=jad ho
  generalize val (jlB n)=r at ho ⊢
  exact⟨by kernel_rfl,fun _ _ _=>none,Sk.vd ho (.call (.obT (.rc))) (by kernel_rfl)⟩
 ·cases h)
def jyg:List SV:=[.a [.d,.d,.r (.ints .i64 []),.r (.ints .i64 []),.r (.ints .i64 []),.d,.r (.recs 5 []),.d]]
def jra (u19:List Int) (x0:Int):Option (Int ⊕ (Unit ⊕ Unit)) :=
 if x0<(↑u19.length:Int)then if 0<=x0∧x0<(↑u19.length:Int)then
  if zf x0<za u19 then
   ze (jlB (zb u19 x0.toNat (0:Int))) fun r0 =>
   if(!r0)=true then
   some (.inr ((.inl ())))
   else
   some (.inl (wrap .i64 (x0+1)))
  else none
  else none
 else some (.inr ((.inr ())))
def js4 (u17:Int) (u16:List Int) (u18:Int) (u3:Unit):Option Bool :=some false
def joA (u16:List Int) (x1:Int):Option (Int ⊕ (Unit ⊕ Unit)) :=
 if x1<(↑u16.length:Int)then if 0<=x1∧x1<(↑u16.length:Int)then
  if zf x1<za u16 then
   ze (jeP (zb u16 x1.toNat (0:Int)) (4000:Int)) fun r1 =>
   if(!r1)=true then
   some (.inr ((.inl ())))
   else
   some (.inl (wrap .i64 (x1+1)))
  else none
  else none
 else some (.inr ((.inr ())))
def js5 (u17 u18:Int) (u7:Unit):Option Bool :=some false
def js6 (u17 u18:Int) (u20:Unit):Option Bool :=
 ze (jlB u18) fun r2 =>
 if(r2)=true then if(u17==2)=true then some true
  else
  some (u18==0)
 else some false
def jh1 (u17 u18:Int):(Unit ⊕ Unit)->Option Bool :=(qy (js5 u17 u18) (js6 u17 u18))
def js7 (u17:Int) (u16:List Int) (u18:Int) (u4:Unit):Option Bool :=ze (jae (joA u16) big (0:Int)) (jh1 u17 u18)
def jnO (u17:Int) (u16:List Int) (u18:Int):(Unit ⊕ Unit)->Option Bool :=(qy (js4 u17 u16 u18) (js7 u17 u16 u18))
def jdW (u34:zY) (u17:Int) (u21 u19 u16:List Int) (u18:Int) (u35:List (List Int)) (u36:Int):Option Bool :=ze (jae (jra u19) big (0:Int)) (jnO u17 u16 u18)
def jpY:List Lf->Option GT|[.d (.s u34),.d (.i .i64 u17),.r (.ints .i64 u21),.r (.ints .i64 u19),.r (.ints .i64 u16),.d (.i .i64 u18),.r (.recs 5 u35),.d (.i .i64 u36)]=>some (.leaf (ok (jdW u34 u17 u21 u19 u16 u18 u35 u36)) [.c (.d (.b ((val (jdW u34 u17 u21 u19 u16 u18 u35 u36)))))])|_=>none
abbrev sp_129:jab->jab:=jal 129 true (jak jyg jpY)
def sp_129_ok:KO sp_129:=jag (kT (sp_159_ok (sp_160_ok jaf)) Tryz.func129 (by kernel_rfl) fun ls t h ho=>by
 unfold jpY at h;split at h
 ·rename_i u34 u17 u21 u19 u16 u18 u35 u36;cases h;have ho:=jad ho
  generalize val (jdW u34 u17 u21 u19 u16 u18 u35 u36)=r at ho ⊢
  let l0:=lp0 (jra u19) (jnO u17 u16 u18) r fun z=>⟨[(1,.w (.c (.p 4 0 1 0))),(3,.w (.c (.fn 159 []))),(9,.w (.c (.o 1))),(10,.w (.c (.d (.i .i64 ((↑u19.length:Int)))))),(11,.w (.c (.d (.i .i64 z.1))))],[(4,.box 118 [.d (.s u34),.d (.i .i64 u17),.o 0,.o 1,.o 2,.d (.i .i64 u18),.o 3,.d (.i .i64 u36)]),(1,.ext (.ints .i64 u19)),(0,.ext (.ints .i64 u21)),(2,.ext (.ints .i64 u16)),(3,.ext (.recs 5 u35))],5⟩
  let l1:Lp (Unit × Int × Nat) Int (Unit ⊕ Unit) Bool Bool:=⟨fun z=>z.2.1,fun z=>z.2.2,fun z x n=>((),x,n),fun z=>joA u16,fun z=>jh1 u17 u18,fun z=>top r,fun z=>0,fun z=>⟨[(1,.w (.c (.p 4 0 1 0))),(3,.w (.c (.fn 159 []))),(21,.w (.c (.o 2))),(22,.w (.c (.d (.i .i64 ((↑u16.length:Int)))))),(23,.w (.c (.d (.i .i64 z.2.1))))],[(4,.box 118 [.d (.s u34),.d (.i .i64 u17),.o 0,.o 1,.o 2,.d (.i .i64 u18),.o 3,.d (.i .i64 u36)]),(2,.ext (.ints .i64 u16)),(0,.ext (.ints .i64 u21)),(1,.ext (.ints .i64 u19)),(3,.ext (.recs 5 u35))],5⟩⟩
  exact⟨by kernel_rfl,(fun _ id _=>match id with
   |0=>l0.li
   |2=>l1.li
   |_=>none),Sk.vd ho ((.loop (l0) (fun kk=>((0:Int),big)) fun z0 =>
   .br
   (.ob (.ob (.call (.brB
   (.exit (.obT (.rc)))
   (.next)))))
   (.exit (.loop (l1) (fun kk=>((),0,big)) fun z0 =>
   .br
   (.ob (.ob (.call (.brB
   (.exit (.obT (.rc)))
   (.next)))))
   (.exit (.call (.brB
   (.brB
   (.obT (.rc))
   (.obT (.rc)))
   (.obT (.rc))))))))) (by kernel_rfl)⟩
 ·cases h)
def jyh:List SV:=[.a [.d,.d,.r (.ints .i64 []),.r (.ints .i64 []),.r (.ints .i64 []),.d,.r (.recs 5 []),.d]]
def jdr (u34:zY) (u17:Int) (u21 u19 u16:List Int) (u18:Int) (u35:List (List Int)) (u36:Int):Option Bool :=
 if(u17==0)=true then
  ze (y34 (↑u21.length:Int) (0:Int) (0:Int)) fun r0 =>
  if(r0)=true then
  if((↑u19.length:Int)==(↑u21.length:Int))=true then some ((↑u16.length:Int)==0)
  else some false
  else
  some false
 else if(u17==1)=true then
  ze (y34 (↑u21.length:Int) (1:Int) (6:Int)) fun r1 =>
  if(r1)=true then if((↑u19.length:Int)==(↑u21.length:Int))=true then some ((↑u16.length:Int)==(↑u21.length:Int))
   else
   some false
  else some false
  else
  ze (y34 (↑u21.length:Int) (1:Int) (1:Int)) fun r2 =>
  if(r2)=true then if((↑u19.length:Int)==(↑u21.length:Int))=true then some ((↑u16.length:Int)==0)
   else
   some false
  else some false
def jpZ:List Lf->Option GT|[.d (.s u34),.d (.i .i64 u17),.r (.ints .i64 u21),.r (.ints .i64 u19),.r (.ints .i64 u16),.d (.i .i64 u18),.r (.recs 5 u35),.d (.i .i64 u36)]=>some (.leaf (ok (jdr u34 u17 u21 u19 u16 u18 u35 u36)) [.c (.d (.b ((val (jdr u34 u17 u21 u19 u16 u18 u35 u36)))))])|_=>none
abbrev sp_127:jab->jab:=jal 127 true (jak jyh jpZ)
def sp_127_ok:KO sp_127:=jag (kT (sp_84_ok jaf) Tryz.func127 (by kernel_rfl) fun ls t h ho=>by
 unfold jpZ at h;split at h
 ·rename_i u34 u17 u21 u19 u16 u18 u35 u36;cases h;have ho:=jad ho
  generalize val (jdr u34 u17 u21 u19 u16 u18 u35 u36)=r at ho ⊢
  exact⟨by kernel_rfl,fun _ _ _=>none,Sk.vd ho (.brB
   (.call (.brB
   (.brB
   (.obT (.rc))
   (.obT (.rc)))
   (.obT (.rc))))
   (.brB
   (.call (.brB
   (.brB
   (.obT (.rc))
   (.obT (.rc)))
   (.obT (.rc))))
   (.call (.brB
   (.brB
   (.obT (.rc))
   (.obT (.rc)))
   (.obT (.rc)))))) (by kernel_rfl)⟩
 ·cases h)
end Go.Sh
end

section
namespace Go.Sh
open Go Go.Proofs Go.RowKit Go.Sx
open Go.IntKind (wrap)
set_option maxRecDepth 100000
def jyi:List (Option Cont):=[none,none,none]
def jdX (n lo hi:Int):Option Bool :=
 if lo<=n then some (decide (n<=hi))
 else some false
def jp0:List A->Option (Prop × List RV)|[.d (.i .i64 n),.d (.i .i64 lo),.d (.i .i64 hi)]=>some (ok (jdX n lo hi),[.d (.b ((val (jdX n lo hi))))])|_=>none
abbrev sp_180:jab->jab:=jal 180 true (jaK jyi jp0)
def sp_180_ok:KO sp_180:=jag (kK jaf Tryz.func180 (by kernel_rfl) fun as_ ob rs h ho=>by
 unfold jp0 at h;split at h
 ·rename_i n lo hi;cases h;have ho:=jad ho
  generalize val (jdX n lo hi)=r at ho ⊢
  exact⟨by kernel_rfl,fun _ _ _=>none,Sk.vd ho (.br
   (.obT (.rc))
   (.obT (.rc))) (by kernel_rfl)⟩
 ·cases h)
def jzG:List (Option Cont):=[none,none]
def jc9 (n u54:Int):Option Bool :=
 ze (jdX n (wrap .i64 (0-u54)) u54) fun r0 =>
 some r0
def jsf:List A->Option (Prop × List RV)|[.d (.i .i64 n),.d (.i .i64 u54)]=>some (ok (jc9 n u54),[.d (.b ((val (jc9 n u54))))])|_=>none
abbrev sp_177:jab->jab:=jal 177 true (jaK jzG jsf)
def sp_177_ok:KO sp_177:=jag (kK (sp_180_ok jaf) Tryz.func177 (by kernel_rfl) fun as_ ob rs h ho=>by
 unfold jsf at h;split at h
 ·rename_i n u54;cases h;have ho:=jad ho
  generalize val (jc9 n u54)=r at ho ⊢
  exact⟨by kernel_rfl,fun _ _ _=>none,Sk.vd ho (.call (.obT (.rc))) (by kernel_rfl)⟩
 ·cases h)
def jyj:List (Option Cont):=[none]
def jeW (n:Int):Option Bool :=
 ze (jc9 n (32768:Int)) fun r0 =>
 some r0
def jp1:List A->Option (Prop × List RV)|[.d (.i .i64 n)]=>some (ok (jeW n),[.d (.b ((val (jeW n))))])|_=>none
def jwj:jaF Tryz.prog 183 true (jaK jyj jp1) :=
 kK (sp_177_ok jaf) Tryz.func183 (by kernel_rfl) fun as_ ob rs h ho=>by
 unfold jp1 at h;split at h
 ·rename_i n;cases h;have ho:=jad ho
  generalize val (jeW n)=r at ho ⊢
  exact⟨by kernel_rfl,fun _ _ _=>none,Sk.vd ho (.call (.obT (.rc))) (by kernel_rfl)⟩
 ·cases h
def jzH:List (Option Cont):=[some (.ints .i64 [])]
def jrb (l:List Int) (x0:Int):Option (Int ⊕ (Int ⊕ Unit)) :=
 if x0<(↑l.length:Int)then if 0<=x0∧x0<(↑l.length:Int)then
  if zf x0<za l then if(zb l x0.toNat (0:Int)!=0)=true then some (.inr ((.inl (zb l x0.toNat (0:Int)))))
   else
   some (.inl (wrap .i64 (x0+1)))
  else none
  else none
 else some (.inr ((.inr ())))
def jgv (u3:Int):Option Int :=some u3
def jlD (u4:Unit):Option Int :=some (0:Int)
def jew:(Int ⊕ Unit)->Option Int :=(qy (jgv) (jlD))
def jdB (l:List Int):Option Int :=ze (jae (jrb l) big (0:Int)) (jew)
def jsg:List A->Option (Prop × List RV)|[.r (.ints .i64 l)]=>some (ok (jdB l),[.d (.i .i64 ((val (jdB l))))])|_=>none
abbrev sp_165:jab->jab:=jal 165 true (jaK jzH jsg)
def sp_165_ok:KO sp_165:=jag (kK jaf Tryz.func165 (by kernel_rfl) fun as_ ob rs h ho=>by
 unfold jsg at h;split at h
 ·rename_i l;cases h;have ho:=jad ho
  generalize val (jdB l)=r at ho ⊢
  let l0:=lp0 (jrb l) jew r fun z=>⟨[(5,.w (.c (.o 0))),(6,.w (.c (.d (.i .i64 ((↑l.length:Int)))))),(7,.w (.c (.d (.i .i64 z.1))))],[(0,.ext (.ints .i64 l))],1⟩
  exact⟨by kernel_rfl,(fun _ id _=>match id with
   |0=>l0.li
   |_=>none),Sk.vd ho (.loop (l0) (fun kk=>((0:Int),big)) fun z0 =>
   .br
   (.ob (.ob (.brB
   (.exit (.obT (.rc)))
   (.next))))
   (.exit (.obT (.rc)))) (by kernel_rfl)⟩
 ·cases h)
def jyk:List (Option Cont):=[none,none]
def jds (is:Bool) (e:Int):Option Int :=
 if(is)=true then some (0:Int)
 else some e
def jp2:List A->Option (Prop × List RV)|[.d (.b is),.d (.i .i64 e)]=>some (ok (jds is e),[.d (.i .i64 ((val (jds is e))))])|_=>none
abbrev sp_176:jab->jab:=jal 176 true (jaK jyk jp2)
def sp_176_ok:KO sp_176:=jag (kK jaf Tryz.func176 (by kernel_rfl) fun as_ ob rs h ho=>by
 unfold jp2 at h;split at h
 ·rename_i is e;cases h;have ho:=jad ho
  generalize val (jds is e)=r at ho ⊢
  exact⟨by kernel_rfl,fun _ _ _=>none,Sk.vd ho (.brB
   (.obT (.rc))
   (.obT (.rc))) (by kernel_rfl)⟩
 ·cases h)
end Go.Sh
end

section
namespace Go.Sx09
open Go Go.Proofs Go.RowKit Go.Shelf Go.Sx
attribute [local go_sem] jP
def jfd {B:Kd} {w:zr}:jby B w:=⟨fun _ _ h=>(by cases h),jkL (fun _=>rfl) B w⟩
def jfs {I:Env} {B:Kd} {N n0:Nat} {st:St} {a:Act} {w:zr} {t:Nat} {v:zs} (h:Rel I B N n0 st a w) (ht:jaP st.tm t=none) (hlt:t<N):Rel I B N n0 st (a.put (some t) v) w:=by
 refine⟨fun x u hx=>?_,by rw[jbn];exact h.size,by rw[jb5];exact h.defers,h.heap,h.le,h.n0⟩;have hne:x≠t:=fun e=>by subst e;rw[ht]at hx;cases hx
 rw[jbB (fun y hy=>by cases hy;rw[h.size];exact hlt),if_neg (fun e=>hne (yf e).symm)];exact h.tm x u hx
structure KpC (n1:Nat) (A C:zr):Prop where
 size:A.heap.size<=C.heap.size
 same:∀k o,n1<=k->A.heap[k]?=some o->o.isCells=true->C.heap[k]?=some o
def stL (y:zs) (L:List Int) (k:Nat):St :=⟨[(11,vi .i64 k),(10,vi .i64 5),(9,.w (.c (.o 0))),(0,.w (.c (.d (.v y))))],[(0,.ext (.ints .i64 L))],1⟩
def stB (y:zs) (b0 b1 b2 a0 a1:Int):St :=⟨[(11,vi .i64 0),(10,vi .i64 5),(9,.w (.c (.o 1))),(0,.w (.c (.d (.v y))))],[(1,.row 3 (.ints .i64 [b0,b1,b2,a0,a1])),(0,.box 148 [.d (.i .i64 b0),.d (.i .i64 b1),.d (.i .i64 b2),.d (.i .i64 a0),.d (.i .i64 a1)])],2⟩
structure Bet (Far:zr->Nat->Prop) (y:zs) (L:List Int) (k:Nat) (a:Act) (w:zr):Prop where
 rel:∃I,Rel I (kd fun x=>x<w.heap.size) 22 1 (stL y L k) a w∧∀ad n cap,I 0=.slice (some ad) n cap->Far w ad.block
def jyl {v:zs} {c:Cont} {A C:zr} (h:jaH A v c) (he:0<c.e) (hv:∀ad n cap,v=.slice (some ad) n cap->∀o,A.heap[ad.block]?=some o->o.isCells=true->C.heap[ad.block]?=some o):jaH C v c:=by
 obtain⟨a,cap,rfl,hc,hcells⟩:=h;refine⟨a,cap,rfl,hc,fun hn=>?_⟩;obtain⟨b,off,rfl,hx⟩:=hcells hn;refine⟨b,off,rfl,fun j x hj=>?_⟩;have h1:=hx j x hj;obtain⟨o,ho,hoc⟩:=cells_of_cell h1;have h2:=hv _ _ _ rfl o ho hoc;have ho':A.heap[b]?=some o:=ho;exact(xj (w:=A) (w':=C) (a:=⟨b,off+j,none⟩) (h2.trans ho'.symm)).trans h1
def jjR {c:jn} {N n0:Nat} {st st2:St} {I:Env} {a:Act} {w:zr} (hr:Rel I (kd fun x=>x<w.heap.size) N n0 st a w)
  (h:sx Tryz.prog (fun _=>none) N n0 0 (fun _ _ _=>none) (fun _ _ _=>False) c 0 [] st (fun e st'=>match e with | .normal=>Le n0 st' st2|_=>False)) :
  c.wp Tryz.prog (fun e a' w'=>e=.normal∧w.grownBy w' none∧∃I',Rel I' (kd fun x=>x<w.heap.size) N n0 st2 a' w'∧jah n0 I I') a w:=by
 refine yl (ja2 (fun _ _ _ h=>by cases h) (fun _ _ _ _ _ _ _ _ _ h=>h.elim) c 0 [] st _ I a w h hr (jah.refl _ _) (Bel.refl _ _)) ?_;rintro e a' w' ⟨ex,I',st',rfl,hk,hr',hag,hbl⟩;cases ex with
 |normal =>
  obtain⟨I2,hr2,hag2⟩:=Le.rel hk hr';exact⟨rfl,⟨hbl.os,hbl.tape,hbl.output,hbl.size,fun k hk _=>hbl.block k hk⟩,I2,hr2,fun x hx=>(hag2 x hx).trans (hag x hx)⟩
 |exit j=>exact hk.elim
 |ret=>exact hk.elim
def prs (L:List Int) (k:Nat):List (Nat × Int):=(List.range k).map fun j=>(j,L.getD j 0)
def juL (L:List Int) (k:Nat):prs L (k+1)=prs L k++[(k,L.getD k 0)]:=by simp[prs,List.range_succ]
def jp3 (L:List Int) (k:Nat):(prs L k).length=k:=by simp[prs]
def sub:List Nat->jn->jn|[],c=>c|0::p,.seq x _=>sub p x|_::p,.seq _ y=>sub p y|0::p,.cond _ x _=>sub p x|_::p,.cond _ _ y=>sub p y|_::p,.block _ c=>sub p c|_::p,.loop c=>sub p c|_,c=>c
def bodyOf (f:jL):jn:=f.body.getD .skip
abbrev pc (c:jn) (st st2:St):Prop:=sx Tryz.prog (fun _=>none) 22 1 0 (fun _ _ _=>none) (fun _ _ _=>False) c 0 [] st (fun e st'=>match e with | .normal=>Le 1 st' st2|_=>False)
def stC (y:zs) (L:List Int) (k:Nat):St:=⟨(12,vb (decide ((k:Int)<5)))::(stL y L k).tm,(stL y L k).hp,1⟩
def stD (y:zs) (L:List Int) (k:Nat):St:=⟨(4,vi .i64 (L.getD k 0))::(3,vi .i64 k)::(stL y L k).tm,(stL y L k).hp,1⟩
def pc1 (y:zs) (L:List Int) (k:Nat):pc (sub [1,0,0,0] (bodyOf Tryz.f185)) (stL y L k) (stC y L k):=by
 refine js (by kernel_rfl:(Ob ((decide ((k:Int)<5))=decide ((k:Int)<5))∧Ob ((k:Int)=k)∧Ob ((5:Int)=5)∧Ob (y=y)∧Ob (L=L)∧True)=_) ?_;exact⟨⟨rfl⟩,⟨rfl⟩,⟨rfl⟩,⟨rfl⟩,⟨rfl⟩,trivial⟩
def pc2 (y:zs) (L:List Int) (k:Nat) (hk:k<L.length):pc (sub [1,0,0,1,1,0,0,0] (bodyOf Tryz.f185)) (stC y L k) (stD y L k):=by
 refine js (by kernel_rfl:(Ob (0<=(k:Int)∧(k:Int)<(L.length:Int))∧Ob ((k:Int).toNat<L.length)∧Ob (L.getD (k:Int).toNat 0=L.getD k 0)∧Ob ((k:Int)=k)∧Ob ((k:Int)=k)∧Ob ((5:Int)=5)∧Ob (y=y)∧Ob (L=L)∧True)=_) ?_;exact⟨⟨by omega⟩,⟨by omega⟩,⟨rfl⟩,⟨rfl⟩,⟨rfl⟩,⟨rfl⟩,⟨rfl⟩,⟨rfl⟩,trivial⟩
def pc3 (y:zs) (L:List Int) (k:Nat) (hk:k<5):pc (sub [1,0,0,1,1,1] (bodyOf Tryz.f185)) (stL y L k) (stL y L (k+1)):=by
 refine js (by kernel_rfl:(Ob (qP.wrap ((k:Int)+1)=((k+1:Nat):Int))∧Ob ((5:Int)=5)∧Ob (y=y)∧Ob (L=L)∧True)=_) ?_;refine⟨⟨?_⟩,⟨rfl⟩,⟨rfl⟩,⟨rfl⟩,trivial⟩;rw[fA _ (by omega)];omega
def juM {I:Env} {B:Kd} {N n0:Nat} {st:St} {a:Act} {w:zr} {c:Cont} (h:Rel I B N n0 st a w) (hs:st.hp=[(0,.ext c)]) (he:0<c.e):Rel I (kd fun x=>x<w.heap.size) N n0 st a w:=by
 obtain⟨B',_,hh⟩:=h.heap;refine⟨h.tm,h.size,h.defers,⟨kd fun x=>x<w.heap.size,Grow.refl _ _ _ _,⟨fun x o hf=>?_,fun x o x' o' b hf hf' hne hb=>?_,jfd⟩⟩,fun k hk=>jbJ.1 hk,h.n0⟩
 ·have h1:=hh.ok x o hf;refine⟨h1.1,h1.2.1,?_⟩;rw[hs]at hf;simp only[find]at hf;split at hf
  ·cases hf;exact⟨h1.2.2.1,h1.2.2.1.lt he⟩
  ·cases hf
 ·rw[hs]at hf;simp only[find]at hf;split at hf
  ·cases hf;cases hb
  ·cases hf
def jlE {o:qu} {x:Operand} {n:Nat} {a:Act} {w:zr} {K:Act->zr->Prop} {Q:Exit->Act->zr->Prop} (ho:o.op=.move x) (h:K (a.put o.dst (a.eval x)) w):o.wpIn xR n Tryz.prog a w K Q:=by
 refine⟨fun _ _=>trivial,?_⟩
 have:((o.semAt xR.round a.eval).run Tryz.prog w)=.ok (.value (a.eval x)) w:=by
  rw[jE,jQ];unfold xg;simp only[ho,zt]
 rw[this];exact h
def jdY {y:zs} {L:List Int} {k t:Nat} (h:t≠11∧t≠10∧t≠9∧t≠0):jaP (stL y L k).tm t=none:=by
 simp only[stL,jaP];rw[if_neg (jc h.1),if_neg (jc h.2.1),if_neg (jc h.2.2.1),if_neg (jc h.2.2.2)]
set_option maxHeartbeats 2000000 in
def jzI (n l:Nat) (Kp:zr->zr->Prop) (Far:zr->Nat->Prop)
  (hKF:∀{A C:zr} {k:Nat},Kp A C->Far A k->Far C k∧∀o,A.heap[k]?=some o->o.isCells=true->C.heap[k]?=some o)
  (hFg:∀{A B:zr} {k:Nat},A.grownBy B none->Far A k->Far B k) (L:List Int) (hL:L.length=5) (J Jx:List (Nat × Int)->zr->Prop)
  (hY:∀pre x W,J pre W->pre.length<5->x=(pre.length,L.getD pre.length 0)->YieldAt xR (n-1) Tryz.prog l #[.int .i64 (x.1:Int),.int .i64 x.2] W fun e W' =>
   (e=.returned (.bool true)∧J (pre++[x]) W'∧Kp W W')∨(e=.returned (.bool false)∧Jx (pre++[x]) W'))
  (hJ:∀A B pre,J pre A->A.grownBy B none->J pre B) (a:Act) (w:zr) (hb:Bet Far (.func (.yield l) #[] #[]) L 0 a w) (hj0:J (prs L 0) w) :
  (sub [1] (bodyOf Tryz.f185)).wpIn xR n Tryz.prog (bodyPost Tryz.prog Tryz.f185 fun e W'=>(∃v,e=.returned v) ∧
   ((∃ys,ys=prs L 5∧J ys W')∨(∃pre,(∃k,k<=5∧pre=prs L k)∧Jx pre W'))) a w:=by
 refine fN (wpIn_loop (fun a w=>∃k,k<=5∧Bet Far (.func (.yield l) #[] #[]) L k a w∧J (prs L k) w) (fun a _=>5-(ku (a.tmps.getD 11 zJ)).toNat) ⟨0,by omega,hb,hj0⟩ ?_);rintro a w ⟨k,hk,⟨I,hr,hge⟩,hj⟩
 have hmu:(ku (a.tmps.getD 11 zJ)).toNat=k:=by
  rw[(hr.tm 11 _ rfl).2];simp[ku]
 rw[hmu];refine yL (wpIn_wide.2 (yl (jjR hr (pc1 _ L k)) ?_));rintro e a1 w1 ⟨rfl,hg1,I1,hr1,hag1⟩;have hj1:=hJ _ _ _ hj hg1;have hc:a1.eval (.tmp 12)=.bool (decide ((k:Int)<5)):=(hr1.tm 12 _ rfl).2
 by_cases hlt:k<5
 ·refine yL (j5 (by rw[hc,decide_eq_true (by omega)]) (fD ?_));refine yL (fN (yL (wpIn_wide.2 (yl (jjR (juM hr1 rfl (zo 0)) (pc2 _ L k (by omega))) ?_))));rintro e a2 w2 ⟨rfl,hg2,I2,hr2,hag2⟩;have hj2:=hJ _ _ _ hj1 hg2;obtain⟨fn,tmps,assign,body,hy,hR⟩:=hY (prs L k) (k,L.getD k 0) w2 hj2 (by rw[jp3];exact hlt) (by rw[jp3])
  have hr2L:Rel I2 (kd fun x=>x<w2.heap.size) 22 1 (stL (.func (.yield l) #[] #[]) L k) a2 w2:=by
   have:=juM hr2 (c:=.ints .i64 L) rfl (zo 0);refine⟨fun t v hv=>this.tm t v ?_,this.size,this.defers,this.heap,this.le,this.n0⟩;have hne:t≠4∧t≠3:=⟨(fun e=>by subst e;rw[jdY (by decide)]at hv;cases hv),(fun e=>by subst e;rw[jdY (by decide)]at hv;cases hv)⟩
   show jaP ((4,_)::(3,_)::_) t=some v
   simp only[jaP];rw[if_neg (jc hne.1),if_neg (jc hne.2)];exact hv
  have e3:a2.tmps.getD 3 zJ=.int .i64 k:=(hr2.tm 3 _ rfl).2;have e4:a2.tmps.getD 4 zJ=.int .i64 (L.getD k 0):=(hr2.tm 4 _ rfl).2;have e0:a2.tmps.getD 0 zJ=.func (.yield l) #[] #[]:=(hr2.tm 0 _ rfl).2;have hge2:∀ad n cap,I2 0=.slice (some ad) n cap->Far w2 ad.block:=fun ad n cap h=>hFg hg2 (hFg hg1 (hge ad n cap (by rw[<-hag1 0 (zo 0),<-hag2 0 (zo 0)];exact h)));refine yL (gZ ?_);refine xK rfl fun K hK=>jlE rfl (hK _ _ ?_);refine xK rfl fun K hK=>jlE rfl (hK _ _ ?_);refine xK rfl fun K hK=>jlE rfl (hK _ _ ?_);have hsz:a2.tmps.size=22:=hr2L.size;obtain⟨a3,ha3⟩:∃a3,a3=((a2.put (some 16) (a2.eval (.tmp 0))).put (some 17) ((a2.put (some 16) (a2.eval (.tmp 0))).eval (.tmp 3))).put (some 18) (((a2.put (some 16) (a2.eval (.tmp 0))).put (some 17) ((a2.put (some 16) (a2.eval (.tmp 0))).eval (.tmp 3))).eval (.tmp 4)):=⟨_,rfl⟩
  have hr3:Rel I2 (kd fun x=>x<w2.heap.size) 22 1 (stL (.func (.yield l) #[] #[]) L k) a3 w2:=by
   rw[ha3];exact jfs (jfs (jfs hr2L (jdY (by decide)) (by decide)) (jdY (by decide)) (by decide)) (jdY (by decide)) (by decide)
  have g16:a3.eval (.tmp 16)=.func (.yield l) #[] #[]:=by
   rw[ha3]
   show(jO _ (some 18) _).tmps.getD 16 zJ=_
   rw[jbB (fun x hx=>by cases hx;simp[jbn,hsz]),if_neg (by decide),jbB (fun x hx=>by cases hx;simp[jbn,hsz]),if_neg (by decide),jbB (fun x hx=>by cases hx;simp[hsz]),if_pos rfl];exact e0
  have g17:a3.eval (.tmp 17)=.int .i64 k:=by
   rw[ha3]
   show(jO _ (some 18) _).tmps.getD 17 zJ=_
   rw[jbB (fun x hx=>by cases hx;simp[jbn,hsz]),if_neg (by decide),jbB (fun x hx=>by cases hx;simp[jbn,hsz]),if_pos rfl]
   show(jO _ (some 16) _).tmps.getD 3 zJ=_
   rw[jbB (fun x hx=>by cases hx;simp[hsz]),if_neg (by decide)];exact e3
  have g18:a3.eval (.tmp 18)=.int .i64 (L.getD k 0):=by
   rw[ha3]
   show(jO _ (some 18) _).tmps.getD 18 zJ=_
   rw[jbB (fun x hx=>by cases hx;simp[jbn,hsz]),if_pos rfl]
   show(jO _ (some 17) _).tmps.getD 4 zJ=_
   rw[jbB (fun x hx=>by cases hx;simp[jbn,hsz]),if_neg (by decide),jbB (fun x hx=>by cases hx;simp[hsz]),if_neg (by decide)];exact e4
  have hsz3:a3.tmps.size=22:=hr3.size;rw[<-ha3];clear ha3;refine xK rfl fun K hK=>⟨fun _ _=>trivial,?_⟩
  have hcall:∀o:qu,o.op=.call { callee:=.value (.tmp 16),args:=#[.tmp 17,.tmp 18],argTypes:=#[3,3] }->((o.semAt xR.round a3.eval).run Tryz.prog w2)=.ok (.round l fn tmps assign body) w2:=by
   intro o ho;rw[jE,jQ];unfold xg;simp only[ho,resolve,g16,gY,zq,zt,zn,invoke,yj,zL,xp,g17,g18];exact hy
  rw[hcall _ rfl];refine⟨(fun h=>by cases h),hR.mono ?_⟩
  have hnot:∀(o:qu) (b:Bool) (w3:zr),o.op=.unOp .not 4 (.tmp 19)->((o.semAt xR.round (a3.put (some 19) (.bool b)).eval).run Tryz.prog w3)=.ok (.value (.bool !b)) w3:=by
   intro o b w3 ho
   have h19:(a3.put (some 19) (.bool b)).eval (.tmp 19)=.bool b:=by
    show(jO _ (some 19) _).tmps.getD 19 zJ=_
    rw[jbB (fun x hx=>by cases hx;simp[hsz3]),if_pos rfl]
   rw[jE,jQ];unfold xg;simp only[ho,h19];rfl
  have h20:∀b,((a3.put (some 19) (.bool b)).put (some 20) (.bool !b)).eval (.tmp 20)=.bool !b:=fun b=>by
   show(jO _ (some 20) _).tmps.getD 20 zJ=_
   rw[jbB (fun x hx=>by cases hx;simp[jbn,hsz3]),if_pos rfl]
  have hr5:∀b,Rel I2 (kd fun x=>x<w2.heap.size) 22 1 (stL (.func (.yield l) #[] #[]) L k) ((a3.put (some 19) (.bool b)).put (some 20) (.bool !b)) w2:=fun b =>
   jfs (jfs hr3 (jdY (by decide)) (by decide)) (jdY (by decide)) (by decide)
  rintro e w3 (⟨rfl,hj3,hk3⟩|⟨rfl,hj3⟩)
  ·refine hK _ _ (xK rfl fun K hK=>⟨fun _ _=>trivial,?_⟩);rw[hnot _ true w3 rfl];refine hK _ _ (j6 ?_);refine jR (h20 true) (fD ?_);have h5:=hr5 true;obtain⟨B2,_,hh2⟩:=hr2L.heap;have hrow3:jaH w3 (I2 0) (.ints .i64 L):=jyl (hh2.ok 0 _ rfl).2.2.1 (zo 0) fun ad n cap h=>(hKF hk3 (hge2 ad n cap h)).2
   have h6:Rel I2 (kd fun x=>x<w3.heap.size) 22 1 (stL (.func (.yield l) #[] #[]) L k) ((a3.put (some 19) (.bool true)).put (some 20) (.bool !true)) w3:=by
    refine⟨h5.tm,h5.size,h5.defers,⟨kd fun x=>x<w3.heap.size,Grow.refl _ _ _ _,⟨fun x o hf=>?_,fun x o x' o' b hf hf' hne hb=>?_,jfd⟩⟩,fun k hk=>jbJ.1 hk,h5.n0⟩
    ·simp only[stL,find]at hf;split at hf
     ·rename_i e;subst e;cases hf;exact⟨zo 0,trivial,hrow3,hrow3.lt (zo 0)⟩
     ·cases hf
    ·simp only[stL,find]at hf;split at hf
     ·cases hf;cases hb
     ·cases hf
   refine wpIn_wide.2 (yl (jjR h6 (pc3 _ L k hlt)) ?_);rintro e a7 w7 ⟨rfl,hg7,I7,hr7,hag7⟩;refine⟨⟨k+1,by omega,⟨I7,juM hr7 (c:=.ints .i64 L) rfl (zo 0),fun ad n cap h=>hFg hg7 (hKF hk3 (hge2 ad n cap (by rw[<-hag7 0 (zo 0)];exact h))).1⟩,?_⟩,?_⟩
   ·rw[juL];exact hJ _ _ _ hj3 hg7
   ·rw[(hr7.tm 11 _ rfl).2];simp[ku];omega
  ·refine hK _ _ (xK rfl fun K hK=>⟨fun _ _=>trivial,?_⟩);rw[hnot _ false w3 rfl];refine hK _ _ (j6 ?_);refine j5 (h20 false) (wpIn_ret ?_);refine⟨(hr5 false).defers,.tuple #[],j7 rfl _ _ _,⟨_,rfl⟩,.inr ⟨_,⟨k+1,by omega,rfl⟩,?_⟩⟩;rw[juL];exact hj3
 ·have hk5:k=5:=by omega
  subst hk5;refine yL (jR (by rw[hc,decide_eq_false (by omega)]) (wpIn_exit ?_));refine⟨hr1.defers,.tuple #[],?_,⟨_,rfl⟩,.inl ⟨_,rfl,hj1⟩⟩;exact j7 rfl _ _ _
set_option maxHeartbeats 2000000 in
def jBf (n l Bs:Nat) (Kp:zr->zr->Prop) (Far:zr->Nat->Prop)
  (hKF:∀{A C:zr} {k:Nat},Kp A C->Far A k->Far C k∧∀o,A.heap[k]?=some o->o.isCells=true->C.heap[k]?=some o)
  (hFg:∀{A B:zr} {k:Nat},A.grownBy B none->Far A k->Far B k) (b0 b1 b2 a0 a1:Int) (J Jx:List (Nat × Int)->zr->Prop)
  (hY:∀pre x W,J pre W->pre.length<5->x=(pre.length,[b0,b1,b2,a0,a1].getD pre.length 0)->YieldAt xR (n-1) Tryz.prog l #[.int .i64 (x.1:Int),.int .i64 x.2] W fun e W' =>
   (e=.returned (.bool true)∧J (pre++[x]) W'∧Kp W W')∨(e=.returned (.bool false)∧Jx (pre++[x]) W'))
  (W:zr) (hF0:∀B g,W.grownBy B none->W.heap.size<=g->g<B.heap.size->Far B g) (hJ:AbidesFrom W.heap.size J) (hBs:W.heap[Bs]?=some (.cells #[.int .i64 b0,.int .i64 b1,.int .i64 b2,.int .i64 a0,.int .i64 a1] 148 (0,0))) (h0:J [] W) :
  fT xR n Tryz.prog 185 #[.func (.yield l) #[] #[],.pointer (some ⟨Bs,0,none⟩)] W fun e W'=>(∃v,e=.returned v) ∧
   ((∃ys,ys=prs [b0,b1,b2,a0,a1] 5∧J ys W')∨(∃pre,(∃k,k<=5∧pre=prs [b0,b1,b2,a0,a1] k)∧Jx pre W')):=by
 refine gQ Tryz.func185 rfl trivial ?_ rfl;refine yL (wpIn_wide.2 ?_);have hBlt:Bs<W.heap.size:=(zM.1 hBs).1
 let I:Env:=fun _=>.pointer (some ⟨Bs,0,none⟩)
 let y:zs:=.func (.yield l) #[] #[]
 have hsp:jam Tryz.prog (fun _=>none):=fun _ _ _ h=>by cases h
 refine jbC (N:=22) (n0:=1) (B:=kd fun k=>k<W.heap.size∧k≠Bs) (I0:=I) (w0:=W) (st:=⟨[(0,.w (.c (.d (.v y)))),(1,.w (.c (.p 0 0 1 0)))],[(0,.box 148 [.d (.i .i64 b0),.d (.i .i64 b1),.d (.i .i64 b2),.d (.i .i64 a0),.d (.i .i64 a1)])],1⟩)
  (k:=fun st=>Le 1 st (stB y b0 b1 b2 a0 a1)) (by kernel_rfl) hsp (ds:=[]) _ _ I _ _ _ ?vc ?rel (jah.refl _ _) (Bel.refl _ _) ?next
 case vc =>
  refine js (by kernel_rfl:(Ob True∧Ob True∧Ob (0<3∧0<2∧(3+2)*8<=140737488355328∧3+2<=9223372036854775807) ∧
   Le 1 ⟨[(11,vi .i64 0),(10,vi .i64 5),(9,.w (.c (.o 3))),(8,.w (.c (.o 2))),(7,.w (.c (.p 0 0 1 3))),(6,.w (.c (.o 1))),(5,.w (.c (.p 0 0 1 0))),(0,.w (.c (.d (.v y)))),(1,.w (.c (.p 0 0 1 0)))],[(3,.row 3 (.ints .i64 [b0,b1,b2,a0,a1])),(2,.view 0 (.ints .i64 [a0,a1]) true),(1,.view 0 (.ints .i64 [b0,b1,b2]) true),(0,.box 148 [.d (.i .i64 b0),.d (.i .i64 b1),.d (.i .i64 b2),.d (.i .i64 a0),.d (.i .i64 a1)])],4⟩ (stB y b0 b1 b2 a0 a1))=_) ?_
  refine⟨⟨trivial⟩,⟨trivial⟩,⟨by decide⟩,?_⟩;refine js (by kernel_rfl:((Ob ((0:Int)=0)∧Ob ((5:Int)=5)∧Ob (y=y)∧Ob ([b0,b1,b2,a0,a1]=[b0,b1,b2,a0,a1])∧Ob (b0=b0)∧Ob (b1=b1)∧Ob (b2=b2)∧Ob (a0=a0)∧Ob (a1=a1)∧True))=_) ?_;exact⟨⟨rfl⟩,⟨rfl⟩,⟨rfl⟩,⟨rfl⟩,⟨rfl⟩,⟨rfl⟩,⟨rfl⟩,⟨rfl⟩,⟨rfl⟩,trivial⟩
 case rel =>
  refine jfq (N:=22) (n0:=1) (args:=[.w (.c (.d (.v y))),.w (.c (.p 0 0 1 0))]) (zQ rfl) (fun x hx=>?_) (zp _) I W ⟨fun x o hf=>?_,fun x o x' o' b hf hf' hne hb=>?_,jfd⟩ (fun k hk=>(jbJ.1 hk).1)
  ·simp only[qr,g5,or_false]at hx;rcases hx with rfl|rfl
   ·trivial
   ·exact zo 0
  ·simp only[find]at hf;split at hf
   ·rename_i e;subst e;cases hf;exact⟨zo 0,(fun c hc=>by simp at hc;rcases hc with rfl|rfl|rfl|rfl|rfl<;>trivial),Bs,rfl,fun h=>(jbJ.1 h).2 rfl,hBs⟩
   ·cases hf
  ·simp only[find]at hf hf';split at hf
   ·rename_i e;subst e;rw[if_neg hne]at hf';cases hf'
   ·cases hf
 case next =>
  rintro I1 st1 a1' w1 hr1 hag1 hbl1 hle;obtain⟨I2,hr2,hag2⟩:=hle.rel hr1;obtain⟨B',g',hh2⟩:=hr2.heap;have hbk:I2 0=.pointer (some ⟨Bs,0,none⟩):=(hag2 0 (zo 0)).trans (hag1 0 (zo 0))
  have hgr:W.grownBy w1 none:=by
   refine⟨hbl1.os,hbl1.tape,hbl1.output,hbl1.size,fun k hk _=>?_⟩
   by_cases e:k=Bs
   ·subst e;obtain⟨_,_,g,hg,_,hheap⟩:=hh2.ok 0 _ rfl;rw[hbk]at hg
    have e:g=k:=by
     have:some (⟨k,0,none⟩:Addr)=some ⟨g,0,none⟩:=kW hg;cases this;rfl
    subst e;rw[hheap,hBs];rfl
   ·exact hbl1.block k ⟨hk,e⟩
  have hJ1:J (prs [b0,b1,b2,a0,a1] 0) w1:=hJ [] W w1 none h0 hgr (fun r e=>by cases e)
  have hge:∀g,(I2 1).ownBlock=some g->Far w1 g:=fun g hg=>by
   refine hF0 _ _ hgr ?_ (O.blk_lt (hh2.ok 1 _ rfl).2.2 hg).1;have h3:=(hh2.ok 1 _ rfl).2.2.2 g hg;have hne:g≠Bs:=fun e=>hh2.apart 1 _ 0 _ g rfl rfl (by decide) hg (by rw[hbk,e];rfl);have:¬g<W.heap.size:=fun hl=>h3 (.inl (g'.le.kp g ⟨hl,hne⟩));omega
  have hrow:jaH w1 (I2 1) (.ints .i64 [b0,b1,b2,a0,a1]):=jcc (hh2.ok 1 _ rfl).2.2 rfl
  have hbet:Bet Far y [b0,b1,b2,a0,a1] 0 a1' w1:=by
   refine⟨fun _=>I2 1,⟨fun t v hv=>?_,hr2.size,hr2.defers,⟨kd fun x=>x<w1.heap.size,Grow.refl _ _ _ _,⟨fun x o hf=>?_,fun x o x' o' b hf hf' hne hb=>?_,jfd⟩⟩,fun k hk=>jbJ.1 hk,zp _⟩,fun ad n cap hv=>hge _ (by have hv':I2 1=_:=hv;rw[hv'];rfl)⟩
   ·simp only[stL,jaP]at hv;split at hv
    ·rename_i e;subst e;cases hv;exact⟨trivial,(hr2.tm 11 _ rfl).2⟩
    ·split at hv
     ·rename_i e;subst e;cases hv;exact⟨trivial,(hr2.tm 10 _ rfl).2⟩
     ·split at hv
      ·rename_i e;subst e;cases hv;exact⟨zo 0,(hr2.tm 9 _ rfl).2⟩
      ·split at hv
       ·rename_i e;subst e;cases hv;exact⟨trivial,(hr2.tm 0 _ rfl).2⟩
       ·cases hv
   ·simp only[stL,find]at hf;split at hf
    ·rename_i e;subst e;cases hf;exact⟨zo 0,trivial,hrow,hrow.lt (zo 0)⟩
    ·cases hf
   ·simp only[stL,find]at hf;split at hf
    ·cases hf;cases hb
    ·cases hf
  clear hr2 hr1 hbk hge hrow;have hge1:1<=1:=zp 1;exact jzI n l Kp Far hKF hFg [b0,b1,b2,a0,a1] rfl J Jx hY (fun A B pre hj hg=>hJ pre A B none hj hg (fun r e=>by cases e)) a1' w1 hbet hJ1
end Go.Sx09
end

section
namespace Go.Sx09
open Go Go.Proofs Go.RowKit Go.Shelf Go.Sx Go.Sh
open Go.IntKind (wrap)
attribute [local go_sem] jP
def partB (n:Int):Bool:=decide (-32768<=n)&&decide (n<=32768)
def chkS (b0 b1 b2 a0 a1:Int):Int:=if[b0,b1,b2,a0,a1].all partB=true then 0 else 2
abbrev jdZ (b0 b1 b2 a0 a1:Int):Array zs:=#[.int .i64 b0,.int .i64 b1,.int .i64 b2,.int .i64 a0,.int .i64 a1]
set_option maxHeartbeats 2000000 in
def jBg (n:Nat) (b0 b1 b2 a0 a1:Int) (w:zr) :
  fT xR n Tryz.prog 182 #[.agg (jdZ b0 b1 b2 a0 a1)] w fun e w'=>e=.returned (.func (.func 185) #[] #[.pointer (some ⟨w.heap.size,0,none⟩)])∧w'=w.alloc (.cells (jdZ b0 b1 b2 a0 a1) 148):=by
 refine gQ Tryz.func182 rfl trivial ?_ rfl;simp only[Tryz.ntmps182,xJ,zB,qe,gR,gS,ju,jv,j8,jH,qS,qq]
 gi_wp2
 go_ret
 exact⟨rfl,rfl⟩
def jsh (n:Int):jeW n=some (partB n):=by
 have e:wrap qP ((0:Int)-32768)=-32768:=by decide
 unfold jeW jc9 jdX partB;simp only[e]
 by_cases h:-32768<=n
 ·simp[h]
 ·simp[h]
def juN (n:Int) (w:zr):Calls Tryz.prog 183 #[.int .i64 n] w fun e w'=>e=.returned (.bool (partB n))∧yn w.heap.size w w':=by
 have h:=(jwj.sound Tryz.func183 (rfl:Tryz.f183.body=some (Tryz.f183.body.getD .skip)) (by kernel_rfl)).sound (fun _=>zJ) (kd fun k=>k<w.heap.size) w [.w (.c (.d (.i .i64 n)))] [] 0 _ rfl (jCi (jsh n)) (fun x hx=>by
  simp only[z6]at hx;subst hx;trivial) ⟨(fun _ _ h=>by cases h),(fun _ _ _ _ _ h=>by cases h),jfd⟩ (fun _ h=>jbJ.1 h)
 refine h.mono ?_;rintro e w' ⟨I',rfl,hl⟩;refine⟨?_,hl.mono rfl⟩
 show yg (.bool (val (jeW n)))=_
 rw[jsh];rfl
def jzJ (W:zr) (v:zs) (t:TypeId):(W.alloc (.cells #[v] t)).cell? ⟨W.heap.size,0,none⟩=some v∧(W.alloc (.cells #[v] t)).frozen? ⟨W.heap.size,0,none⟩=false:=by
 have h:(W.alloc (.cells #[v] t)).heap[W.heap.size]?=some (.cells #[v] t (0,0)):=World.alloc_heap_new W (.cells #[v] t);constructor
 ·unfold fC;dsimp only;rw[h];rfl
 ·unfold kz;dsimp only;rw[h];rfl
def jwk {W:zr} {a:Addr} {v:zs} (o:Obj) (h:W.cell? a=some v):(W.alloc o).cell? a=some v:=cell_kept h (fG W o none) (fun r e=>by cases e)
def js8 {W:zr} {a:Addr} {v:zs} (o:Obj) (h:W.cell? a=some v) (hf:W.frozen? a=false):(W.alloc o).frozen? a=false:=(frozen_kept h (fG W o none) (fun r e=>by cases e)).trans hf
def kpc_t {n1:Nat} {A B C:zr} (h:KpC n1 A B) (k:KpC n1 B C):KpC n1 A C:=⟨xb h.size k.size,fun x o hx ho hc=>k.same x o hx (h.same x o hx ho hc) hc⟩
def kpc_b {n1:Nat} {w:zr} (W:zr) (l:Nat) (o o':Obj) (_:w.heap.size<=l) (h:W.heap[l]?=some o) (hc:o.isCells=false) (_:o.isWalk=false):KpC n1 W (W.putObj l o') :=
 ⟨by simp,fun k u _ hk hu=>by
  have hne:l≠k:=fun e=>by subst e;rw[h]at hk;cases hk;rw[hc]at hu;cases hu
  exact(World.putObj_heap_other (fun e=>hne e.symm)).trans hk⟩
def jzK {n1:Nat} {A B:zr} (h:yn A.heap.size A B):KpC n1 A B:=⟨h.size,fun k o _ hk _=>(h.block k (zM.1 hk).1).trans hk⟩
def jnP {A B:zr} (h:yn A.heap.size A B):KeepsOthers A B:=⟨h.size,fun k o hk _=>(h.block k (zM.1 hk).1).trans hk⟩
def jxc {b0 b1 b2 a0 a1:Int}:(prs [b0,b1,b2,a0,a1] 5).map (·.2)=[b0,b1,b2,a0,a1]:=rfl
def jCJ {b0 b1 b2 a0 a1:Int} {k:Nat} (hk:k<=5) {x:Nat × Int} (hx:x∈prs [b0,b1,b2,a0,a1] k):x.2∈[b0,b1,b2,a0,a1]:=by
 have h1:x∈prs [b0,b1,b2,a0,a1] 5:=by
  simp only[prs,qn,List.mem_range]at hx ⊢;obtain⟨j,hj,e⟩:=hx;exact⟨j,by omega,e⟩
 rw[<-jxc];exact jI h1
set_option maxHeartbeats 4000000 in
def jDB (b0 b1 b2 a0 a1:Int) (w:zr) :
  fT xR 9 Tryz.prog 179 #[.agg (jdZ b0 b1 b2 a0 a1)] w fun e w'=>e=.returned (.int .i64 (chkS b0 b1 b2 a0 a1))∧yn w.heap.size w w':=by
 have h1:1<=9:=by omega
 have hro:xR.round=none:=rfl;refine callsIn_of_wp_marks Tryz.func179 rfl trivial ?_ hro;simp only[Tryz.ntmps179,xJ,zB,qe,gR,gS,ju,jv,j8,jH,qS,qq]
 gi_wp2_with (refine⟨trivial,?_⟩;gi_at_call 182;refine(jBg _ b0 b1 b2 a0 a1 _).mono ?_;rintro e w' ⟨rfl,rfl⟩)
 have c0:(w.alloc (.cells (jdZ b0 b1 b2 a0 a1) 148)).heap.size=w.heap.size+1:=f7 _ _;have c1:=jzJ (w.alloc (.cells (jdZ b0 b1 b2 a0 a1) 148)) (.int .i64 0) 27;rw[c0]at c1;have hB0:yn w.heap.size w (((w.alloc (.cells (jdZ b0 b1 b2 a0 a1) 148)).alloc (.cells #[.int .i64 0] 27)).alloc (.cells (jdZ b0 b1 b2 a0 a1) 148)):=(((xM _ w).alloc (zp _) _).alloc (by simp) _).alloc (by simp;omega) _;obtain⟨w2,hw2⟩:∃w2,((w.alloc (.cells (jdZ b0 b1 b2 a0 a1) 148)).alloc (.cells #[.int .i64 0] 27)).alloc (.cells (jdZ b0 b1 b2 a0 a1) 148)=w2:=⟨_,rfl⟩
 have hs2:w2.heap.size=w.heap.size+3:=by rw[<-hw2];simp
 have hc2:w2.cell? ⟨w.heap.size+1,0,none⟩=some (.int .i64 0):=by rw[<-hw2];exact jwk _ c1.1
 have hf2:w2.frozen? ⟨w.heap.size+1,0,none⟩=false:=by rw[<-hw2];exact js8 _ c1.1 c1.2
 have hh2:w2.heap[w.heap.size+1+1]?=some (.cells (jdZ b0 b1 b2 a0 a1) 148 (0,0)):=by
  rw[<-hw2];have:=World.alloc_heap_new ((w.alloc (.cells (jdZ b0 b1 b2 a0 a1) 148)).alloc (.cells #[.int .i64 0] 27)) (.cells (jdZ b0 b1 b2 a0 a1) 148);rw[f7,c0]at this;exact this
 rw[hw2]at hB0 ⊢
 refine wpIn_rangeFunc_ownF hro h1 (gf:=185) (lb:=#[.pointer (some ⟨w.heap.size+1+1,0,none⟩)]) rfl trivial (enters_of Tryz.func185 (by kernel_rfl) rfl)
  (α:=Nat × Int) (encs:=fun x=>#[.int .i64 (x.1:Int),.int .i64 x.2]) (Kp:=KpC w2.heap.size) (S:=fun ys=>ys=prs [b0,b1,b2,a0,a1] 5) (Sp:=fun pre=>∃k,k<=5∧pre=prs [b0,b1,b2,a0,a1] k) (N:=5) (w0:=w2)
  (fun l J Jx W hW hJ hJx hY h0=>jBf _ l (w.heap.size+1+1) (KpC w2.heap.size) (fun _ k=>w2.heap.size<=k) (fun h hk=>⟨hk,fun o ho hc=>h.same _ o hk ho hc⟩) (fun _ h=>h) b0 b1 b2 a0 a1 J Jx (fun pre x W hp hl _=>hY pre x W hp hl) W (fun _ g _ hg _=>xb hW.size hg) hJ ((hW.block _ (by omega)).trans hh2) h0) kpc_t kpc_b (xM _ _) (fun _=>rfl)
  (fun pre W=>((∀y∈pre,partB y.2=true)∧W.cell? ⟨w.heap.size+1,0,none⟩=some (.int .i64 0)∧W.frozen? ⟨w.heap.size+1,0,none⟩=false)∧yn w.heap.size w W)
  (fun c pre W=>(c=.ret∧(∃y∈pre,partB y.2=false)∧W.cell? ⟨w.heap.size+1,0,none⟩=some (.int .i64 2))∧yn w.heap.size w W)
  (OwnFrom.and (Own.from (fun s A B row hs hg hr=>⟨hs.1,cell_kept hs.2.1 hg hr,(frozen_kept hs.2.1 hg hr).trans hs.2.2⟩) _) (ownFrom_below (zp _) (by omega)))
  (fun c=>OwnFrom.and (Own.from (fun s A B row hs hg hr=>⟨hs.1,hs.2.1,cell_kept hs.2.2 hg hr⟩) _) (ownFrom_below (zp _) (by omega)))
  ⟨⟨by simp,hc2,hf2⟩,hB0⟩
  (fun x=>{ tmps:=#[kY (jdZ b0 b1 b2 a0 a1),xr (some { block:=w.heap.size,off:=0 }),xr (some { block:=w.heap.size+1,off:=0 }),zJ,.int .i64 x.2,kY (jdZ b0 b1 b2 a0 a1),.func (.func 185) #[] #[.pointer (some ⟨w.heap.size+1+1,0,none⟩)],.int .i64 (x.1:Int),.int .i64 x.2,zJ,zJ,zJ],defers:=[] }) ?assign ?body ?done ?stop
 case assign =>
  intro l x W K hK
  gi_wp2
  exact hK
 case body =>
  rintro l pre x W ⟨⟨hp,hcr,hfr⟩,hB⟩ _;have hlt:w.heap.size+1<W.heap.size:=xe W ⟨w.heap.size+1,0,none⟩ hcr
  gi_wp2_with (refine⟨trivial,?_⟩;gi_at_call 183;refine(CallsIn.inRound l (fV.2 (juN x.2 W))).mono ?_;rintro e w' ⟨rfl,hBw⟩;have hcw:=(hBw.cell (p:=⟨w.heap.size+1,0,none⟩) hlt).trans hcr;have hfw:=(hBw.frozen (p:=⟨w.heap.size+1,0,none⟩) hlt).trans hfr)
  ·rename_i hx;have hB':yn w.heap.size w w':=hB.trans (hBw.mono (by omega));exact⟨(jnP hBw).trans (KeepsOthers.setCell _ _ _),⟨rfl,⟨x,qR.2 (.inr (by simp)),by simpa using hx⟩,yU _ _ _ (by rw[hcw];rfl)⟩,hB'.setCell (p:=⟨w.heap.size+1,0,none⟩) (by simp) _⟩
  ·rename_i hx;have hB':yn w.heap.size w w':=hB.trans (hBw.mono (by omega));exact⟨jnP hBw,jzK hBw,⟨fun y hy=>(qR.1 hy).elim (hp y) (fun e=>by simp at e;subst e;simpa using hx),hcw,hfw⟩,hB'⟩
 case done =>
  rintro D ys W hD rfl ⟨⟨hne,hcr,hfr⟩,hB⟩ hK
  gi_wp2
  have hK':=(KeepsOthers.setCell W ⟨w.heap.size+1,0,none⟩ (.int .i64 0)).same D _ hK rfl;refine⟨by simp,.inl ⟨_,_,rfl,run_takeDeferred hK',?_⟩⟩;have hc5:=cell_kept (yU W ⟨w.heap.size+1,0,none⟩ (.int .i64 0) (by rw[hcr];rfl)) (grownBy_putObj' _ D (.deferred none)) (fun r e=>by cases e;exact⟨_,hK',rfl⟩)
  have hall:chkS b0 b1 b2 a0 a1=0:=by
   unfold chkS;rw[if_pos];rw[<-jxc,List.all_map];exact zy.2 fun y hy=>hne y hy
  refine⟨.int .i64 0,?_,by rw[hall],(hB.setCell (p:=⟨w.heap.size+1,0,none⟩) (by simp) _).trans (belowK_b (w:=w) (zp _) _ D _ _ (by omega) hK' rfl rfl)⟩;simp[results,Tryz.f179,go_sem,hc5]
 case stop =>
  rintro D c pre W hD ⟨k,hk,rfl⟩ ⟨⟨rfl,⟨y,hy,hpy⟩,hcr⟩,hB⟩ hK
  gi_wp2
  refine⟨by simp,.inl ⟨_,_,rfl,run_takeDeferred hK,?_⟩⟩;have hc5:=cell_kept hcr (grownBy_putObj' _ D (.deferred none)) (fun r e=>by cases e;exact⟨_,hK,rfl⟩)
  have hall:chkS b0 b1 b2 a0 a1=2:=by
   unfold chkS;rw[if_neg];intro h;have:=zy.1 h y.2 (jCJ hk hy);rw[hpy]at this;cases this
  refine⟨.int .i64 2,?_,by rw[hall],hB.trans (belowK_b (w:=w) (zp _) W D _ _ (by omega) hK rfl rfl)⟩;simp[results,Tryz.f179,go_sem,hc5]
def toAs0 {I:Env} (w:zr) {args:List V} {as_:List A} (has:jhW [] args=some as_):(jdA 0 as_).map (V.val fun i=>(args[i]?.map (V.val I)).getD zJ)=args.map (V.val I) :=(jr8 (I:=I) (B:=kd fun _=>False) (nx:=0) (hp:=[]) (w:=w) ⟨(fun _ _ h=>by cases h),(fun _ _ _ _ _ h=>by cases h),jfd⟩ args _ 0 (fun i=>(args[i]?.map (V.val I)).getD zJ) has (fun i v hv=>by simp[hv])).1
def gCheckSection:List A->Option (Prop × List RV)|[.s [.i .i64 b0,.i .i64 b1,.i .i64 b2,.i .i64 a0,.i .i64 a1]]=>some (True,[.d (.i .i64 (chkS b0 b1 b2 a0 a1))])|_=>none
def js9 {f:Nat} {fn:jL} {body:jn} {g:List A->Option (Prop × List RV)} (hf:Tryz.prog.funcs[f]?=some fn) (hb:fn.body=some body) (hn:(fn.name == "runtime.NumGoroutine")=false)
  (h:∀(args:List V) (as_:List A) ob rs (I:Env) (w:zr),jhW [] args=some as_->g as_=some (ob,rs)->ob->Calls Tryz.prog f (args.map (V.val I)).toArray w fun e w'=>e=.returned ((jb7 (rvW 0 rs)).val I)∧yn w.heap.size w w')
  (hd:∀as_ ob rs,g as_=some (ob,rs)->(∀a∈as_,∀c,a≠.r c)∧∀r∈rs,∀t c,r≠.row t c):jaF Tryz.prog f true (jtz g):=by
 refine .inl ⟨jdn hf hb hn,fun I B w args hp nx r hS hob hlt hh hB=>?_⟩;unfold jtz at hS;split at hS
 ·rename_i as_ has;split at hS
  ·rename_i ob rs hg;cases hS;obtain⟨h1,h2⟩:=hd as_ ob rs hg
   have has':∀(args:List V) (as_:List A),jhW hp args=some as_->(∀a∈as_,∀c,a≠.r c)->jhW [] args=some as_:=by
    intro args
    induction args with
    |nil=>intro as_ h _;exact h
    |cons v vs ih =>
     intro as_ h hno;simp only[jhW]at h ⊢;split at h
     ·rename_i a r ha hr;cases h
      have e1:toA [] v=some a:=by
       unfold toA at ha ⊢;split at ha
       ·exact ha
       ·exact ha
       ·exact ha
       ·split at ha
        ·split at ha
         ·cases ha
         ·cases ha;exact absurd rfl (hno _ zw _)
        ·cases ha
       ·cases ha
      rw[e1,ih r hr (fun a ha=>hno a (zu _ ha))]
     ·cases h
   have hrv:∀(rs:List RV) (n m:Nat) (hp:Hp),(∀r∈rs,∀t c,r≠.row t c)->rvW n rs=rvW m rs∧jhX n rs hp=hp∧jer n rs=n∧∀x∈rvW n rs,W.lt n x:=by
    intro rs
    induction rs with
    |nil=>exact fun n m hp _=>⟨rfl,rfl,rfl,fun _ h=>by cases h⟩
    |cons r rs ih =>
     intro n m hp hno;have ih:=ih n m hp (fun r hr=>hno r (zu _ hr));cases r with
     |d x=>exact⟨by simp only[rvW,ih.1],ih.2.1,ih.2.2.1,fun u hu=>by
       rcases qr.1 hu with rfl|hu
       ·trivial
       ·exact ih.2.2.2 u hu⟩
     |s l=>exact⟨by simp only[rvW,ih.1],ih.2.1,ih.2.2.1,fun u hu=>by
       rcases qr.1 hu with rfl|hu
       ·intro y hy;obtain⟨z,_,rfl⟩:=qn.1 hy;trivial
       ·exact ih.2.2.2 u hu⟩
     |row t c=>exact absurd rfl (hno _ zw t c)
   refine(h args as_ ob rs I w (has' args as_ has h1) hg hob).mono ?_;rintro e w' ⟨rfl,hbl⟩;obtain⟨e1,e2,e3,e4⟩:=hrv rs nx 0 hp h2;refine⟨I,by rw[<-e1];rfl,jah.refl _ _,(?_:V.lt (jer nx rs) (jb7 (rvW nx rs))),(?_:nx<=jer nx rs),⟨B,Grow.refl _ _ _ _,(?_:HRel I B (jhX nx rs hp) (jer nx rs) w')⟩,jc2 hbl hB,fun _=>hbl,fun _ h o k hle hf _=>?_⟩
   ·rw[e3];exact jf8 e4
   ·rw[e3];exact zp _
   ·rw[e2,e3];exact hh.below hbl hB
   ·have hf:find (jhX nx rs hp) h=some o:=hf;rw[e2]at hf;have:=(hh.ok h o hf).1;omega
  ·cases hS
 ·cases hS
def checkSection_ok:jaF Tryz.prog 179 true (jtz gCheckSection):=by
 refine js9 (fn:=Tryz.f179) (body:=bodyOf Tryz.f179) Tryz.func179 (by kernel_rfl) (by kernel_rfl) ?_ ?_
 ·intro args as_ ob rs I w has hg ho;unfold gCheckSection at hg;split at hg
  ·rename_i b0 b1 b2 a0 a1;cases hg
   have e:(args.map (V.val I)).toArray=#[.agg (jdZ b0 b1 b2 a0 a1)]:=by
    have hto:=toAs0 (I:=I) w has;rw[<-hto];rfl
   rw[e];refine(fV.1 (jDB b0 b1 b2 a0 a1 w)).mono ?_;rintro e w' ⟨rfl,h⟩;exact⟨rfl,h⟩
  ·cases hg
 ·intro as_ ob rs hg;unfold gCheckSection at hg;split at hg
  ·cases hg;refine⟨fun a ha c=>?_,fun r hr t c=>?_⟩
   ·simp only[z6]at ha;subst ha;exact fun h=>by cases h
   ·simp only[z6]at hr;subst hr;exact fun h=>by cases h
  ·cases hg
end Go.Sx09
namespace Go.Sh
open Go Go.Proofs Go.RowKit Go.Sx
abbrev sp_179:jab->jab:=jal 179 true (jtz Sx09.gCheckSection)
def sp_179_ok {sp:jab} (h:jam Tryz.prog sp):jam Tryz.prog (sp_179 sp):=jch Sx09.checkSection_ok h
end Go.Sh
end

section
namespace Go.Sh
open Go Go.Proofs Go.RowKit Go.Sx
abbrev sp_123:jab->jab:=sp_123_124
def sp_123_ok {sp:jab} (h:jam Tryz.prog sp):jam Tryz.prog (sp_123 sp):=sp_123_124_ok h
abbrev sp_125:jab->jab:=sp_125_126
def sp_125_ok {sp:jab} (h:jam Tryz.prog sp):jam Tryz.prog (sp_125 sp):=sp_125_126_ok h
open Go.IntKind (wrap)
set_option maxRecDepth 100000
def joB:List (Option Cont):=[some (.recs 5 [])]
def y78 (c:List (List Int)) (x0:Int):Option (Int ⊕ ((Int × Int) ⊕ Unit)) :=
 if x0<(↑c.length:Int)then if 0<=x0∧x0<(↑c.length:Int)then
  if zf x0<za c then if(Sx09.chkS (zb (zb c x0.toNat []) 0 (0:Int)) (zb (zb c x0.toNat []) 1 (0:Int)) (zb (zb c x0.toNat []) 2 (0:Int)) (zb (zb c x0.toNat []) 3 (0:Int)) (zb (zb c x0.toNat []) 4 (0:Int))!=0)=true then some (.inr ((.inl ((x0,Sx09.chkS (zb (zb c x0.toNat []) 0 (0:Int)) (zb (zb c x0.toNat []) 1 (0:Int)) (zb (zb c x0.toNat []) 2 (0:Int)) (zb (zb c x0.toNat []) 3 (0:Int)) (zb (zb c x0.toNat []) 4 (0:Int)))))))
   else
   some (.inl (wrap .i64 (x0+1)))
  else none
  else none
 else some (.inr ((.inr ())))
def jkE (u3:Int × Int):Option (Int × Int) :=some (u3.1,u3.2)
def jkF (u4:Unit):Option (Int × Int) :=some (((0:Int),0))
def jfG:((Int × Int) ⊕ Unit)->Option (Int × Int) :=(qy (jkE) (jkF))
def jrc (c:List (List Int)):Option (Int × Int) :=
 if(↑c.length:Int)>6 then some (((0:Int),8))
 else ze (jae (y78 c) big (0:Int)) (jfG)
def jgw:List A->Option (Prop × List RV)|[.r (.recs 5 c)]=>some (ok (jrc c),[.d (.i .i64 ((val (jrc c)).1)),.d (.i .i64 ((val (jrc c)).2))])|_=>none
abbrev sp_174:jab->jab:=jal 174 true (jaK joB jgw)
def sp_174_ok:KO sp_174:=jag (kK (sp_179_ok jaf) Tryz.func174 (by kernel_rfl) fun as_ ob rs h ho=>by
 unfold jgw at h;split at h
 ·rename_i c;cases h;have ho:=jad ho
  generalize val (jrc c)=r at ho ⊢
  let l0:=lp0 (y78 c) jfG r fun z=>⟨[(10,.w (.c (.o 0))),(11,.w (.c (.d (.i .i64 ((↑c.length:Int)))))),(12,.w (.c (.d (.i .i64 z.1))))],[(0,.ext (.recs 5 c))],1⟩
  exact⟨by kernel_rfl,(fun _ id _=>match id with
   |0=>l0.li
   |_=>none),Sk.vd ho (.br
   (.obT (.obT (.rc)))
   (.loop (l0) (fun kk=>((0:Int),big)) fun z0 =>
   .br
   (.ob (.ob (.obT (.brB
   (.exit (.obT (.obT (.rc))))
   (.next)))))
   (.exit (.obT (.obT (.rc)))))) (by kernel_rfl)⟩
 ·cases h)
def jrd:List (Option Cont):=[some (.recs 5 [])]
def y45 (c:List (List Int)):Option Int :=
 ze (jrc c) fun r0 =>
 some r0.2
def jiK:List A->Option (Prop × List RV)|[.r (.recs 5 c)]=>some (ok (y45 c),[.d (.i .i64 ((val (y45 c))))])|_=>none
abbrev sp_161:jab->jab:=jal 161 true (jaK jrd jiK)
def sp_161_ok:KO sp_161:=jag (kK (sp_174_ok jaf) Tryz.func161 (by kernel_rfl) fun as_ ob rs h ho=>by
 unfold jiK at h;split at h
 ·rename_i c;cases h;have ho:=jad ho
  generalize val (y45 c)=r at ho ⊢
  exact⟨by kernel_rfl,fun _ _ _=>none,Sk.vd ho (.call (.obT (.rc))) (by kernel_rfl)⟩
 ·cases h)
def juO:List (Option Cont):=[some (.recs 5 [])]
def y26 (c:List (List Int)):Option (List (List Int) × Int) :=
 ze (y45 c) fun r0 =>
 if(r0 != 0)=true then some ([],r0)
 else if 0<=(↑c.length:Int)∧(↑c.length:Int)=(↑c.length:Int)∧(↑(32:Nat):Int)*(↑c.length:Int)<=281474976710656∧(↑c.length:Int)<=9223372036854775807 then some ((zh (zf (↑c.length:Int)) [(0:Int),0,0,0],0))
  else none
def jlF:List A->Option (Prop × List RV)|[.r (.recs 5 c)]=>some (ok (y26 c),[.row 174 (.recs 4 ((val (y26 c)).1)),.d (.i .i64 ((val (y26 c)).2))])|_=>none
abbrev sp_130:jab->jab:=jal 130 true (jaK juO jlF)
def sp_130_ok:KO sp_130:=jag (kK (sp_161_ok jaf) Tryz.func130 (by kernel_rfl) fun as_ ob rs h ho=>by
 unfold jlF at h;split at h
 ·rename_i c;cases h;have ho:=jad ho
  generalize val (y26 c)=r at ho ⊢
  exact⟨by kernel_rfl,fun _ _ _=>none,Sk.vd ho (.call (.brB
   (.obT (.obT (.ret (fun r=>(Ob (za r.1=(0:Nat)) ∧
 (Ob (val (y45 c)=r.2) ∧
 True))) ⟨⟨rfl⟩,⟨⟨rfl⟩,trivial⟩⟩)))
   (.ob (.obT (.obT (.rc)))))) (by kernel_rfl)⟩
 ·cases h)
def jwl:List SV:=[.a [.d,.x (.st zS [])],.c (.d)]
def jee (u5:zY) (u1:List (List NC)) (i:Int):Option Int :=
 if 0<=i∧i<(↑u1.length:Int)then if zf i<za u1 then
  ze (jly (nI u1 i.toNat (7:Nat)) u5 u1) fun r0 =>
  if(!r0)=true then if(nI u1 i.toNat (7:Nat)!=(-1:Int))=true then
   ze (jh0 (nS u1 i.toNat (0:Nat))) fun r1 =>
   if(!r1)=true then some (4:Int)
   else if(nS u1 i.toNat (0:Nat)==xd #[(115:UInt8),(116:UInt8),(97:UInt8),(110:UInt8),(100:UInt8)])=true then some (4:Int)
    else
    if 0<=z8 none (0:Int)∧z8 none 0<=z8 (some i) (↑u1.length:Int)∧z8 (some i) (↑u1.length:Int)<=(↑u1.length:Int)then
     ze (y9 (je (zf (z8 (some i) (↑u1.length:Int))-0) (jf (0:Nat) u1)) (nS u1 i.toNat (0:Nat)) (nI u1 i.toNat (1:Nat)) (nL u1 i.toNat (2:Nat)) (nL u1 i.toNat (3:Nat)) (nL u1 i.toNat (4:Nat)) (nI u1 i.toNat (5:Nat)) (nR u1 i.toNat (6:Nat)) (nI u1 i.toNat (7:Nat))) fun r2 =>
     if(r2)=true then
     some (5:Int)
     else
     ze (y34 (nI u1 i.toNat (1:Nat)) (0:Int) (4:Int)) fun r3 =>
     if(!r3)=true then some (15:Int)
     else
      ze (jdr (nS u1 i.toNat (0:Nat)) (nI u1 i.toNat (1:Nat)) (nL u1 i.toNat (2:Nat)) (nL u1 i.toNat (3:Nat)) (nL u1 i.toNat (4:Nat)) (nI u1 i.toNat (5:Nat)) (nR u1 i.toNat (6:Nat)) (nI u1 i.toNat (7:Nat))) fun r4 =>
      if(!r4)=true then
      some (10:Int)
      else
      some (6:Int)
    else none
   else
   ze (y17 (nL u1 i.toNat (2:Nat)) u5 u1) fun r5 =>
   ze (jh0 (nS u1 i.toNat (0:Nat))) fun r1 =>
   if(!r1)=true then some (4:Int)
   else if(nS u1 i.toNat (0:Nat)==xd #[(115:UInt8),(116:UInt8),(97:UInt8),(110:UInt8),(100:UInt8)])=true then some (4:Int)
    else
    if 0<=z8 none (0:Int)∧z8 none 0<=z8 (some i) (↑u1.length:Int)∧z8 (some i) (↑u1.length:Int)<=(↑u1.length:Int)then
     ze (y9 (je (zf (z8 (some i) (↑u1.length:Int))-0) (jf (0:Nat) u1)) (nS u1 i.toNat (0:Nat)) (nI u1 i.toNat (1:Nat)) (nL u1 i.toNat (2:Nat)) (nL u1 i.toNat (3:Nat)) (nL u1 i.toNat (4:Nat)) (nI u1 i.toNat (5:Nat)) (nR u1 i.toNat (6:Nat)) (nI u1 i.toNat (7:Nat))) fun r2 =>
     if(r2)=true then
     some (5:Int)
     else
     ze (y34 (nI u1 i.toNat (1:Nat)) (0:Int) (4:Int)) fun r3 =>
     if(!r3)=true then some (15:Int)
     else
      ze (jdr (nS u1 i.toNat (0:Nat)) (nI u1 i.toNat (1:Nat)) (nL u1 i.toNat (2:Nat)) (nL u1 i.toNat (3:Nat)) (nL u1 i.toNat (4:Nat)) (nI u1 i.toNat (5:Nat)) (nR u1 i.toNat (6:Nat)) (nI u1 i.toNat (7:Nat))) fun r4 =>
      if(!r4)=true then
      some (10:Int)
      else
      if(r5)=true then some (6:Int)
      else
       ze (jdq (nL u1 i.toNat (2:Nat))) fun r6 =>
       if(r6)=true then
       some (26:Int)
       else
       ze (jdW (nS u1 i.toNat (0:Nat)) (nI u1 i.toNat (1:Nat)) (nL u1 i.toNat (2:Nat)) (nL u1 i.toNat (3:Nat)) (nL u1 i.toNat (4:Nat)) (nI u1 i.toNat (5:Nat)) (nR u1 i.toNat (6:Nat)) (nI u1 i.toNat (7:Nat))) fun r7 =>
       if(!r7)=true then some (2:Int)
       else if(nI u1 i.toNat (1:Nat)!=3)=true then
        ze (y50 ((↑(za (nR u1 i.toNat (6:Nat))):Int)==0) (10:Int)) fun r8 =>
        some r8
        else
        ze (y26 (nR u1 i.toNat (6:Nat))) fun r9 =>
        some r9.2
    else none
  else
   ze (y17 (nL u1 i.toNat (2:Nat)) u5 u1) fun r5 =>
   ze (jh0 (nS u1 i.toNat (0:Nat))) fun r1 =>
   if(!r1)=true then
   some (4:Int)
   else
   if(nS u1 i.toNat (0:Nat)==xd #[(115:UInt8),(116:UInt8),(97:UInt8),(110:UInt8),(100:UInt8)])=true then some (4:Int)
   else if 0<=z8 none (0:Int)∧z8 none 0<=z8 (some i) (↑u1.length:Int)∧z8 (some i) (↑u1.length:Int)<=(↑u1.length:Int)then
    ze (y9 (je (zf (z8 (some i) (↑u1.length:Int))-0) (jf (0:Nat) u1)) (nS u1 i.toNat (0:Nat)) (nI u1 i.toNat (1:Nat)) (nL u1 i.toNat (2:Nat)) (nL u1 i.toNat (3:Nat)) (nL u1 i.toNat (4:Nat)) (nI u1 i.toNat (5:Nat)) (nR u1 i.toNat (6:Nat)) (nI u1 i.toNat (7:Nat))) fun r2 =>
    if(r2)=true then some (5:Int)
    else
     ze (y34 (nI u1 i.toNat (1:Nat)) (0:Int) (4:Int)) fun r3 =>
     if(!r3)=true then
     some (15:Int)
     else
     ze (jdr (nS u1 i.toNat (0:Nat)) (nI u1 i.toNat (1:Nat)) (nL u1 i.toNat (2:Nat)) (nL u1 i.toNat (3:Nat)) (nL u1 i.toNat (4:Nat)) (nI u1 i.toNat (5:Nat)) (nR u1 i.toNat (6:Nat)) (nI u1 i.toNat (7:Nat))) fun r4 =>
     if(!r4)=true then some (10:Int)
     else if(r5)=true then some (6:Int)
      else
      ze (jdq (nL u1 i.toNat (2:Nat))) fun r6 =>
      if(r6)=true then some (26:Int)
      else
       ze (jdW (nS u1 i.toNat (0:Nat)) (nI u1 i.toNat (1:Nat)) (nL u1 i.toNat (2:Nat)) (nL u1 i.toNat (3:Nat)) (nL u1 i.toNat (4:Nat)) (nI u1 i.toNat (5:Nat)) (nR u1 i.toNat (6:Nat)) (nI u1 i.toNat (7:Nat))) fun r7 =>
       if(!r7)=true then
       some (2:Int)
       else
       if(nI u1 i.toNat (1:Nat)!=3)=true then
        ze (y50 ((↑(za (nR u1 i.toNat (6:Nat))):Int)==0) (10:Int)) fun r8 =>
        some r8
       else
        ze (y26 (nR u1 i.toNat (6:Nat))) fun r9 =>
        some r9.2
    else none
  else none
 else none
def jnQ:List Lf->Option GT|[.d (.s u5),.x (.st [.s,.i .i64,.ints .i64,.ints .i64,.ints .i64,.i .i64,.recs 5,.i .i64] u1),.d (.i .i64 i)]=>some (.leaf (ok (jee u5 u1 i)) [.c (.d (.i .i64 ((val (jee u5 u1 i)))))])|_=>none
abbrev sp_79:jab->jab:=jal 79 true (jak jwl jnQ)
def sp_79_ok:KO sp_79:=jag (kT (sp_122_ok (sp_124_ok (sp_123_ok (sp_78_ok (sp_126_ok (sp_125_ok (sp_84_ok (sp_127_ok (sp_128_ok (sp_129_ok (sp_77_ok (sp_130_ok jaf)))))))))))) Tryz.func79 (by kernel_rfl) fun ls t h ho=>by
 unfold jnQ at h;split at h
 ·rename_i u5 u1 i;cases h;have ho:=jad ho
  generalize val (jee u5 u1 i)=r at ho ⊢
  exact⟨by kernel_rfl,fun _ _ _=>none,Sk.vd ho (.ob (.ob (.call (.brB
   (.brB
   (.call (.brB
   (.obT (.rc))
   (.brB
   (.obT (.rc))
   (.ob (.call (.brB
   (.obT (.rc))
   (.call (.brB
   (.obT (.rc))
   (.call (.brB
   (.obT (.rc))
   (.obT (.rc))))))))))))
   (.call (.call (.brB
   (.obT (.rc))
   (.brB
   (.obT (.rc))
   (.ob (.call (.brB
   (.obT (.rc))
   (.call (.brB
   (.obT (.rc))
   (.call (.brB
   (.obT (.rc))
   (.brB
   (.obT (.rc))
   (.call (.brB
   (.obT (.rc))
   (.call (.brB
   (.obT (.rc))
   (.brB
   (.call (.obT (.rc)))
   (.call (.obT (.rc)))))))))))))))))))))
   (.call (.call (.brB
   (.obT (.rc))
   (.brB
   (.obT (.rc))
   (.ob (.call (.brB
   (.obT (.rc))
   (.call (.brB
   (.obT (.rc))
   (.call (.brB
   (.obT (.rc))
   (.brB
   (.obT (.rc))
   (.call (.brB
   (.obT (.rc))
   (.call (.brB
   (.obT (.rc))
   (.brB
   (.call (.obT (.rc)))
   (.call (.obT (.rc)))))))))))))))))))))))) (by kernel_rfl)⟩
 ·cases h)
def jre:List SV:=[.a [.d,.x (.st zS [])]]
def y68 (u5:zY) (u1:List (List NC)) (x0:Int):Option (Int ⊕ ((Int × Int) ⊕ Unit)) :=
 if x0<(↑u1.length:Int)then
  ze (jee u5 u1 x0) fun r4 =>
  if(r4 != 0)=true then
  some (.inr ((.inl (x0,r4))))
  else
  some (.inl (wrap .i64 (x0+1)))
 else some (.inr ((.inr ())))
def jmZ (u3:Int × Int):Option (Int × Int) :=some (u3.1,u3.2)
def jm0 (u4:Unit):Option (Int × Int) :=some (((0:Int),0))
def y210:((Int × Int) ⊕ Unit)->Option (Int × Int) :=(qy (jmZ) (jm0))
def y69 (u5:zY) (u1:List (List NC)):Option (Int × Int) :=
 ze (jh0 u5) fun r0 =>
 ze (y50 r0 (4:Int)) fun r1 =>
 ze (y50 (decide ((↑u1.length:Int)<=24)) (8:Int)) fun r2 =>
 ze (jcH [r1,r2]) fun r3 =>
 if(r3 != 0)=true then some (((0:Int),r3))
 else ze (jae (y68 u5 u1) big (0:Int)) (y210)
def jiL:List Lf->Option GT|[.d (.s u5),.x (.st [.s,.i .i64,.ints .i64,.ints .i64,.ints .i64,.i .i64,.recs 5,.i .i64] u1)]=>some (.leaf (ok (y69 u5 u1)) [.c (.d (.i .i64 ((val (y69 u5 u1)).1))),.c (.d (.i .i64 ((val (y69 u5 u1)).2)))])|_=>none
abbrev sp_18:jab->jab:=jal 18 true (jak jre jiL)
def sp_18_ok:KO sp_18:=jag (kT (sp_78_ok (sp_77_ok (sp_76_ok (sp_79_ok jaf)))) Tryz.func18 (by kernel_rfl) fun ls t h ho=>by
 unfold jiL at h;split at h
 ·rename_i u5 u1;cases h;have ho:=jad ho
  generalize val (y69 u5 u1)=r at ho ⊢
  let l0:=lp0 (y68 u5 u1) y210 r fun z=>⟨[(1,.w (.c (.p 1 0 1 0))),(23,.w (.c (.d (.i .i64 ((↑u1.length:Int)))))),(24,.w (.c (.d (.i .i64 z.1))))],[(1,.box 24 [.d (.s u5),.o 0]),(0,.xext (XC.st zS u1))],2⟩
  exact⟨by kernel_rfl,(fun _ id _=>match id with
   |0=>l0.li
   |_=>none),Sk.vd ho (.call (.call (.call (.call (.brB
   (.obT (.obT (.rc)))
   (.loop (l0) (fun kk=>((0:Int),big)) fun z0 =>
   .br
   (.call (.brB
   (.exit (.obT (.obT (.rc))))
   (.next)))
   (.exit (.obT (.obT (.rc)))))))))) (by kernel_rfl)⟩
 ·cases h)
end Go.Sh
end

section
namespace Go.Sx09
open Go Go.Proofs Go.RowKit Go.Shelf Go.Sx
attribute [local go_sem] jP
structure KpS (K:Nat->Prop) (A C:zr):Prop where
 size:A.heap.size<=C.heap.size
 same:∀k o,K k->A.heap[k]?=some o->o.isCells=true->C.heap[k]?=some o
def kps_t {K:Nat->Prop} {A B C:zr} (h:KpS K A B) (k:KpS K B C):KpS K A C:=⟨xb h.size k.size,fun x o hx ho hc=>k.same x o hx (h.same x o hx ho hc) hc⟩
def kps_b {K:Nat->Prop} {w:zr} (W:zr) (l:Nat) (o o':Obj) (_:w.heap.size<=l) (h:W.heap[l]?=some o) (hc:o.isCells=false) (_:o.isWalk=false):KpS K W (W.putObj l o') :=
 ⟨by simp,fun k u _ hk hu=>by
  have hne:l≠k:=fun e=>by subst e;rw[h]at hk;cases hk;rw[hc]at hu;cases hu
  exact(World.putObj_heap_other (fun e=>hne e.symm)).trans hk⟩
def jzL {K:Nat->Prop} {A B:zr} (h:yn A.heap.size A B):KpS K A B:=⟨h.size,fun k o _ hk _=>(h.block k (zM.1 hk).1).trans hk⟩
def needL (L:List Int) (st:Int):List Int:=if st=-1 then L else L++[st]
def stN (y:zs) (L:List Int) (v:List zs) (st:Int) (k:Nat):St :=⟨[(18,vi .i64 k),(17,vi .i64 L.length),(16,.w (.c (.o 0))),(4,.w (.c (.p 1 0 1 0))),(0,.w (.c (.d (.v y))))],[(0,.ext (.ints .i64 L)),(1,.ebox (v.map (fun x=>C.d (.v x))++[.d (.i .i64 st)]))],2⟩
def stNc (y:zs) (L:List Int) (v:List zs) (st:Int) (k:Nat):St:=⟨(19,vb (decide ((k:Int)<L.length)))::(stN y L v st k).tm,(stN y L v st k).hp,2⟩
def stNd (y:zs) (L:List Int) (v:List zs) (st:Int) (k:Nat):St:=⟨(6,vi .i64 (L.getD k 0))::(stN y L v st k).tm,(stN y L v st k).hp,2⟩
def stNe (y:zs) (L:List Int) (v:List zs) (st:Int) (k:Nat):St:=⟨(29,vb (st != -1))::(stN y L v st k).tm,(stN y L v st k).hp,2⟩
abbrev pn (c:jn) (st st2:St):Prop:=sx Tryz.prog (fun _=>none) 34 2 0 (fun _ _ _=>none) (fun _ _ _=>False) c 0 [] st (fun e st'=>match e with | .normal=>Le 2 st' st2|_=>False)
section
variable (y:zs) (L:List Int) (v0 v1 v2 v3 v4 v5 v6:zs) (st:Int) (k:Nat)
def pn1:pn (sub [1,0,1,0,0,0] (bodyOf Tryz.f132)) (stN y L [v0,v1,v2,v3,v4,v5,v6] st k) (stNc y L [v0,v1,v2,v3,v4,v5,v6] st k):=by
 refine js (by kernel_rfl:(Ob ((decide ((k:Int)<L.length))=decide ((k:Int)<L.length))∧Ob ((k:Int)=k)∧Ob ((L.length:Int)=L.length)∧Ob ((0:Nat)=0)∧Ob (y=y)∧Ob (L=L)∧Ob (v0=v0)∧Ob (v1=v1)∧Ob (v2=v2)∧Ob (v3=v3)∧Ob (v4=v4)∧Ob (v5=v5)∧Ob (v6=v6)∧Ob (st=st)∧True)=_) ?_;exact⟨⟨rfl⟩,⟨rfl⟩,⟨rfl⟩,⟨rfl⟩,⟨rfl⟩,⟨rfl⟩,⟨rfl⟩,⟨rfl⟩,⟨rfl⟩,⟨rfl⟩,⟨rfl⟩,⟨rfl⟩,⟨rfl⟩,⟨rfl⟩,trivial⟩
def pn2 (hk:k<L.length):pn (sub [1,0,1,0,0,1,1,0,0,0] (bodyOf Tryz.f132)) (stNc y L [v0,v1,v2,v3,v4,v5,v6] st k) (stNd y L [v0,v1,v2,v3,v4,v5,v6] st k):=by
 refine js (by kernel_rfl:(Ob (0<=(k:Int)∧(k:Int)<(L.length:Int))∧Ob ((k:Int).toNat<L.length)∧Ob (L.getD (k:Int).toNat 0=L.getD k 0)∧Ob ((k:Int)=k)∧Ob ((L.length:Int)=L.length)∧Ob ((0:Nat)=0)∧Ob (y=y)∧Ob (L=L)∧Ob (v0=v0)∧Ob (v1=v1)∧Ob (v2=v2)∧Ob (v3=v3)∧Ob (v4=v4)∧Ob (v5=v5)∧Ob (v6=v6)∧Ob (st=st)∧True)=_) ?_;exact⟨⟨by omega⟩,⟨by omega⟩,⟨rfl⟩,⟨rfl⟩,⟨rfl⟩,⟨rfl⟩,⟨rfl⟩,⟨rfl⟩,⟨rfl⟩,⟨rfl⟩,⟨rfl⟩,⟨rfl⟩,⟨rfl⟩,⟨rfl⟩,⟨rfl⟩,⟨rfl⟩,trivial⟩
def pn3 (hk:(k:Int)+1<=9223372036854775807):pn (sub [1,0,1,0,0,1,1,1] (bodyOf Tryz.f132)) (stN y L [v0,v1,v2,v3,v4,v5,v6] st k) (stN y L [v0,v1,v2,v3,v4,v5,v6] st (k+1)):=by
 refine js (by kernel_rfl:(Ob (qP.wrap ((k:Int)+1)=((k+1:Nat):Int))∧Ob ((L.length:Int)=L.length)∧Ob ((0:Nat)=0)∧Ob (y=y)∧Ob (L=L)∧Ob (v0=v0)∧Ob (v1=v1)∧Ob (v2=v2)∧Ob (v3=v3)∧Ob (v4=v4)∧Ob (v5=v5)∧Ob (v6=v6)∧Ob (st=st)∧True)=_) ?_;refine⟨⟨?_⟩,⟨rfl⟩,⟨rfl⟩,⟨rfl⟩,⟨rfl⟩,⟨rfl⟩,⟨rfl⟩,⟨rfl⟩,⟨rfl⟩,⟨rfl⟩,⟨rfl⟩,⟨rfl⟩,⟨rfl⟩,trivial⟩;rw[fA _ (by omega)];omega
def pn4:pn (sub [1,1,0] (bodyOf Tryz.f132)) (stN y L [v0,v1,v2,v3,v4,v5,v6] st k) (stNe y L [v0,v1,v2,v3,v4,v5,v6] st k):=by
 refine js (by kernel_rfl:(Ob True∧Ob ((st != (-1:Int))=(st != (-1:Int)))∧Ob ((k:Int)=k)∧Ob ((L.length:Int)=L.length)∧Ob ((0:Nat)=0)∧Ob (y=y)∧Ob (L=L)∧Ob (v0=v0)∧Ob (v1=v1)∧Ob (v2=v2)∧Ob (v3=v3)∧Ob (v4=v4)∧Ob (v5=v5)∧Ob (v6=v6)∧Ob (st=st)∧True)=_) ?_;exact⟨⟨trivial⟩,⟨rfl⟩,⟨rfl⟩,⟨rfl⟩,⟨rfl⟩,⟨rfl⟩,⟨rfl⟩,⟨rfl⟩,⟨rfl⟩,⟨rfl⟩,⟨rfl⟩,⟨rfl⟩,⟨rfl⟩,⟨rfl⟩,⟨rfl⟩,trivial⟩
end
def jf9 {I:Env} {B:Kd} {N n0:Nat} {st:St} {a:Act} {w:zr} {t:Nat} {v:V} (h:Rel I B N n0 st a w) (hv:v.lt st.nx) (hlt:t<N):Rel I B N n0 ⟨(t,v)::st.tm,st.hp,st.nx⟩ (a.put (some t) (v.val I)) w:=by
 refine⟨fun x u hx=>?_,by rw[jbn];exact h.size,by rw[jb5];exact h.defers,h.heap,h.le,h.n0⟩;simp only[jaP]at hx;rw[jbB (fun y hy=>by cases hy;rw[h.size];exact hlt)];split at hx
 ·rename_i e;subst e;cases hx;exact⟨hv,by rw[if_pos rfl]⟩
 ·rename_i e;rw[if_neg (fun e'=>e (yf e'))];exact h.tm x u hx
def juP {o:qu} {v:zs} {n:Nat} {a:Act} {w:zr} {K:Act->zr->Prop} {Q:Exit->Act->zr->Prop} (h:(xg a.eval o).run Tryz.prog w=.ok (.value v) w) (hK:K (a.put o.dst v) w):o.wpIn xR n Tryz.prog a w K Q:=by
 refine⟨fun _ _=>trivial,?_⟩;rw[jE,jQ,h];exact hK
def jdC {o:qu} {t n N n0:Nat} {ob:Prop} {v:V} {I:Env} {B:Kd} {st:St} {a:Act} {w:zr} {K:Act->zr->Prop} {Q:Exit->Act->zr->Prop} (hr:Rel I B N n0 st a w) (hs:jcj Tryz.prog o.op (jcv st) st.hp=some (ob,v)) (hob:ob) (hd:o.dst=some t) (ht:t<N)
  (hK:∀a',Rel I B N n0 ⟨(t,v)::st.tm,st.hp,st.nx⟩ a' w->K a' w):o.wpIn xR n Tryz.prog a w K Q:=by
 obtain⟨B',_,hh⟩:=hr.heap;have h1:=jd8 hh hr.reads hs hob;refine juP h1.1 ?_;rw[hd];exact hK _ (jf9 hr h1.2 ht)
def jxd {I:Env} {B:Kd} {N n0:Nat} {s s0:St} {a:Act} {w:zr} (h:Rel I B N n0 s0 a w) (ht:∀t v,jaP s.tm t=some v->jaP s0.tm t=some v) (hh:s.hp=s0.hp) (hn:s.nx=s0.nx):Rel I B N n0 s a w :=⟨fun t v hv=>by rw[hn];exact h.tm t v (ht t v hv),h.size,h.defers,by rw[hh,hn];exact h.heap,h.le,by rw[hn];exact h.n0⟩
structure BetN (K:Nat->Prop) (y:zs) (L:List Int) (v:List zs) (st:Int) (k:Nat) (a:Act) (w:zr):Prop where
 rel:∃I,Rel I (kd fun x=>x<w.heap.size) 34 2 (stN y L v st k) a w∧(∀ad n cap,I 0=.slice (some ad) n cap->0<n->K ad.block)∧∀b o,I 1=.pointer (some ⟨b,o,none⟩)->K b
def jmO {K:Nat->Prop} {I:Env} {B:Kd} {L:List Int} {v:List zs} {st:Int} {a:Act} {w w':zr} {s:St} (h:Rel I B 34 2 s a w) (hs:s.hp=[(0,.ext (.ints .i64 L)),(1,.ebox (v.map (fun x=>C.d (.v x))++[.d (.i .i64 st)]))]) (h0:∀ad n cap,I 0=.slice (some ad) n cap->0<n->K ad.block) (h1:∀b o,I 1=.pointer (some ⟨b,o,none⟩)->K b) (hk:KpS K w w') :
  Rel I (kd fun x=>x<w'.heap.size) 34 2 s a w':=by
 obtain⟨B',_,hh⟩:=h.heap
 have keep:∀{b:Nat} {off:Nat} {u:zs},K b->w.cell? ⟨b,off,none⟩=some u->w'.cell? ⟨b,off,none⟩=some u:=fun {b off u} hK hc=>by
  obtain⟨o,ho,hoc⟩:=cells_of_cell hc;have h2:=hk.same _ o hK ho hoc;exact(xj (w:=w) (w':=w') (a:=⟨b,off,none⟩) (h2.trans (show w.heap[b]?=some o from ho).symm)).trans hc
 refine⟨h.tm,h.size,h.defers,⟨kd fun x=>x<w'.heap.size,Grow.refl _ _ _ _,⟨fun x o hf=>?_,fun x o x' o' b hf hf' hne hb=>?_,jfd⟩⟩,fun k hk=>jbJ.1 hk,h.n0⟩
 ·have hx:=hh.ok x o hf;refine⟨hx.1,hx.2.1,?_⟩;simp only[hs,find]at hf;split at hf
  ·rename_i e;subst e;cases hf;obtain⟨⟨ad,cap,hv,hc,hcells⟩,ho⟩:=hx.2.2
   have hrow:jaH w' (I 0) (.ints .i64 L):=by
    refine⟨ad,cap,hv,hc,fun hn=>?_⟩;obtain⟨b,off,hab,hxc⟩:=hcells hn;subst hab;exact⟨b,off,rfl,fun j z hj=>keep (h0 _ _ _ hv hn) (hxc j z hj)⟩
   exact⟨hrow,hrow.lt (zo 0)⟩
  ·split at hf
   ·rename_i e;subst e;cases hf;obtain⟨b,off,hv,hB,hcells⟩:=hx.2.2;have hK:=h1 b off hv;refine⟨b,off,hv,?_,fun j c hj=>keep hK (hcells j c hj)⟩;have hc0:=keep hK (hcells v.length (.d (.i .i64 st)) (by rw[List.getElem?_append_right (by simp)];simp));exact xe w' _ hc0
   ·cases hf
 ·simp only[hs,find]at hf;split at hf
  ·cases hf;cases hb
  ·split at hf
   ·cases hf;cases hb
   ·cases hf
def jlG {K:Nat->Prop} {A B:zr} (h:A.grownBy B none):KpS K A B:=⟨h.size,fun k o _ hk _=>(h.block k (zM.1 hk).1 (fun e=>by cases e)).trans hk⟩
def jsi {l:Nat} {fn tmps assign body:_} {x:zs} {W:zr} {a:Act} {s q ty:Nat} (hs:a.eval (.tmp s)=.func (.yield l) #[] #[]) (hq:a.eval (.tmp q)=x)
  (hy:(Instr.yield l #[x]).run Tryz.prog W=.ok (.round l fn tmps assign body) W) (o:qu) (ho:o.op=.call { callee:=.value (.tmp s),args:=#[.tmp q],argTypes:=#[ty] }) :
  ((o.semAt xR.round a.eval).run Tryz.prog W)=.ok (.round l fn tmps assign body) W:=by
 rw[jE,jQ];unfold xg;simp only[ho,resolve,hs,gY,zq,zt,zn,invoke,yj,zL,xp,hq];exact hy
def jzM {α:Type} {enc:α->Int} {A:List α} {L:List Int} {st:Int} (hA:A.map enc=needL L st) {k:Nat} (hk:k<L.length):∃h:k<A.length,enc A[k]=L.getD k 0:=by
 have hlen:A.length=(needL L st).length:=by rw[<-hA];simp
 have h1:k<(needL L st).length:=by
  unfold needL;split
  ·exact hk
  ·simp;omega
 refine⟨by omega,?_⟩;have h2:(A.map enc)[k]?=(needL L st)[k]?:=by rw[hA]
 rw[zR,zH (by omega)]at h2
 have h3:(needL L st)[k]?=L[k]?:=by
  unfold needL;split
  ·rfl
  ·rw[List.getElem?_append_left hk]
 rw[h3,zH hk]at h2;simp only[qk,zj]at h2;rw[h2];simp[zb,zH hk]
set_option maxHeartbeats 2000000 in
def jyn (n l:Nat) (K:Nat->Prop) (L:List Int) (v0 v1 v2 v3 v4 v5 v6:zs) (st:Int) (hL:(L.length:Int)<9223372036854775807) {α:Type} (enc:α->Int) (A:List α) (hA:A.map enc=needL L st) (J Jx:List α->zr->Prop)
  (hY:∀(k:Nat) (h:k<A.length) W,J (A.take k) W->YieldAt xR (n-1) Tryz.prog l #[.int .i64 (enc A[k])] W fun e W' =>
   (e=.returned (.bool true)∧J (A.take (k+1)) W'∧KpS K W W')∨(e=.returned (.bool false)∧Jx (A.take (k+1)) W'))
  (hJ:∀A B pre,J pre A->A.grownBy B none->J pre B) (a:Act) (w:zr) (hb:BetN K (.func (.yield l) #[] #[]) L [v0,v1,v2,v3,v4,v5,v6] st 0 a w) (hj0:J [] w)
  (R:zr->Prop) (hR:∀k W,k<=A.length->Jx (A.take k) W->R W) (Q:Act->zr->Prop) (hQ:∀a w,BetN K (.func (.yield l) #[] #[]) L [v0,v1,v2,v3,v4,v5,v6] st L.length a w->J (A.take L.length) w->Q a w) :
  (sub [1,0,1] (bodyOf Tryz.f132)).wpIn xR n Tryz.prog (Exit.then Q (bodyPost Tryz.prog Tryz.f132 fun e W'=>(∃v,e=.returned v)∧R W')) a w:=by
 refine fN (wpIn_loop (fun a w=>∃k,k<=L.length∧BetN K (.func (.yield l) #[] #[]) L [v0,v1,v2,v3,v4,v5,v6] st k a w∧J (A.take k) w) (fun a _=>L.length-(ku (a.tmps.getD 18 zJ)).toNat) ⟨0,by omega,hb,hj0⟩ ?_);rintro a w ⟨k,hk,⟨I,hr,hg0,hg1⟩,hj⟩
 have hmu:(ku (a.tmps.getD 18 zJ)).toNat=k:=by
  rw[(hr.tm 18 _ rfl).2];simp[ku]
 rw[hmu];refine yL (wpIn_wide.2 (yl (jjR hr (pn1 _ L v0 v1 v2 v3 v4 v5 v6 st k)) ?_));rintro e a1 w1 ⟨rfl,hw1,I1,hr1,hag1⟩;have hj1:=hJ _ _ _ hj hw1;have hc:a1.eval (.tmp 19)=.bool (decide ((k:Int)<L.length)):=(hr1.tm 19 _ rfl).2
 by_cases hlt:k<L.length
 ·refine yL (j5 (by rw[hc,decide_eq_true (by omega)]) (fD ?_));have hg0a:∀ad n cap,I1 0=.slice (some ad) n cap->0<n->K ad.block:=fun ad n cap h=>hg0 ad n cap (by rw[<-hag1 0 (by decide)];exact h);have hg1a:∀b o,I1 1=.pointer (some ⟨b,o,none⟩)->K b:=fun b o h=>hg1 b o (by rw[<-hag1 1 (by decide)];exact h);have hr1b:Rel I1 (kd fun x=>x<w1.heap.size) 34 2 (stNc (.func (.yield l) #[] #[]) L [v0,v1,v2,v3,v4,v5,v6] st k) a1 w1:=jmO hr1 rfl hg0a hg1a (jlG (gF w1 none));refine yL (fN (yL (wpIn_wide.2 (yl (jjR hr1b (pn2 _ L v0 v1 v2 v3 v4 v5 v6 st k hlt)) ?_))));rintro e a2 w2 ⟨rfl,hw2,I2,hr2,hag2⟩;have hj2:=hJ _ _ _ hj1 hw2;obtain⟨hkA,henc⟩:=jzM hA hlt;obtain⟨fn,tmps,assign,body,hy,hRd⟩:=hY k hkA w2 hj2;rw[henc]at hy;refine yL (gZ ?_);refine xK rfl fun K2 hK2=>jdC (t:=22) hr2 rfl trivial rfl (by decide) fun a3 hr3=>hK2 _ _ ?_;refine xK rfl fun K2 hK2=>jdC (t:=23) hr3 rfl trivial rfl (by decide) fun a4 hr4=>hK2 _ _ ?_;have g22:a4.eval (.tmp 22)=.func (.yield l) #[] #[]:=(hr4.tm 22 _ rfl).2;have g23:a4.eval (.tmp 23)=.int .i64 (L.getD k 0):=(hr4.tm 23 _ rfl).2;refine xK rfl fun K2 hK2=>⟨fun _ _=>trivial,?_⟩
  rw[jsi (ty:=3) g22 g23 hy _ rfl];refine⟨(fun h=>by cases h),hRd.mono ?_⟩;have hg0b:∀ad n cap,I2 0=.slice (some ad) n cap->0<n->K ad.block:=fun ad n cap h=>hg0a ad n cap (by rw[<-hag2 0 (by decide)];exact h);have hg1b:∀b o,I2 1=.pointer (some ⟨b,o,none⟩)->K b:=fun b o h=>hg1a b o (by rw[<-hag2 1 (by decide)];exact h);have hr5:∀(b:Bool) (w3:zr),KpS K w2 w3->Rel I2 (kd fun x=>x<w3.heap.size) 34 2 _ (a4.put (some 24) (.bool b)) w3:=fun b w3 hk3=>jmO (jf9 (v:=vb b) hr4 trivial (by decide)) rfl hg0b hg1b hk3;rintro e w3 (⟨rfl,hj3,hk3⟩|⟨rfl,hj3⟩)
  ·refine hK2 _ _ (xK rfl fun K3 hK3=>jdC (t:=25) (hr5 true w3 hk3) rfl trivial rfl (by decide) fun a5 hr6=>hK3 _ _ (j6 ?_));have g25:a5.eval (.tmp 25)=.bool false:=(hr6.tm 25 _ rfl).2;refine jR g25 (fD ?_)
   have hr7:Rel I2 (kd fun x=>x<w3.heap.size) 34 2 (stN (.func (.yield l) #[] #[]) L [v0,v1,v2,v3,v4,v5,v6] st k) a5 w3:=jxd hr6 (fun t v hv=>by
    simp only[stN,jaP]at hv;simp only[stNd,stN,jaP]
    repeat' split at hv
    all_goals first
     |(cases hv;done)
     |(subst_vars;simp only[hv];rfl)
     |(subst_vars;exact hv)) rfl rfl
   refine wpIn_wide.2 (yl (jjR hr7 (pn3 _ L v0 v1 v2 v3 v4 v5 v6 st k (by omega))) ?_);rintro e a7 w7 ⟨rfl,hw7,I7,hr8,hag7⟩;refine⟨⟨k+1,by omega,⟨I7,jmO hr8 rfl (fun ad n cap h=>hg0b ad n cap (by rw[<-hag7 0 (by decide)];exact h)) (fun b o h=>hg1b b o (by rw[<-hag7 1 (by decide)];exact h)) (jlG (gF w7 none)),fun ad n cap h=>hg0b ad n cap (by rw[<-hag7 0 (by decide)];exact h),fun b o h=>hg1b b o (by rw[<-hag7 1 (by decide)];exact h)⟩,hJ _ _ _ hj3 hw7⟩,?_⟩;rw[(hr8.tm 18 _ rfl).2];simp[ku];omega
  ·have hr4b:=jf9 (v:=vb false) (t:=24) hr4 trivial (by decide);have g24:(a4.put (some 24) (.bool false)).eval (.tmp 24)=.bool false:=(hr4b.tm 24 _ rfl).2;refine hK2 _ _ (xK rfl fun K3 hK3=>juP (v:=.bool true) ?_ (hK3 _ _ (j6 ?_)))
   ·unfold xg;dsimp only;rw[g24];rfl
   have hr5:=jf9 (v:=vb true) (t:=25) hr4b trivial (by decide);have g25:((a4.put (some 24) (.bool false)).put (some 25) (.bool true)).eval (.tmp 25)=.bool true:=(hr5.tm 25 _ rfl).2;refine j5 g25 (wpIn_ret ?_);exact⟨hr5.defers,.tuple #[],j7 rfl _ _ _,⟨_,rfl⟩,hR (k+1) _ (by omega) hj3⟩
 ·have hk5:k=L.length:=by omega
  subst hk5;refine yL (jR (by rw[hc,decide_eq_false (by omega)]) (wpIn_exit ?_));refine hQ _ _ ⟨I1,jxd (jmO hr1 rfl (fun ad n cap h=>hg0 ad n cap (by rw[<-hag1 0 (by decide)];exact h)) (fun b o h=>hg1 b o (by rw[<-hag1 1 (by decide)];exact h)) (jlG (gF w1 none))) (fun t v hv=>?_) rfl rfl,fun ad n cap h=>hg0 ad n cap (by rw[<-hag1 0 (by decide)];exact h),fun b o h=>hg1 b o (by rw[<-hag1 1 (by decide)];exact h)⟩ hj1;have hne:t≠19:=fun e=>by subst e;simp[stN,jaP]at hv
  simp only[stNc,jaP];rw[if_neg (jc hne)];exact hv
abbrev shU:List NK:=zS
def stI (y:zs) (nm:ByteArray) (l:List (List NC)) (i:Int) (co:zs):St:=⟨[(0,.w (.c (.d (.v y)))),(1,.w (.c (.p 1 0 1 0))),(2,.w (.c (.p 2 0 1 0)))],[(0,.box 4 [.d (.b false)]),(1,.ebox [.p 3 0 1 0]),(2,.ebox [.d (.i .i64 i)]),(3,.ebox [.d (.s nm),.o 4,.d (.v co)]),(4,.xext (.st shU l))],5⟩
def hpJ (l:List (List NC)) (i:Nat):Hp:=[(0,.box 4 [.d (.b false)]),(1,.box 118 [.d (.s (nS l i 0)),.d (.i .i64 (nI l i 1)),.o 2,.o 3,.o 4,.d (.i .i64 (nI l i 5)),.o 5,.d (.i .i64 (nI l i 7))]),(2,.ext (.ints .i64 (nL l i 2))),(3,.ext (.ints .i64 (nL l i 3))),(4,.ext (.ints .i64 (nL l i 4))),(5,.ext (.recs 5 (nR l i 6)))]
def stJ (y:zs) (l:List (List NC)) (i:Nat):St:=⟨[(4,.w (.c (.p 1 0 1 0))),(0,.w (.c (.d (.v y))))],hpJ l i,6⟩
def stJ2 (y:zs) (l:List (List NC)) (i:Nat):St:=⟨[(18,vi .i64 0),(17,vi .i64 (nL l i 2).length),(16,.w (.c (.o 2))),(4,.w (.c (.p 1 0 1 0))),(0,.w (.c (.d (.v y))))],hpJ l i,6⟩
def pnJ (y:zs) (l:List (List NC)) (i:Nat):sx Tryz.prog (fun _=>none) 34 1 0 (fun _ _ _=>none) (fun _ _ _=>False) (sub [1,0,0] (bodyOf Tryz.f132)) 0 [] (stJ y l i) (fun e st'=>match e with | .normal=>Le 1 st' (stJ2 y l i)|_=>False):=by
 refine js (by kernel_rfl:(Ob ((0:Int)=0)∧Ob (((nL l i 2).length:Int)=(nL l i 2).length)∧Ob ((0:Nat)=0)∧Ob (y=y)∧Ob (false=false)∧Ob (nS l i 0=nS l i 0)∧Ob (nI l i 1=nI l i 1)∧Ob (nI l i 5=nI l i 5)∧Ob (nI l i 7=nI l i 7)∧Ob (nL l i 2=nL l i 2)∧Ob (nL l i 3=nL l i 3)∧Ob (nL l i 4=nL l i 4)∧Ob (nR l i 6=nR l i 6)∧True)=_) ?_;exact⟨⟨rfl⟩,⟨rfl⟩,⟨rfl⟩,⟨rfl⟩,⟨rfl⟩,⟨rfl⟩,⟨rfl⟩,⟨rfl⟩,⟨rfl⟩,⟨rfl⟩,⟨rfl⟩,⟨rfl⟩,⟨rfl⟩,trivial⟩
def jdt {w:zr} {k j t:Nat} {vs:Array zs} {f:_} (h:w.heap[k]?=some (.cells vs t f)) {v:zs} (hv:vs[j]?=some v):w.cell? ⟨k,j,none⟩=some v:=by
 unfold fC;dsimp only;rw[h];simp[hv]
def jyo {α:Type} {enc:α->Int} {A:List α} {L:List Int} {st:Int} (hA:A.map enc=needL L st) (hst:st≠-1):∃h:L.length<A.length,enc A[L.length]=st∧A.length=L.length+1:=by
 have e:needL L st=L++[st]:=if_neg hst
 have hlen:A.length=L.length+1:=by
  have:(A.map enc).length=(L++[st]).length:=by rw[hA,e]
  simpa using this
 refine⟨by omega,?_,hlen⟩;have h2:(A.map enc)[L.length]?=(L++[st])[L.length]?:=by rw[hA,e]
 rw[zR,zH (by omega)]at h2;simpa using h2
set_option maxHeartbeats 4000000 in
def jzN (n l r:Nat) (nm:ByteArray) (gU:List (List NC)) (i:Int) (co:zs) (I0:Env) (W:zr)
  (hh:HRel I0 (kd fun k=>k<W.heap.size∧k≠r) (stI (.func (.yield l) #[] #[]) nm gU i co).hp 5 W) (hr0:I0 0=.pointer (some ⟨r,0,none⟩))
  (hi:0<=i∧i<gU.length) (hL:((nL gU i.toNat 2).length:Int)<9223372036854775807) {α:Type} (enc:α->Int) (A:List α) (hA:A.map enc=needL (nL gU i.toNat 2) (nI gU i.toNat 7)) (J Jx:List α->zr->Prop)
  (hY:∀(k:Nat) (h:k<A.length) W,J (A.take k) W->YieldAt xR (n-1) Tryz.prog l #[.int .i64 (enc A[k])] W fun e W' =>
   (e=.returned (.bool true)∧J (A.take (k+1)) W'∧KpS (fun k=>k≠r) W W')∨(e=.returned (.bool false)∧Jx (A.take (k+1)) W'))
  (hJ:AbidesFrom W.heap.size J) (h0:J [] W) :
  fT xR n Tryz.prog 132 #[.func (.yield l) #[] #[],(C.p 1 0 1 0).val I0,(C.p 2 0 1 0).val I0] W fun e W'=>(∃v,e=.returned v) ∧
   ((∃ys,ys=A∧J ys W')∨(∃pre,(∃k,k<=A.length∧pre=A.take k)∧Jx pre W')):=by
 refine gQ Tryz.func132 rfl trivial ?_ rfl;refine yL (wpIn_wide.2 ?_);have hsp:jam Tryz.prog (fun _=>none):=fun _ _ _ h=>by cases h
 obtain⟨y,hy⟩:∃y:zs,y=.func (.yield l) #[] #[]:=⟨_,rfl⟩
 rw[<-hy]at hh ⊢
 refine jbC (N:=34) (n0:=1) (B:=kd fun k=>k<W.heap.size∧k≠r) (I0:=I0) (w0:=W) (st:=stI y nm gU i co)
  (k:=fun st=>Le 1 st (stJ y gU i.toNat)) (by kernel_rfl) hsp (ds:=[]) _ _ I0 _ _ _ ?vc ?rel (jah.refl _ _) (Bel.refl _ _) ?next
 case vc =>
  refine js (by kernel_rfl:(Ob True∧Ob True∧Ob True∧Ob ((0:Int)<=i∧i<((XC.st shU gU).n:Int))∧Ob (i.toNat<(XC.st shU gU).n)∧Ob ((0:Nat)=0)∧Ob (y=y)∧Ob (false=false)∧Ob (nS gU i.toNat 0=nS gU i.toNat 0)∧Ob (nI gU i.toNat 1=nI gU i.toNat 1)∧Ob (nI gU i.toNat 5=nI gU i.toNat 5)∧Ob (nI gU i.toNat 7=nI gU i.toNat 7)∧Ob (nL gU i.toNat 2=nL gU i.toNat 2)∧Ob (nL gU i.toNat 3=nL gU i.toNat 3)∧Ob (nL gU i.toNat 4=nL gU i.toNat 4)∧Ob (nR gU i.toNat 6=nR gU i.toNat 6)∧True)=_) ?_;exact⟨⟨trivial⟩,⟨trivial⟩,⟨trivial⟩,⟨hi⟩,⟨by show i.toNat<gU.length;omega⟩,⟨rfl⟩,⟨rfl⟩,⟨rfl⟩,⟨rfl⟩,⟨rfl⟩,⟨rfl⟩,⟨rfl⟩,⟨rfl⟩,⟨rfl⟩,⟨rfl⟩,⟨rfl⟩,trivial⟩
 case rel =>
  refine jfq (N:=34) (n0:=1) (args:=[.w (.c (.d (.v y))),.w (.c (.p 1 0 1 0)),.w (.c (.p 2 0 1 0))]) (zQ rfl) (fun x hx=>?_) (by decide) I0 W hh (fun k hk=>(jbJ.1 hk).1);simp only[qr,g5,or_false]at hx;rcases hx with rfl|rfl|rfl
  ·trivial
  ·exact(by decide:1<5)
  ·exact(by decide:2<5)
 case next =>
  rintro I1 st1 a1 w1 hr1 hag1 hbl1 hle;obtain⟨I2,hr2,hag2⟩:=hle.rel hr1;refine yL (yL (wpIn_wide.2 (yl (ja2 hsp (fun _ _ _ _ _ _ _ _ _ h=>h.elim) (sub [1,0,0] (bodyOf Tryz.f132)) 0 [] (stJ y gU i.toNat) _ I2 a1 w1 (pnJ y gU i.toNat) hr2 (jah.refl _ _) (Bel.refl _ _)) ?_)));rintro e a2 w2 ⟨ex,I3,st3,rfl,hk3,hr3',hag3,hbl3⟩;cases ex with
  |exit j=>exact hk3.elim
  |ret=>exact hk3.elim
  |normal =>
   obtain⟨I4,hr4,hag4⟩:=hk3.rel hr3';have hI0:I4 0=.pointer (some ⟨r,0,none⟩):=(hag4 0 (by decide)).trans ((hag3 0 (by decide)).trans ((hag2 0 (by decide)).trans ((hag1 0 (by decide)).trans hr0)));have hbW:Bel (kd fun k=>k<W.heap.size∧k≠r).kp W w2:=hbl1.trans hbl3;obtain⟨B',gB,hh4⟩:=hr4.heap;have o0:=(hh4.ok 0 _ rfl).2.2;have o1:=(hh4.ok 1 _ rfl).2.2;have o2:=(hh4.ok 2 _ rfl).2.2;obtain⟨r',hr',hB0,hheap0⟩:=o0
   have err:r'=r:=by
    rw[hI0]at hr';cases hr';rfl
   subst err;obtain⟨k1,hk1,hB1,hheap1⟩:=o1;obtain⟨q0,hq0,hBq,hheapW⟩:=(hh.ok 0 _ rfl).2.2
   have eq0:q0=r':=by
    rw[hr0]at hq0;cases hq0;rfl
   subst eq0
   have hgr:W.grownBy w2 none:=by
    refine⟨hbW.os,hbW.tape,hbW.output,hbW.size,fun k hk _=>?_⟩
    by_cases e:k=q0
    ·subst e;rw[hheap0,hheapW];rfl
    ·exact hbW.block k ⟨hk,e⟩
   have hj2:J [] w2:=hJ [] W w2 none h0 hgr (fun r e=>by cases e);have hne1:k1≠q0:=fun e=>hh4.apart 1 _ 0 _ k1 rfl rfl (by decide) (by rw[hk1];rfl) (by rw[hI0,e];rfl)
   have hb:BetN (fun k=>k≠q0) y (nL gU i.toNat 2) [.string (nS gU i.toNat 0),.int .i64 (nI gU i.toNat 1),I4 2,I4 3,I4 4,.int .i64 (nI gU i.toNat 5),I4 5] (nI gU i.toNat 7) 0 a2 w2:=by
    refine⟨fun h=>if h=0 then I4 2 else I4 1,⟨fun t v hv=>?_,hr4.size,hr4.defers,⟨kd fun x=>x<w2.heap.size,Grow.refl _ _ _ _,⟨fun x o hf=>?_,fun x o x' o' b hf hf' hne hb=>?_,jfd⟩⟩,fun k hk=>jbJ.1 hk,zp _⟩,fun ad m cap hv hm=>?_,fun b o hv=>?_⟩
    ·simp only[stN,jaP]at hv;split at hv
     ·rename_i e;subst e;cases hv;exact⟨trivial,(hr4.tm 18 _ rfl).2⟩
     ·split at hv
      ·rename_i e;subst e;cases hv;exact⟨trivial,(hr4.tm 17 _ rfl).2⟩
      ·split at hv
       ·rename_i e;subst e;cases hv;exact⟨(by decide:0<2),(hr4.tm 16 _ rfl).2⟩
       ·split at hv
        ·rename_i e;subst e;cases hv;exact⟨(by decide:1<2),(hr4.tm 4 _ rfl).2⟩
        ·split at hv
         ·rename_i e;subst e;cases hv;exact⟨trivial,(hr4.tm 0 _ rfl).2⟩
         ·cases hv
    ·simp only[stN,find]at hf;split at hf
     ·rename_i e;subst e;cases hf;exact⟨(by decide:0<2),trivial,o2.1,o2.1.lt (zo 0)⟩
     ·split at hf
      ·rename_i e;subst e;cases hf;refine⟨(by decide:1<2),?_,k1,0,by simpa using hk1,(zM.1 hheap1).1,fun j c hj=>?_⟩
       ·intro c hc;simp only[zL,xp,qq,qS,qr,g5,or_false]at hc;rcases hc with rfl|rfl|rfl|rfl|rfl|rfl|rfl|rfl<;>trivial
       ·rw[qa];refine jdt hheap1 ?_
        match j,hj with
        |0,hj=>cases hj;rfl
        |1,hj=>cases hj;rfl
        |2,hj=>cases hj;rfl
        |3,hj=>cases hj;rfl
        |4,hj=>cases hj;rfl
        |5,hj=>cases hj;rfl
        |6,hj=>cases hj;rfl
        |7,hj=>cases hj;rfl
        |j+8,hj=>cases hj
      ·cases hf
    ·simp only[stN,find]at hf;split at hf
     ·cases hf;cases hb
     ·split at hf
      ·cases hf;cases hb
      ·cases hf
    ·intro e;have h2:=o2.2 ad m cap (by simpa using hv) hm;exact hB0 (.inl (e ▸ h2))
    ·intro e;have hv':I4 1=.pointer (some ⟨b,o,none⟩):=by simpa using hv
     rw[hk1]at hv';cases hv';exact hne1 e
   subst hy
   refine jyn n l (fun k=>k≠q0) _ _ _ _ _ _ _ _ _ hL enc A hA J Jx hY (fun A B pre hj hg=>hJ pre A B none hj hg (fun r e=>by cases e)) a2 w2 hb hj2
    (fun W'=>(∃ys,ys=A∧J ys W')∨(∃pre,(∃k,k<=A.length∧pre=A.take k)∧Jx pre W')) (fun k W hk hx=>.inr ⟨_,⟨k,hk,rfl⟩,hx⟩) _ ?_
   rintro a5 w5 ⟨I5,hr5,hg0,hg1⟩ hj5;refine yL (wpIn_wide.2 (yl (jjR hr5 (pn4 _ _ _ _ _ _ _ _ _ _ _)) ?_));rintro e a6 w6 ⟨rfl,hw6,I6,hr6,hag6⟩;have hj6:=hJ _ _ _ none hj5 hw6 (fun r e=>by cases e);have hc:a6.eval (.tmp 29)=.bool (nI gU i.toNat 7 != -1):=(hr6.tm 29 _ rfl).2
   by_cases hst:nI gU i.toNat 7=-1
   ·refine jR (by rw[hc,hst];rfl) (fD ?_);refine⟨hr6.defers,.tuple #[],j7 rfl _ _ _,⟨_,rfl⟩,.inl ⟨_,rfl,?_⟩⟩
    have hlen:A.length=(nL gU i.toNat 2).length:=by
     have:(A.map enc).length=(needL (nL gU i.toNat 2) (nI gU i.toNat 7)).length:=by rw[hA]
     rw[needL,if_pos hst]at this;simpa using this
    rw[<-hlen,yk]at hj6;exact hj6
   ·refine j5 (by rw[hc];simp[hst]) (gZ ?_);obtain⟨hkA,henc,hlen⟩:=jyo hA hst;obtain⟨fn,tmps,assign,body,hy,hRd⟩:=hY _ hkA w6 hj6;rw[henc]at hy;refine xK rfl fun K2 hK2=>jdC (t:=30) hr6 rfl trivial rfl (by decide) fun a7 hr7=>hK2 _ _ ?_;refine xK rfl fun K2 hK2=>jdC (t:=31) hr7 rfl trivial rfl (by decide) fun a8 hr8=>hK2 _ _ ?_;refine xK rfl fun K2 hK2=>jdC (t:=32) hr8 rfl trivial rfl (by decide) fun a9 hr9=>hK2 _ _ ?_;have g30:a9.eval (.tmp 30)=.func (.yield l) #[] #[]:=(hr9.tm 30 _ rfl).2;have g32:a9.eval (.tmp 32)=.int .i64 (nI gU i.toNat 7):=(hr9.tm 32 _ rfl).2;refine xK rfl fun K2 hK2=>⟨fun _ _=>trivial,?_⟩
    rw[jsi (ty:=3) g30 g32 hy _ rfl];refine⟨(fun h=>by cases h),hRd.mono ?_⟩;rintro e w7 (⟨rfl,hj7,hk7⟩|⟨rfl,hj7⟩)
    ·refine hK2 _ _ (j6 ?_);refine⟨(jf9 (t:=33) (v:=vb true) hr9 trivial (by decide)).defers,.tuple #[],j7 rfl _ _ _,⟨_,rfl⟩,.inl ⟨_,rfl,?_⟩⟩;rw[<-hlen,yk]at hj7;exact hj7
    ·refine hK2 _ _ (j6 ?_);exact⟨(jf9 (t:=33) (v:=vb false) hr9 trivial (by decide)).defers,.tuple #[],j7 rfl _ _ _,⟨_,rfl⟩,.inr ⟨_,⟨_,by omega,rfl⟩,hj7⟩⟩
end Go.Sx09
end

section
namespace Go.Sx09
open Go Go.Proofs Go.RowKit Go.Shelf Go.Sx
attribute [local go_sem] jP
set_option maxHeartbeats 2000000 in
def juQ (n:Nat) (p:Option Addr) (i:Int) (w:zr) :
  fT xR n Tryz.prog 86 #[.pointer p,.int .i64 i] w fun e w'=>e=.returned (.func (.func 132) #[] #[.pointer (some ⟨w.heap.size,0,none⟩),.pointer (some ⟨w.heap.size+1,0,none⟩)])∧w'=(w.alloc (.cells #[.pointer p] 126)).alloc (.cells #[.int .i64 i] 3):=by
 refine gQ Tryz.func86 rfl trivial ?_ rfl;simp only[Tryz.ntmps86,xJ,zB,qe,gR,gS,ju,jv,j8,jH,qS,qq]
 gi_wp2
 go_ret
 exact⟨rfl,rfl⟩
def jBi (w:zr) (c0 c1 c2 c3:Array zs) (t0 t1 t2 t3:TypeId):∃w2,w2.heap.size=w.heap.size+4∧yn w.heap.size w w2∧w2.heap[w.heap.size]?=some (.cells c0 t0 (0,0))∧w2.heap[w.heap.size+1]?=some (.cells c1 t1 (0,0)) ∧
  w2.heap[w.heap.size+1+1]?=some (.cells c2 t2 (0,0))∧w2.heap[w.heap.size+1+1+1]?=some (.cells c3 t3 (0,0))∧(((w.alloc (.cells c0 t0)).alloc (.cells c1 t1)).alloc (.cells c2 t2)).alloc (.cells c3 t3)=w2:=by
 have new:∀(w:zr) (c:Array zs) (t:TypeId) (m:Nat),w.heap.size=m->(w.alloc (.cells c t)).heap[m]?=some (.cells c t (0,0)):=fun w c t m e=>by subst e;exact World.alloc_heap_new w (.cells c t)
 have old:∀(w:zr) (o o':Obj) (k:Nat),w.heap[k]?=some o->(w.alloc o').heap[k]?=some o:=fun w o o' k h=>(Below.heap_alloc w o' k (zM.1 h).1).trans h;refine⟨_,by simp,(((xM _ w).alloc (zp _) _).alloc (by simp) _).alloc (by simp;omega) _ |>.alloc (by simp;omega) _,?_,?_,?_,?_,rfl⟩
 ·exact old _ _ _ _ (old _ _ _ _ (old _ _ _ _ (new w c0 t0 _ rfl)))
 ·exact old _ _ _ _ (old _ _ _ _ (new _ c1 t1 _ (by simp)))
 ·exact old _ _ _ _ (new _ c2 t2 _ (by simp))
 ·exact new _ c3 t3 _ (by simp)
def readyB (pl:List Bool) (L:List Int):Bool:=L.all fun x=>pl.getD x.toNat false
set_option maxHeartbeats 4000000 in
def ready_in (nm:ByteArray) (gU:List (List NC)) (od:List Int) (i:Int) (pl:List Bool) (I:Env) (w:zr)
  (hh:HRel I (kd fun k=>k<w.heap.size) [(3,.ext (.bools pl)),(2,.ebox [.d (.s nm),.o 0,.o 1]),(1,.ext (.ints .i64 od)),(0,.xext (.st shU gU))] 4 w)
  (hi:0<=i∧i<gU.length) (hL:((nL gU i.toNat 2).length:Int)<9223372036854775807) (hx:∀x∈needL (nL gU i.toNat 2) (nI gU i.toNat 7),0<=x∧x<pl.length) :
  fT xR 9 Tryz.prog 85 #[(C.p 2 0 1 0).val I,.int .i64 i,I 3] w fun e w'=>e=.returned (.bool (readyB pl (needL (nL gU i.toNat 2) (nI gU i.toNat 7))))∧yn w.heap.size w w':=by
 have h1:1<=9:=by omega
 have hro:xR.round=none:=rfl;obtain⟨gb,go,hgp,hgB,hgc⟩:=(hh.ok 2 _ rfl).2.2;have hrow:=(hh.ok 3 _ rfl).2.2;obtain⟨⟨pa,pc,hpv,hpc,hpcells⟩,hpo⟩:=hrow
 have hP:(C.p 2 0 1 0).val I=.pointer (some ⟨gb,go,none⟩):=by
  simp only[C.val,hgp,base];rfl
 rw[hP,hpv];refine callsIn_of_wp_marks Tryz.func85 rfl trivial ?_ hro;simp only[Tryz.ntmps85,xJ,zB,qe,gR,gS,ju,jv,j8,jH,qS,qq]
 gi_wp2_with (refine⟨trivial,?_⟩;gi_at_call 86;refine(juQ _ _ i _).mono ?_;rintro e w' ⟨rfl,rfl⟩)
 obtain⟨w2,hs2,hB0,k0,k1,k2,k3,hw2⟩:=jBi w #[.slice pa (Cont.bools pl).n pc] #[.bool false] #[.pointer (some ⟨gb,go,none⟩)] #[.int .i64 i] 133 4 126 3;rw[hw2]
 have hne:∀(A:List {x:Int // 0<=x∧x<pl.length}),A.map (fun x=>x.1)=needL (nL gU i.toNat 2) (nI gU i.toNat 7)->readyB pl (needL (nL gU i.toNat 2) (nI gU i.toNat 7))=A.all fun x=>pl.getD x.1.toNat false:=fun A hA=>by
  rw[<-hA];simp[readyB]
 obtain⟨A,hA⟩:∃A:List {x:Int // 0<=x∧x<pl.length},A.map (fun x=>x.1)=needL (nL gU i.toNat 2) (nI gU i.toNat 7) :=⟨(needL (nL gU i.toNat 2) (nI gU i.toNat 7)).attachWith _ hx,by simp⟩
 have hready:=hne A hA
 refine wpIn_rangeFunc_ownF hro h1 (gf:=132) (lb:=#[.pointer (some ⟨w.heap.size+1+1,0,none⟩),.pointer (some ⟨w.heap.size+1+1+1,0,none⟩)]) rfl trivial (enters_of Tryz.func132 (by kernel_rfl) rfl)
  (α:={x:Int // 0<=x∧x<pl.length}) (encs:=fun x=>#[.int .i64 x.1]) (Kp:=KpS fun k=>k≠w.heap.size+1) (S:=fun ys=>ys=A) (Sp:=fun pre=>∃k,k<=A.length∧pre=A.take k) (N:=A.length) (w0:=w2)
  ?seq kps_t kps_b (xM _ _) (fun _=>rfl)
  (fun pre W=>((∀y∈pre,pl.getD y.1.toNat false=true)∧W.cell? ⟨w.heap.size,0,none⟩=some (.slice pa (Cont.bools pl).n pc)∧W.cell? ⟨w.heap.size+1,0,none⟩=some (.bool false)∧W.frozen? ⟨w.heap.size+1,0,none⟩=false)∧yn w.heap.size w W)
  (fun c pre W=>(c=.ret∧(∃y∈pre,pl.getD y.1.toNat false=false)∧W.cell? ⟨w.heap.size+1,0,none⟩=some (.bool false))∧yn w.heap.size w W)
  (OwnFrom.and (Own.from (fun s A B row hs hg hr=>⟨hs.1,cell_kept hs.2.1 hg hr,cell_kept hs.2.2.1 hg hr,(frozen_kept hs.2.2.1 hg hr).trans hs.2.2.2⟩) _) (ownFrom_below (zp _) (by omega)))
  (fun c=>OwnFrom.and (Own.from (fun s A B row hs hg hr=>⟨hs.1,hs.2.1,cell_kept hs.2.2 hg hr⟩) _) (ownFrom_below (zp _) (by omega)))
  ⟨⟨by simp,jdt k0 rfl,jdt k1 rfl,?frozen⟩,hB0⟩
  (fun x=>{ tmps:=#[xr (some { block:=gb,off:=go }),x9 qP i,zx pa (Cont.bools pl).n pc,zJ,zJ,xr (some { block:=w.heap.size,off:=0 }),xr (some { block:=w.heap.size+1,off:=0 }),.int .i64 x.1,xr (some { block:=gb,off:=go }),x9 qP i,Value.func (Fn.func 132) #[] #[xr (some { block:=w.heap.size+1+1,off:=0 }),xr (some { block:=w.heap.size+1+1+1,off:=0 })],.int .i64 x.1,zJ,zJ,zJ,zJ,zJ],defers:=[] }) ?assign ?body ?done ?stop
 case frozen =>
  unfold kz;dsimp only;rw[k1];rfl
 case seq =>
  intro l J Jx W hW hJ hJx hY h0;have hBW:yn w.heap.size w W:=hB0.trans (hW.mono (by omega));have hsz:=hW.size;have at2:∀k o,k<w2.heap.size->w2.heap[k]?=some o->W.heap[k]?=some o:=fun k o hk ho=>(hW.block k hk).trans ho
  have hmono:∀k,(kd fun k=>k<w.heap.size).kp k->(kd fun k=>k<W.heap.size∧k≠w.heap.size+1).kp k:=fun k hk=>by
   have hk:k<w.heap.size:=hk;exact⟨by omega,by omega⟩
  have hbw:Bel (kd fun k=>k<w.heap.size).kp w W:=⟨hBW.os,hBW.tape,hBW.output,hBW.size,hBW.block⟩
  let I':Env:=fun h=>match h with|0=>.pointer (some ⟨w.heap.size+1,0,none⟩)|1=>.pointer (some ⟨w.heap.size+1+1,0,none⟩)|2=>.pointer (some ⟨w.heap.size+1+1+1,0,none⟩)|3=>I 2|_=>I 0
  have hx0:=(hh.ok 0 _ rfl).2.2
  have hrel:HRel I' (kd fun k=>k<W.heap.size∧k≠w.heap.size+1) (stI (.func (.yield l) #[] #[]) nm gU i (I 1)).hp 5 W:=by
   refine⟨fun x o hf=>?_,fun x o x' o' b hf hf' hne hb=>?_,jfd⟩
   ·simp only[stI,find]at hf;split at hf
    ·rename_i e;subst e;cases hf;exact⟨by decide,(fun c hc=>by simp at hc;subst hc;trivial),w.heap.size+1,rfl,fun h=>(jbJ.1 h).2 rfl,at2 _ _ (by omega) k1⟩
    ·split at hf
     ·rename_i e;subst e;cases hf;refine⟨by decide,(fun c hc=>by simp at hc;subst hc;exact(by decide:3<5)),w.heap.size+1+1,0,rfl,⟨by omega,by omega⟩,fun j c hj=>?_⟩;refine(jdt (at2 _ _ (by omega) k2) (j:=0+j) (v:=c.val I') ?_)
      match j,hj with
      |0,hj=>cases hj;exact congrArg some hP.symm
      |j+1,hj=>cases hj
     ·split at hf
      ·rename_i e;subst e;cases hf;refine⟨by decide,(fun c hc=>by simp at hc;subst hc;trivial),w.heap.size+1+1+1,0,rfl,⟨by omega,by omega⟩,fun j c hj=>?_⟩;refine(jdt (at2 _ _ (by omega) k3) (j:=0+j) (v:=c.val I') ?_)
       match j,hj with
       |0,hj=>cases hj;rfl
       |j+1,hj=>cases hj
      ·split at hf
       ·rename_i e;subst e;cases hf;refine⟨by decide,(fun c hc=>by simp at hc;rcases hc with rfl|rfl|rfl<;>first|exact True.intro|exact(by decide:4<5)),gb,go,hgp,hmono _ hgB,fun j c hj=>?_⟩;refine(hbw.cell (p:=⟨gb,go+j,none⟩) hgB).trans ?_
        match j,hj with
        |0,hj=>cases hj;exact hgc 0 _ rfl
        |1,hj=>cases hj;exact hgc 1 _ rfl
        |2,hj=>cases hj;exact hgc 2 _ rfl
        |j+3,hj=>cases hj
       ·split at hf
        ·rename_i e;subst e;cases hf;exact⟨by decide,trivial,(IsX.bel hx0 hbw).mono hmono⟩
        ·cases hf
   ·simp only[stI,find]at hf hf'
    have hz:∀y oy,find (stI (.func (.yield l) #[] #[]) nm gU i (I 1)).hp y=some oy->y≠0->oy.blk (I' y)=none:=fun y oy hy hy0=>by
     simp only[stI,find]at hy;rw[if_neg (jc hy0)]at hy
     repeat' split at hy
     all_goals (cases hy;try rfl)
    by_cases e:x=0
    ·rw[hz x' o' hf' (by omega)];intro h;cases h
    ·rw[hz x o hf e]at hb;cases hb
  refine(jzN _ l (w.heap.size+1) nm gU i (I 1) I' W hrel rfl hi hL (fun x=>x.1) A hA J Jx (fun k hk W1 hj=>?_) hJ h0);have e1:A.take (k+1)=A.take k++[A[k]]:=by rw[List.take_succ_eq_append_getElem hk]
  rw[e1];exact hY (A.take k) A[k] W1 hj (by rw[List.length_take];omega)
 case assign =>
  intro l x W K hK
  gi_wp2
  exact hK
 case body =>
  rintro l pre x W ⟨⟨hp,hv5,hcr,hfr⟩,hB⟩ _;have hlt:w.heap.size+1<W.heap.size:=xe W ⟨w.heap.size+1,0,none⟩ hcr;have hx1:=x.2.1;have hx2:=x.2.2;obtain⟨b,off,hab,hcells⟩:=hpcells (by show 0<pl.length;omega);subst hab
  have hcell:W.cell? ⟨b,off+x.1.toNat,none⟩=some (.bool (pl.getD x.1.toNat false)):=by
   have hc:=hcells x.1.toNat (.b (pl.getD x.1.toNat false)) (by
    have:=(Cont.bools pl).flat_get (i:=x.1.toNat) (j:=0) (by show x.1.toNat<pl.length;omega) Nat.one_pos;simpa [Cont.e,Cont.cell]using this)
   have hbl:b<w.heap.size:=xe w ⟨b,off+x.1.toNat,none⟩ hc;exact(hB.cell (p:=⟨b,off+x.1.toNat,none⟩) hbl).trans hc
  have hx3:x.1<((Cont.bools pl).n:Int):=hx2;clear hcells hready hA hne hpcells hpc hpo hgc hgB hgp hP hx hL hi hh hpv k0 k1 k2 k3 hs2 hB0 hw2;have hgd:pl.getD x.1.toNat false=pl[x.1.toNat]'(by omega):=by simp[zb,zH (show x.1.toNat<pl.length by omega)]
  gi_wp2
  ·rename_i hxx;exact⟨KeepsOthers.setCell _ _ _,⟨rfl,⟨x,qR.2 (.inr (by simp)),by rw[hgd];simpa using hxx⟩,yU _ _ _ (by rw[hcr];rfl)⟩,hB.setCell (p:=⟨w.heap.size+1,0,none⟩) (by simp) _⟩
  ·rename_i hxx;exact⟨KeepsOthers.refl _,jzL (xM _ _),⟨fun y hy=>(qR.1 hy).elim (hp y) (fun e=>by simp at e;subst e;rw[hgd];simpa using hxx),hv5,hcr,hfr⟩,hB⟩
 case done =>
  rintro D ys W hD rfl ⟨⟨hne,hv5,hcr,hfr⟩,hB⟩ hK;clear hpcells hpc hpo hgc hgB hgp hP hx hL hi hh hpv k0 k1 k2 k3 hB0 hw2
  gi_wp2
  have hK':=(KeepsOthers.setCell W ⟨w.heap.size+1,0,none⟩ (.bool true)).same D _ hK rfl;refine⟨by simp,.inl ⟨_,_,rfl,run_takeDeferred hK',?_⟩⟩;have hc5:=cell_kept (yU W ⟨w.heap.size+1,0,none⟩ (.bool true) (by rw[hcr];rfl)) (grownBy_putObj' _ D (.deferred none)) (fun r e=>by cases e;exact⟨_,hK',rfl⟩)
  have hall:readyB pl (needL (nL gU i.toNat 2) (nI gU i.toNat 7))=true:=by
   rw[hready];exact zy.2 fun y hy=>hne y hy
  refine⟨.bool true,?_,by rw[hall],(hB.setCell (p:=⟨w.heap.size+1,0,none⟩) (by simp) _).trans (belowK_b (w:=w) (zp _) _ D _ _ (by omega) hK' rfl rfl)⟩;simp[results,Tryz.f85,go_sem,hc5]
 case stop =>
  rintro D c pre W hD ⟨k,hk,rfl⟩ ⟨⟨rfl,⟨y,hy,hpy⟩,hcr⟩,hB⟩ hK;clear hpcells hpc hpo hgc hgB hgp hP hx hL hi hh hpv k0 k1 k2 k3 hB0 hw2
  gi_wp2
  refine⟨by simp,.inl ⟨_,_,rfl,run_takeDeferred hK,?_⟩⟩;have hc5:=cell_kept hcr (grownBy_putObj' _ D (.deferred none)) (fun r e=>by cases e;exact⟨_,hK,rfl⟩)
  have hall:readyB pl (needL (nL gU i.toNat 2) (nI gU i.toNat 7))=false:=by
   rw[hready,Bool.eq_false_iff];intro h;have:=zy.1 h y (List.mem_of_mem_take hy);rw[hpy]at this;cases this
  refine⟨.bool false,?_,by rw[hall],hB.trans (belowK_b (w:=w) (zp _) W D _ _ (by omega) hK rfl rfl)⟩;simp[results,Tryz.f85,go_sem,hc5]
end Go.Sx09
end

section
open Go.RowKit
namespace Go.Sx
section
variable [Globs] {P:zP}
def jBj {f:Nat} {fn:jL} {body:jn} {shs:List SV} {g:List Lf->Option GT} (hf:P.funcs[f]?=some fn) (hb:fn.body=some body) (hn:(fn.name == "runtime.NumGoroutine")=false)
  (h:∀ls t,g ls=some t->∃ob x,t=.leaf ob [.c (.d x)]∧(ob->∀b:Bv,jdM shs 0 ls=some b->∀I w,HRel I (kd fun k=>k<w.heap.size) b.hp b.n w->Calls P f (b.vs.map (V.val I)).toArray w fun e w'=>e=.returned x.val∧yn w.heap.size w w')) :
  jaF P f true (jak shs g):=by
 refine .inl ⟨jdn hf hb hn,fun I B w args hp nx t hS hob hlt hh hB=>?_⟩;unfold jak at hS;split at hS
 ·rename_i ls am hto;split at hS
  ·rename_i t' hg;cases hS;obtain⟨ob,x,rfl,hc⟩:=h ls t' hg;rw[jbZ]at hob;have hob:ob:=hob;obtain⟨b,I0,hbl,q⟩:=jhi (jxa hh hB) hh hB shs args ls am hto hlt 0 (fun _=>zJ) [];rw[yw]at hbl
   have hh0:HRel I0 (kd fun k=>k<w.heap.size) b.hp b.n w:=by
    refine⟨fun x o hf=>?_,fun x o x' o' k hf hf' _ hb=>?_,joq hh.glob hB⟩
    ·obtain⟨_,a2,a3,a4,_⟩:=q.heap x o hf;exact⟨a2,a3,a4⟩
    ·obtain⟨_,_,_,_,a5⟩:=q.heap x o hf;rw[a5]at hb;cases hb
   have hcalls:=hc hob b hbl I0 w hh0;rw[q.val]at hcalls;refine hcalls.mono ?_;rintro e w' ⟨rfl,hbw⟩;refine⟨I,?_,jah.refl _ _,?_,?_,⟨B,Grow.refl _ _ _ _,?_⟩,jc2 hbw hB,fun _=>hbw,fun _ h o k hle hf _=>?_⟩
   ·rw[jbZ];rfl
   ·rw[jbZ];trivial
   ·rw[jbZ];exact zp _
   ·rw[jbZ];exact hh.below hbw hB
   ·rw[jbZ]at hf;have:=(hh.ok h o hf).1;omega
  ·cases hS
 ·cases hS
end
end Go.Sx
end

section
namespace Go.Sh
open Go Go.Proofs Go.RowKit Go.Sx
def jsj:List SV:=[.c (.p [.d,.x (.st zS []),.r (.ints .i64 [])]),.c .d,.c (.r (.bools []))]
def jdD (gUnits:List (List NC)) (i:Int) (placed:List Bool):Option Bool :=
 if 0<=i∧i<gUnits.length then
  if((nL gUnits i.toNat 2).length:Int)<9223372036854775807∧(Sx09.needL (nL gUnits i.toNat 2) (nI gUnits i.toNat 7)).all (fun x=>decide (0<=x∧x<placed.length))=true then some (Sx09.readyB placed (Sx09.needL (nL gUnits i.toNat 2) (nI gUnits i.toNat 7)))
  else none
 else none
def jlH:List Lf->Option GT|[.d (.s gName),.x (.st [.s,.i .i64,.ints .i64,.ints .i64,.ints .i64,.i .i64,.recs 5,.i .i64] gUnits),.r (.ints .i64 order),.d (.i .i64 i),.r (.bools placed)]=>some (.leaf (ok (jdD gUnits i placed)) [.c (.d (.b (val (jdD gUnits i placed))))])|_=>none
abbrev sp_85:jab->jab:=jal 85 true (jak jsj jlH)
def jyp:jaF Tryz.prog 85 true (jak jsj jlH):=by
 refine jBj (fn:=Tryz.f85) (body:=bodyOf Tryz.f85) Tryz.func85 (by kernel_rfl) (by kernel_rfl) fun ls t h=>?_;unfold jlH at h;split at h
 ·rename_i gName gUnits order i placed;cases h;refine⟨_,_,rfl,fun hok b hb I w hh=>?_⟩
  have hbe:b=⟨[.w (.c (.p 2 0 1 0)),.w (.c (.d (.i .i64 i))),.w (.c (.o 3))],[(3,.ext (.bools placed)),(2,.ebox [.d (.s gName),.o 0,.o 1]),(1,.ext (.ints .i64 order)),(0,.xext (.st Sx09.shU gUnits))],4,[]⟩ :=yf (hb.symm.trans (by kernel_rfl))
  subst hbe;unfold ok jdD at hok;split at hok
  ·rename_i hi;split at hok
   ·rename_i hL
    have hv:val (jdD gUnits i placed)=Sx09.readyB placed (Sx09.needL (nL gUnits i.toNat 2) (nI gUnits i.toNat 7)):=by
     unfold jdD;rw[if_pos hi,if_pos hL];rfl
    rw[hv];exact(fV (n:=9)).1 (Sx09.ready_in gName gUnits order i placed I w hh hi hL.1 fun x hx=>by simpa using zy.1 hL.2 x hx)
   ·cases hok
  ·cases hok
 ·cases h
def sp_85_ok {sp:jab} (h:jam Tryz.prog sp):jam Tryz.prog (sp_85 sp):=jch jyp h
open Go.IntKind (wrap)
set_option maxRecDepth 100000
def jgx:List SV:=[.a [.d,.x (.st zS [])]]
def jcw (u1:List (List NC)) (x0:Int × List Bool × List Int) (x1:Int):Option (Int ⊕ Int) :=
 if x1<(↑u1.length:Int)then if 0<=x1∧x1<(↑x0.2.1.length:Int)then
  if zf x1<za x0.2.1 then if(!zb x0.2.1 x1.toNat false)=true then
   ze (jdD u1 x1 x0.2.1) fun r1 =>
   if(r1)=true then some (.inr x1)
   else some (.inl (wrap .i64 (x1+1)))
   else
   some (.inl (wrap .i64 (x1+1)))
  else none
  else none
 else some (.inr (-1:Int))
def jh2 (x0:Int × List Bool × List Int) (u7:Int):Option ((Int × List Bool × List Int) ⊕ (Unit ⊕ (List Int))) :=
 if(u7==(-1:Int))=true then some (.inr ((.inl ())))
 else if 0<=u7∧u7<(↑x0.2.1.length:Int)then
  if zf u7<za x0.2.1 then if(za x0.2.2+za [u7])*8<=140737488355328∧za x0.2.2+za [u7]<=9223372036854775807 then some (.inl ((wrap .i64 (x0.1+1),qz x0.2.1 u7.toNat true,x0.2.2++[u7])))
   else none
  else none
  else none
def jcf (u1:List (List NC)) (x0:(Int × List Bool × List Int)):Option ((Int × List Bool × List Int) ⊕ (Unit ⊕ (List Int))) :=
 if x0.1<(↑u1.length:Int)then ze (jae (jcw u1 x0) big (0:Int)) (jh2 x0)
 else some (.inr (.inr x0.2.2))
def jta (u3:Unit):Option Int :=some (19:Int)
def jtb (u4:List Int):Option Int :=none
def jh3:(Unit ⊕ (List Int))->Option Int :=(qy (jta) (jtb))
def jb1 (u5:zY) (u1:List (List NC)):Option Int :=
 ze (y69 u5 u1) fun r0 =>
 if(r0.2 != 0)=true then some r0.2
 else if 0<=(↑u1.length:Int)∧(↑u1.length:Int)=(↑u1.length:Int)∧(↑(1:Nat):Int)*(↑u1.length:Int)<=281474976710656∧(↑u1.length:Int)<=9223372036854775807 then ze (jae (jcf u1) big (((0:Int),zh (zf (↑u1.length:Int)) false,[]))) (jh3)
  else none
def jnR (u1:List (List NC)) (x0:Int × List Bool × List Int) (x1:Int):Option (Int ⊕ Int) :=
 if x1<(↑u1.length:Int)then if 0<=x1∧x1<(↑x0.2.1.length:Int)then
  if zf x1<za x0.2.1 then if(!zb x0.2.1 x1.toNat false)=true then
   ze (jdD u1 x1 x0.2.1) fun r1 =>
   if(r1)=true then some (.inr x1)
   else some (.inl (wrap .i64 (x1+1)))
   else
   some (.inl (wrap .i64 (x1+1)))
  else none
  else none
 else some (.inr (-1:Int))
def jnS (x0:Int × List Bool × List Int) (u7:Int):Option ((Int × List Bool × List Int) ⊕ (Unit ⊕ (List Int))) :=
 if(u7==(-1:Int))=true then some (.inr ((.inl ())))
 else if 0<=u7∧u7<(↑x0.2.1.length:Int)then
  if zf u7<za x0.2.1 then if(za x0.2.2+za [u7])*8<=140737488355328∧za x0.2.2+za [u7]<=9223372036854775807 then some (.inl ((wrap .i64 (x0.1+1),qz x0.2.1 u7.toNat true,x0.2.2++[u7])))
   else none
  else none
  else none
def jfe (u1:List (List NC)) (x0:(Int × List Bool × List Int)):Option ((Int × List Bool × List Int) ⊕ (Unit ⊕ (List Int))) :=
 if x0.1<(↑u1.length:Int)then ze (jae (jnR u1 x0) big (0:Int)) (jnS x0)
 else some (.inr (.inr x0.2.2))
def jtc (u5:zY) (u3:Unit):Option (ByteArray × List Int × Int) :=none
def jtd (u5:zY) (u4:List Int):Option (ByteArray × List Int × Int) :=some ((u5,u4,0))
def jh4 (u5:zY):(Unit ⊕ (List Int))->Option (ByteArray × List Int × Int) :=(qy (jtc u5) (jtd u5))
def jbD (u5:zY) (u1:List (List NC)):Option (ByteArray × List Int × Int) :=
 ze (y69 u5 u1) fun r0 =>
 if(r0.2 != 0)=true then none
 else if 0<=(↑u1.length:Int)∧(↑u1.length:Int)=(↑u1.length:Int)∧(↑(1:Nat):Int)*(↑u1.length:Int)<=281474976710656∧(↑u1.length:Int)<=9223372036854775807 then ze (jae (jfe u1) big (((0:Int),zh (zf (↑u1.length:Int)) false,[]))) (jh4 u5)
  else none
def juR:List Lf->Option GT|[.d (.s u5),.x (.st [.s,.i .i64,.ints .i64,.ints .i64,.ints .i64,.i .i64,.recs 5,.i .i64] u1)]=>some (.br (gT (jb1 u5 u1)) (.leaf (ok (jb1 u5 u1)) [.c (.d (.v (xr none))),.c (.d (.i .i64 ((val (jb1 u5 u1)))))]) (.leaf (ok (jbD u5 u1)) [.c (.box 130 [.d (.s ((val (jbD u5 u1)).1)),.g 0,.row 3 (.ints .i64 ((val (jbD u5 u1)).2.1))]),.c (.d (.i .i64 ((val (jbD u5 u1)).2.2)))]))|_=>none
abbrev jh5 (u5:zY) (u1:List (List NC)) (r:Int):Lp ((Int × List Bool × List Int) × Nat) (Int × List Bool × List Int) ((Unit ⊕ (List Int))) Int Int :=⟨fun z=>z.1,fun z=>z.2,fun z x n=>(x,n),fun z=>jcf u1,fun z=>jh3,fun z=>top r,fun z=>0,fun z=>⟨[(1,.w (.c (.p 1 0 1 0))),(6,.w (.c (.p 2 0 1 0))),(7,.w (.c (.o 3))),(27,.w (.c (.d (.i .i64 ((↑u1.length:Int)))))),(28,.w (.c (.d (.i .i64 z.1.1))))],[(1,.box 24 [.d (.s u5),.o 0]),(2,.box 130 [.d (.s u5),.o 0,.o 4]),(3,.row 4 (.bools z.1.2.1)),(0,.xext (XC.st zS u1)),(4,.row 3 (.ints .i64 z.1.2.2))],5⟩⟩
abbrev jnT (u5:zY) (u1:List (List NC)) (r:Int) (m1:Nat):Lp ((Int × List Bool × List Int) × Nat × Int × Nat) Int Int (((Int × List Bool × List Int) ⊕ (Unit ⊕ (List Int)))) Int :=⟨fun z=>z.2.2.1,fun z=>z.2.2.2,fun z x n=>(z.1,z.2.1,x,n),fun z=>jcw u1 z.1,fun z=>jh2 z.1,fun z=>(jh5 u5 u1 r).cx (z.1,m1),fun z=>z.2.1,fun z=>⟨[(1,.w (.c (.p 1 0 1 0))),(6,.w (.c (.p 2 0 1 0))),(7,.w (.c (.o 3))),(8,.w (.c (.d (.i .i64 (-1:Int))))),(27,.w (.c (.d (.i .i64 ((↑u1.length:Int)))))),(28,.w (.c (.d (.i .i64 (z.1.1))))),(32,.w (.c (.d (.i .i64 ((↑u1.length:Int)))))),(33,.w (.c (.d (.i .i64 z.2.2.1))))],[(1,.box 24 [.d (.s u5),.o 0]),(2,.box 130 [.d (.s u5),.o 0,.o 4]),(3,.row 4 (.bools (z.1.2.1))),(0,.xext (XC.st zS u1)),(4,.row 3 (.ints .i64 (z.1.2.2)))],5⟩⟩
def jwm (u5:zY) (u1:List (List NC)) (r:Int):Sk (top r) (ze (jae (jcf u1) big (((0:Int),zh (zf (↑u1.length:Int)) false,[]))) (jh3)) :=
 .loopQ (jh5 u5 u1 r) [.c fun _=>0,.c fun _=>0,.c fun _=>(↑u1.length:Int),.c fun vv=>vv.1.1,.c fun _=>u5,.c fun _=>u5,.c fun vv=>vv.1.2.1,.c fun _=>u1,.p fun vv=>za vv.1.2.2=(0:Nat)] (fun kk=>(((0:Int),zh (zf (↑u1.length:Int)) false,[]),big)) (fun z0 =>
 .br
 (.loop (jnT u5 u1 r z0.2) (fun kk=>(z0.1,kk,0,big)) fun z1 =>
 .br
 (.ob (.ob (.brB
 (.call (.brB
 (.exit (.brB
 (.exit (.obT (.obT (.ret (fun r=>(Ob (xr none=xr none) ∧
 (Ob ((19:Int)=r) ∧
 True))) ⟨⟨rfl⟩,⟨⟨rfl⟩,trivial⟩⟩))))
 (.ob (.ob (.ob (.next))))))
 (.next)))
 (.next))))
 (.exit (.exit (.obT (.obT (.ret (fun r=>(Ob (xr none=xr none) ∧
 (Ob ((19:Int)=r) ∧
 True))) ⟨⟨rfl⟩,⟨⟨rfl⟩,trivial⟩⟩))))))
 (.exit (.obT (.obT (.bad (False)))))) (fun _=>⟨rfl,trivial⟩)
def jyq (u5:zY) (u1:List (List NC)) (r:Int):Sk (top r) (jb1 u5 u1) :=.call (.brB
 (.obT (.obT (.ret (fun r=>(Ob (xr none=xr none) ∧
 (Ob ((val (y69 u5 u1)).2=r) ∧
 True))) ⟨⟨rfl⟩,⟨⟨rfl⟩,trivial⟩⟩)))
 (.ob (jwm u5 u1 r)))
def jwn (u5:zY) (u1:List (List NC)) (r:Int) (h:ze (jb1 u5 u1) some=some r):jqP Tryz.f80 ((sp_18 (sp_85 sp0))) (fun gs id _=>match id with
 |0=>(jh5 u5 u1 r).li
 |2=>(jnT u5 u1 r (gs.getD 0 0)).li
 |_=>none) (jdV jgx [.d (.s u5),.x (.st zS u1)]) [.c (.d (.v (xr none))),.c (.d (.i .i64 r))] :=
 Sk.vc (jyq u5 u1 r) (by kernel_rfl) h
abbrev jh6 (u5:zY) (u1:List (List NC)) (r:ByteArray × List Int × Int):Lp ((Int × List Bool × List Int) × Nat) (Int × List Bool × List Int) ((Unit ⊕ (List Int))) (ByteArray × List Int × Int) (ByteArray × List Int × Int) :=⟨fun z=>z.1,fun z=>z.2,fun z x n=>(x,n),fun z=>jfe u1,fun z=>jh4 u5,fun z=>top r,fun z=>0,fun z=>⟨[(1,.w (.c (.p 1 0 1 0))),(6,.w (.c (.p 2 0 1 0))),(7,.w (.c (.o 3))),(27,.w (.c (.d (.i .i64 ((↑u1.length:Int)))))),(28,.w (.c (.d (.i .i64 z.1.1))))],[(1,.box 24 [.d (.s u5),.o 0]),(2,.box 130 [.d (.s u5),.o 0,.o 4]),(3,.row 4 (.bools z.1.2.1)),(0,.xext (XC.st zS u1)),(4,.row 3 (.ints .i64 z.1.2.2))],5⟩⟩
abbrev jnU (u5:zY) (u1:List (List NC)) (r:ByteArray × List Int × Int) (m1:Nat):Lp ((Int × List Bool × List Int) × Nat × Int × Nat) Int Int (((Int × List Bool × List Int) ⊕ (Unit ⊕ (List Int)))) (ByteArray × List Int × Int) :=⟨fun z=>z.2.2.1,fun z=>z.2.2.2,fun z x n=>(z.1,z.2.1,x,n),fun z=>jnR u1 z.1,fun z=>jnS z.1,fun z=>(jh6 u5 u1 r).cx (z.1,m1),fun z=>z.2.1,fun z=>⟨[(1,.w (.c (.p 1 0 1 0))),(6,.w (.c (.p 2 0 1 0))),(7,.w (.c (.o 3))),(8,.w (.c (.d (.i .i64 (-1:Int))))),(27,.w (.c (.d (.i .i64 ((↑u1.length:Int)))))),(28,.w (.c (.d (.i .i64 (z.1.1))))),(32,.w (.c (.d (.i .i64 ((↑u1.length:Int)))))),(33,.w (.c (.d (.i .i64 z.2.2.1))))],[(1,.box 24 [.d (.s u5),.o 0]),(2,.box 130 [.d (.s u5),.o 0,.o 4]),(3,.row 4 (.bools (z.1.2.1))),(0,.xext (XC.st zS u1)),(4,.row 3 (.ints .i64 (z.1.2.2)))],5⟩⟩
def jwo (u5:zY) (u1:List (List NC)) (r:ByteArray × List Int × Int):Sk (top r) (ze (jae (jfe u1) big (((0:Int),zh (zf (↑u1.length:Int)) false,[]))) (jh4 u5)) :=
 .loopQ (jh6 u5 u1 r) [.c fun _=>0,.c fun _=>0,.c fun _=>(↑u1.length:Int),.c fun vv=>vv.1.1,.c fun _=>u5,.c fun _=>u5,.c fun vv=>vv.1.2.1,.c fun _=>u1,.p fun vv=>za vv.1.2.2=(0:Nat)] (fun kk=>(((0:Int),zh (zf (↑u1.length:Int)) false,[]),big)) (fun z0 =>
 .br
 (.loop (jnU u5 u1 r z0.2) (fun kk=>(z0.1,kk,0,big)) fun z1 =>
 .br
 (.ob (.ob (.brB
 (.call (.brB
 (.exit (.brB
 (.exit (.obT (.obT (.bad (False)))))
 (.ob (.ob (.ob (.next))))))
 (.next)))
 (.next))))
 (.exit (.exit (.obT (.obT (.bad (False)))))))
 (.exit (.obT (.obT (.rc))))) (fun _=>⟨rfl,trivial⟩)
def jyr (u5:zY) (u1:List (List NC)) (r:ByteArray × List Int × Int):Sk (top r) (jbD u5 u1) :=.call (.brB
 (.obT (.obT (.bad (False))))
 (.ob (jwo u5 u1 r)))
def jwp (u5:zY) (u1:List (List NC)) (r:ByteArray × List Int × Int) (h:ze (jbD u5 u1) some=some r):jqP Tryz.f80 ((sp_18 (sp_85 sp0))) (fun gs id _=>match id with
 |0=>(jh6 u5 u1 r).li
 |2=>(jnU u5 u1 r (gs.getD 0 0)).li
 |_=>none) (jdV jgx [.d (.s u5),.x (.st zS u1)]) [.c (.box 130 [.d (.s r.1),.g 0,.row 3 (.ints .i64 r.2.1)]),.c (.d (.i .i64 r.2.2))] :=
 Sk.vc (jyr u5 u1 r) (by kernel_rfl) h
def jzO:jaF Tryz.prog 80 true (jak jgx juR):=by
 refine jjP (sp:=(sp_18 (sp_85 sp0))) (fn:=Tryz.f80) (body:=bodyOf Tryz.f80) mixed (sp_18_ok (sp_85_ok jaf)) Tryz.func80 (by kernel_rfl) (by kernel_rfl) fun ls t h ho b hb=>?_;unfold juR at h;split at h
 ·rename_i u5 u1;cases h;obtain rfl:=jeu hb;refine jDm (Q:=fun rs=>_∧∃fuel loops,sx _ _ _ _ fuel loops _ _ _ _ _ (jbN _ _ fun v hp _=>jfy _ rs v hp)) (fun _ ho=>⟨zQ (by kernel_rfl),_,_,jwn u5 u1 _ (jad ho)⟩) (fun _ ho=>?_) ho;exact⟨zQ (by kernel_rfl),_,_,jwp u5 u1 _ (jad ho)⟩
 ·cases h
end Go.Sh
end

section
open Go.RowKit
namespace Go.Sx
def nzI (e:Int):Int:=Int.ofNat (e.toNat-1+1)
def jDD {e:Int} (h:0<e):nzI e=e:=by
 unfold nzI;rw[Int.ofNat_eq_natCast];omega
def jzP [Globs] {P:zP} {f:Nat} {shs:List SV} {g g':List Lf->Option GT} (h:∀ls t',g' ls=some t'->∃t,g ls=some t∧(t'.sel.1->t.sel.1∧t.sel.2=t'.sel.2)) (hS:jaF P f true (jak shs g)):jaF P f true (jak shs g'):=by
 have key:∀args hp nx t',jak shs g' args hp nx=some t'->t'.sel.ob->∃t,jak shs g args hp nx=some t∧t.sel.ob∧t.sel.v=t'.sel.v∧t.sel.hp=t'.sel.hp∧t.sel.nx=t'.sel.nx:=by
  intro args hp nx t' ht hob;unfold jak at ht ⊢;split at ht
  ·rename_i ls am hto;split at ht
   ·rename_i q' hg;cases ht;obtain⟨q,hq,himp⟩:=h ls q' hg;rw[jbZ]at hob ⊢;obtain⟨h1,h2⟩:=himp hob;refine⟨q.toRT am hp nx,by simp only[hq],?_,?_,?_,?_⟩
    ·rw[jbZ];exact h1
    all_goals rw[jbZ];simp only[h2]
   ·cases ht
  ·cases ht
 rcases hS with hR|hV
 ·refine .inl ⟨hR.enter,fun I B w args hp nx t' ht hob hlt hh hB=>?_⟩;obtain⟨t,q1,q2,q3,q4,q5⟩:=key args hp nx t' ht hob;refine(hR.sound I B w args hp nx t q1 q2 hlt hh hB).mono ?_;rintro e w' ⟨I',he,hl⟩;refine⟨I',by rw[he,q3],hl.agree,by rw[<-q3,<-q5];exact hl.lt,by rw[<-q5];exact hl.le,by rw[<-q4,<-q5];exact hl.heap,hl.below,hl.mono,by rw[<-q4];exact hl.fresh⟩
 ·refine .inr fun I B w args hp nx t' ht hob hlt hh hB=>?_;obtain⟨t,q1,q2,q3,q4,q5⟩:=key args hp nx t' ht hob;obtain⟨ob,v,e1,e2,e3⟩:=hV I B w args hp nx t q1 q2 hlt hh hB;rw[e1]at q3 q4 q5;refine⟨t'.sel.ob,v,?_,e2,e3⟩;cases hs:t'.sel with
  |mk ob' v' hp' nx' =>
   rw[hs]at q3 q4 q5;simp only at q3 q4 q5;rw[<-q3,<-q4,<-q5]
end Go.Sx
namespace Go.Sh
open Go Go.Proofs Go.RowKit Go.Sx
def jbq (gName:ByteArray) (gUnits:List (List NC)):Option Int:=(jb1 gName gUnits).bind fun e=>if 0<e then some e else none
def jav (gName:ByteArray) (gUnits:List (List NC)):Option (List Int):=(jbD gName gUnits).map fun r=>r.2.1
def jdN (gName:ByteArray) (gUnits:List (List NC)):Bool:=(jb1 gName gUnits).isSome
def jlI:List Lf->Option GT|[.d (.s gName),.x (.st [.s,.i .i64,.ints .i64,.ints .i64,.ints .i64,.i .i64,.recs 5,.i .i64] gUnits)]=>some (.br (jdN gName gUnits) (.leaf (ok (jbq gName gUnits)) [.c (.d (.v (xr none))),.c (.d (.i .i64 (nzI (val (jbq gName gUnits)))))]) (.leaf (ok (jav gName gUnits)) [.c (.box 130 [.d (.s gName),.g 0,.row 3 (.ints .i64 (val (jav gName gUnits)))]),.c (.d (.i .i64 0))]))|_=>none
def jzQ {gName:ByteArray} {gUnits:List (List NC)} {r:ByteArray × List Int × Int} (h:jbD gName gUnits=some r):r.1=gName∧r.2.2=0:=by
 unfold jbD at h;obtain⟨c,_,h⟩:=zK.1 h;split at h
 ·cases h
 ·split at h
  ·obtain⟨y,_,h⟩:=zK.1 h;cases y with
   |inl u=>cases h
   |inr l=>cases h;exact⟨rfl,rfl⟩
  ·cases h
def jys:jaF Tryz.prog 80 true (jak jgx jlI):=by
 refine jzP (fun ls t' h=>?_) jzO;unfold jlI at h;split at h
 ·rename_i gName gUnits;cases h;refine⟨_,rfl,fun hob=>?_⟩;unfold jdN at hob ⊢;cases hq:(jb1 gName gUnits).isSome with
  |true =>
   rw[hq]at hob;have hob:ok (jbq gName gUnits):=hob;obtain⟨e,he⟩:=Option.isSome_iff_exists.1 hq;have hF:jbq gName gUnits=if 0<e then some e else none:=by unfold jbq;rw[he];rfl
   have hpos:0<e:=by
    rw[hF]at hob
    by_cases h0:0<e
    ·exact h0
    ·rw[if_neg h0]at hob;cases hob
   rw[if_pos hpos]at hF;refine⟨hq,?_⟩
   show[RR.c (.d (.v (xr none))),RR.c (.d (.i .i64 (val (jb1 gName gUnits))))]=[RR.c (.d (.v (xr none))),RR.c (.d (.i .i64 (nzI (val (jbq gName gUnits)))))]
   rw[jpN he,jpN hF,jDD hpos]
  |false =>
   rw[hq]at hob;have hob:ok (jav gName gUnits):=hob;cases he:jbD gName gUnits with
   |none=>unfold jav at hob;rw[he]at hob;cases hob
   |some r =>
    have hS:jav gName gUnits=some r.2.1:=by unfold jav;rw[he];rfl
    obtain⟨q1,q2⟩:=jzQ he;refine⟨rfl,?_⟩
    show[RR.c (.box 130 [.d (.s r.1),.g 0,.row 3 (.ints .i64 r.2.1)]),RR.c (.d (.i .i64 r.2.2))]=[RR.c (.box 130 [.d (.s gName),.g 0,.row 3 (.ints .i64 (val (jav gName gUnits)))]),RR.c (.d (.i .i64 0))]
    rw[jpN hS,q1,q2]
 ·cases h
abbrev sp_80:jab->jab:=jal 80 true (jak jgx jlI)
def sp_80_ok {sp:jab} (h:jam Tryz.prog sp):jam Tryz.prog (sp_80 sp):=jch jys h
end Go.Sh
end

section
namespace Go.Sh
open Go Go.Proofs Go.RowKit Go.Sx
open Go.IntKind (wrap)
set_option maxRecDepth 100000
def jlJ:List SV:=[.c (.p [.d,.x (.st zS []),.r (.ints .i64 [])]),.c (.r (.bools []))]
def y35 (u6:List (List NC)) (u9:List Int) (u27:List Bool) (x0:(Int × List Int)):Option ((Int × List Int) ⊕ (List Int)) :=
 if x0.1<(↑u9.length:Int)then if 0<=x0.1∧x0.1<(↑u9.length:Int)then
  if zf x0.1<za u9 then if 0<=zb u9 x0.1.toNat (0:Int)∧zb u9 x0.1.toNat 0<(↑u6.length:Int)then
   if zf (zb u9 x0.1.toNat (0:Int))<za u6 then if 0<=zb u9 x0.1.toNat (0:Int)∧zb u9 x0.1.toNat 0<(↑u27.length:Int)then
    if zf (zb u9 x0.1.toNat (0:Int))<za u27 then if(!zb u27 (zf (zb u9 x0.1.toNat (0:Int))) false)=true then
     if 0<=zb u9 x0.1.toNat (0:Int)∧zb u9 x0.1.toNat 0<(↑x0.2.length:Int)then if zf (zb u9 x0.1.toNat (0:Int))<za x0.2 then some (.inl ((wrap .i64 (x0.1+1),qz x0.2 (zf (zb u9 x0.1.toNat (0:Int))) (zb u9 x0.1.toNat (0:Int)))))
      else none
     else none
     else
     if(nI u6 (zf (zb u9 x0.1.toNat (0:Int))) (7:Nat)==(-1:Int))=true then if 0<=zb u9 x0.1.toNat (0:Int)∧zb u9 x0.1.toNat 0<(↑x0.2.length:Int)then
      if zf (zb u9 x0.1.toNat (0:Int))<za x0.2 then some (.inl ((wrap .i64 (x0.1+1),qz x0.2 (zf (zb u9 x0.1.toNat (0:Int))) (-1:Int))))
      else none
      else none
     else if 0<=nI u6 (zf (zb u9 x0.1.toNat (0:Int))) (7:Nat)∧nI u6 (zf (zb u9 x0.1.toNat (0:Int))) 7<(↑x0.2.length:Int)then
      if zf (nI u6 (zf (zb u9 x0.1.toNat (0:Int))) (7:Nat))<za x0.2 then if 0<=zb u9 x0.1.toNat (0:Int)∧zb u9 x0.1.toNat 0<(↑x0.2.length:Int)then
       if zf (zb u9 x0.1.toNat (0:Int))<za x0.2 then some (.inl ((wrap .i64 (x0.1+1),qz x0.2 (zf (zb u9 x0.1.toNat (0:Int))) (zb x0.2 (zf (nI u6 (zf (zb u9 x0.1.toNat (0:Int))) (7:Nat))) (0:Int)))))
       else none
       else none
      else none
      else none
    else none
    else none
   else none
   else none
  else none
  else none
 else some (.inr x0.2)
def y228 (u3:List Int):Option (List Int) :=some u3
def y30 (u10:zY) (u6:List (List NC)) (u9:List Int) (u27:List Bool):Option (List Int) :=
 if 0<=(↑u6.length:Int)∧(↑u6.length:Int)=(↑u6.length:Int)∧(↑(8:Nat):Int)*(↑u6.length:Int)<=281474976710656∧(↑u6.length:Int)<=9223372036854775807 then ze (jae (y35 u6 u9 u27) big (((0:Int),zh (zf (↑u6.length:Int)) (0:Int)))) (y228)
 else none
def y237:List Lf->Option GT|[.d (.s u10),.x (.st [.s,.i .i64,.ints .i64,.ints .i64,.ints .i64,.i .i64,.recs 5,.i .i64] u6),.r (.ints .i64 u9),.r (.bools u27)]=>some (.leaf (ok (y30 u10 u6 u9 u27)) [.c (.row 3 (.ints .i64 ((val (y30 u10 u6 u9 u27)))))])|_=>none
abbrev sp_93:jab->jab:=jal 93 true (jak jlJ y237)
def sp_93_ok:KO sp_93:=jag (kT jaf Tryz.func93 (by kernel_rfl) fun ls t h ho=>by
 unfold y237 at h;split at h
 ·rename_i u10 u6 u9 u27;cases h;have ho:=jad ho
  generalize val (y30 u10 u6 u9 u27)=r at ho ⊢
  let l0:=lp0 (y35 u6 u9 u27) y228 r fun z=>⟨[(0,.w (.c (.p 2 0 1 0))),(1,.w (.c (.o 3))),(5,.w (.c (.o 4))),(19,.w (.c (.o 1))),(20,.w (.c (.d (.i .i64 ((↑u9.length:Int)))))),(21,.w (.c (.d (.i .i64 z.1.1))))],[(2,.ebox [.d (.s u10),.o 0,.o 1]),(3,.ext (.bools u27)),(4,.row 3 (.ints .i64 z.1.2)),(1,.ext (.ints .i64 u9)),(0,.xext (XC.st zS u6))],5⟩
  exact⟨by kernel_rfl,(fun _ id _=>match id with
   |0=>l0.li
   |_=>none),Sk.vd ho (.obT (.ob (.obT (.loop (l0) (fun kk=>(((0:Int),zh (zf (↑u6.length:Int)) (0:Int)),big)) fun z0 =>
   .br
   (.ob (.ob (.obT (.ob (.ob (.ob (.ob (.brB
   (.ob (.ob (.next)))
   (.brB
   (.ob (.ob (.next)))
   (.ob (.ob (.ob (.ob (.next))))))))))))))
   (.exit (.obT (.rc))))))) (by kernel_rfl)⟩
 ·cases h)
def jp4:List SV:=[.c (.d),.c (.p [.r (.ints .i64 [])]),.c (.p [.r (.bools [])])]
def y197 (n:Int) (v0_:List Int) (v1_:List Bool):Option Bool :=
 if 0<=n∧n<(↑v0_.length:Int)then if zf n<za v0_ then
  if(zb v0_ n.toNat (0:Int)!=(-1:Int))=true then if 0<=n∧n<(↑v0_.length:Int)then
   if zf n<za v0_ then if 0<=zb v0_ n.toNat (0:Int)∧zb v0_ n.toNat 0<(↑v1_.length:Int)then
    if zf (zb v0_ n.toNat (0:Int))<za v1_ then some (zb v1_ (zf (zb v0_ n.toNat (0:Int))) false)
    else none
    else none
   else none
   else none
  else some false
  else none
 else none
def jhl:List Lf->Option GT|[.d (.i .i64 n),.r (.ints .i64 v0_),.r (.bools v1_)]=>some (.leaf (ok (y197 n v0_ v1_)) [.c (.d (.b ((val (y197 n v0_ v1_)))))])|_=>none
abbrev sp_140:jab->jab:=jal 140 true (jak jp4 jhl)
def sp_140_ok:KO sp_140:=jag (kT jaf Tryz.func140 (by kernel_rfl) fun ls t h ho=>by
 unfold jhl at h;split at h
 ·rename_i n v0_ v1_;cases h;have ho:=jad ho
  generalize val (y197 n v0_ v1_)=r at ho ⊢
  exact⟨by kernel_rfl,fun _ _ _=>none,Sk.vd ho (.obT (.ob (.ob (.brB
   (.obT (.obT (.ob (.ob (.ob (.ob (.obT (.rc))))))))
   (.obT (.rc)))))) (by kernel_rfl)⟩
 ·cases h)
def y248:List SV:=[.c (.r (.ints .i64 [])),.c (.f 140 [.p [.r (.ints .i64 [])],.p [.r (.bools [])]])]
def y164 (s f0_:List Int) (f1_:List Bool) (x0:Int):Option (Int ⊕ (Int ⊕ Unit)) :=
 if x0<(↑s.length:Int)then if 0<=x0∧x0<(↑s.length:Int)then
  if zf x0<za s then
   ze (y197 (zb s x0.toNat (0:Int)) f0_ f1_) fun r0 =>
   if(r0)=true then
   some (.inr (.inl x0))
   else
   some (.inl (wrap .i64 (x0+1)))
  else none
  else none
 else some (.inr ((.inr ())))
def y222 (u3:Int):Option Int :=some u3
def y223 (u4:Unit):Option Int :=some (-1:Int)
def y165:(Int ⊕ Unit)->Option Int :=(qy (y222) (y223))
def y70 (s f0_:List Int) (f1_:List Bool):Option Int :=ze (jae (y164 s f0_ f1_) big (0:Int)) (y165)
def y170:List Lf->Option GT|[.r (.ints .i64 s),.r (.ints .i64 f0_),.r (.bools f1_)]=>some (.leaf (ok (y70 s f0_ f1_)) [.c (.d (.i .i64 ((val (y70 s f0_ f1_)))))])|_=>none
abbrev sp_156_140:jab->jab:=jal 156 true (jak y248 y170)
def sp_156_140_ok:KO sp_156_140:=jag (kT (sp_140_ok jaf) Tryz.func156 (by kernel_rfl) fun ls t h ho=>by
 unfold y170 at h;split at h
 ·rename_i s f0_ f1_;cases h;have ho:=jad ho
  generalize val (y70 s f0_ f1_)=r at ho ⊢
  let l0:=lp0 (y164 s f0_ f1_) y165 r fun z=>⟨[(0,.w (.c (.o 0))),(1,.w (.c (.fn 140 [2,4]))),(7,.w (.c (.d (.i .i64 ((↑s.length:Int)))))),(8,.w (.c (.d (.i .i64 z.1))))],[(0,.ext (.ints .i64 s)),(2,.ebox [.o 1]),(4,.ebox [.o 3]),(1,.ext (.ints .i64 f0_)),(3,.ext (.bools f1_))],5⟩
  exact⟨by kernel_rfl,(fun _ id _=>match id with
   |0=>l0.li
   |_=>none),Sk.vd ho (.loop (l0) (fun kk=>((0:Int),big)) fun z0 =>
   .br
   (.ob (.ob (.call (.brB
   (.exit (.obT (.rc)))
   (.next)))))
   (.exit (.obT (.rc)))) (by kernel_rfl)⟩
 ·cases h)
def y224:List SV:=[.c (.r (.ints .i64 [])),.c (.f 140 [.p [.r (.ints .i64 [])],.p [.r (.bools [])]])]
def y52 (s f0_:List Int) (f1_:List Bool):Option Bool :=
 ze (y70 s f0_ f1_) fun r0 =>
 some (decide (r0>=0))
def y156:List Lf->Option GT|[.r (.ints .i64 s),.r (.ints .i64 f0_),.r (.bools f1_)]=>some (.leaf (ok (y52 s f0_ f1_)) [.c (.d (.b ((val (y52 s f0_ f1_)))))])|_=>none
abbrev sp_123_140:jab->jab:=jal 123 true (jak y224 y156)
def sp_123_140_ok:KO sp_123_140:=jag (kT (sp_156_140_ok (sp_140_ok jaf)) Tryz.func123 (by kernel_rfl) fun ls t h ho=>by
 unfold y156 at h;split at h
 ·rename_i s f0_ f1_;cases h;have ho:=jad ho
  generalize val (y52 s f0_ f1_)=r at ho ⊢
  exact⟨by kernel_rfl,fun _ _ _=>none,Sk.vd ho (.call (.obT (.rc))) (by kernel_rfl)⟩
 ·cases h)
end Go.Sh
end

section
namespace Go.Sh
open Go Go.Proofs Go.RowKit Go.Sx
open Go.IntKind (wrap)
set_option maxRecDepth 100000
def jiM:List SV:=[.a [.d,.d],.c (.p [.d,.d])]
def y57 (u87 u88 u89 u90:Int):Option Bool :=some (u87==u89)
def y208:List Lf->Option GT|[.d (.i .i64 u87),.d (.i .i64 u88),.d (.i .i64 u89),.d (.i .i64 u90)]=>some (.leaf (ok (y57 u87 u88 u89 u90)) [.c (.d (.b ((val (y57 u87 u88 u89 u90)))))])|_=>none
abbrev sp_139:jab->jab:=jal 139 true (jak jiM y208)
def sp_139_ok:KO sp_139:=jag (kT jaf Tryz.func139 (by kernel_rfl) fun ls t h ho=>by
 unfold y208 at h;split at h
 ·rename_i u87 u88 u89 u90;cases h;have ho:=jad ho
  generalize val (y57 u87 u88 u89 u90)=r at ho ⊢
  exact⟨by kernel_rfl,fun _ _ _=>none,Sk.vd ho (.obT (.obT (.rc))) (by kernel_rfl)⟩
 ·cases h)
def y191:List SV:=[.c (.r (.recs 2 [])),.c (.f 139 [.p [.d,.d]])]
def y12 (s:List (List Int)) (u47 u48 x0:Int):Option (Int ⊕ (Int ⊕ Unit)) :=
 if x0<(↑s.length:Int)then if 0<=x0∧x0<(↑s.length:Int)then
  if zf x0<za s then
   ze (y57 (zb (zb s x0.toNat []) 0 (0:Int)) (zb (zb s x0.toNat []) 1 (0:Int)) u47 u48) fun r0 =>
   if(r0)=true then
   some (.inr (.inl x0))
   else
   some (.inl (wrap .i64 (x0+1)))
  else none
  else none
 else some (.inr ((.inr ())))
def y181 (u3:Int):Option Int :=some u3
def y182 (u4:Unit):Option Int :=some (-1:Int)
def y106:(Int ⊕ Unit)->Option Int :=(qy (y181) (y182))
def y19 (s:List (List Int)) (u47 u48:Int):Option Int :=ze (jae (y12 s u47 u48) big (0:Int)) (y106)
def y118:List Lf->Option GT|[.r (.recs 2 s),.d (.i .i64 u47),.d (.i .i64 u48)]=>some (.leaf (ok (y19 s u47 u48)) [.c (.d (.i .i64 ((val (y19 s u47 u48)))))])|_=>none
abbrev sp_163_139:jab->jab:=jal 163 true (jak y191 y118)
def sp_163_139_ok:KO sp_163_139:=jag (kT (sp_139_ok jaf) Tryz.func163 (by kernel_rfl) fun ls t h ho=>by
 unfold y118 at h;split at h
 ·rename_i s u47 u48;cases h;have ho:=jad ho
  generalize val (y19 s u47 u48)=r at ho ⊢
  let l0:=lp0 (y12 s u47 u48) y106 r fun z=>⟨[(0,.w (.c (.o 0))),(1,.w (.c (.fn 139 [1]))),(7,.w (.c (.d (.i .i64 ((↑s.length:Int)))))),(8,.w (.c (.d (.i .i64 z.1))))],[(0,.ext (.recs 2 s)),(1,.ebox [.d (.i .i64 u47),.d (.i .i64 u48)])],2⟩
  exact⟨by kernel_rfl,(fun _ id _=>match id with
   |0=>l0.li
   |_=>none),Sk.vd ho (.loop (l0) (fun kk=>((0:Int),big)) fun z0 =>
   .br
   (.ob (.ob (.call (.brB
   (.exit (.obT (.rc)))
   (.next)))))
   (.exit (.obT (.rc)))) (by kernel_rfl)⟩
 ·cases h)
def y183:List SV:=[.c (.r (.recs 2 [])),.c (.f 139 [.p [.d,.d]])]
def y8 (s:List (List Int)) (u47 u48:Int):Option Bool :=
 ze (y19 s u47 u48) fun r0 =>
 some (decide (r0>=0))
def y93:List Lf->Option GT|[.r (.recs 2 s),.d (.i .i64 u47),.d (.i .i64 u48)]=>some (.leaf (ok (y8 s u47 u48)) [.c (.d (.b ((val (y8 s u47 u48)))))])|_=>none
abbrev sp_138_139:jab->jab:=jal 138 true (jak y183 y93)
def sp_138_139_ok:KO sp_138_139:=jag (kT (sp_163_139_ok (sp_139_ok jaf)) Tryz.func138 (by kernel_rfl) fun ls t h ho=>by
 unfold y93 at h;split at h
 ·rename_i s u47 u48;cases h;have ho:=jad ho
  generalize val (y8 s u47 u48)=r at ho ⊢
  exact⟨by kernel_rfl,fun _ _ _=>none,Sk.vd ho (.call (.obT (.rc))) (by kernel_rfl)⟩
 ·cases h)
def joC:List (Option Cont):=[some (.recs 2 [])]
def y11 (l:List (List Int)):Option (List (List Int)) :=
 if(0+za l)*16<=140737488355328∧0+za l<=9223372036854775807 then some ([]++l)
 else none
def jgy:List A->Option (Prop × List RV)|[.r (.recs 2 l)]=>some (ok (y11 l),[.row 153 (.recs 2 ((val (y11 l))))])|_=>none
abbrev sp_42:jab->jab:=jal 42 true (jaK joC jgy)
def sp_42_ok:KO sp_42:=jag (kK jaf Tryz.func42 (by kernel_rfl) fun as_ ob rs h ho=>by
 unfold jgy at h;split at h
 ·rename_i l;cases h;have ho:=jad ho
  generalize val (y11 l)=r at ho ⊢
  exact⟨by kernel_rfl,fun _ _ _=>none,Sk.vd ho (.ob (.obT (.rc))) (by kernel_rfl)⟩
 ·cases h)
def jm1:List SV:=[.a [.d,.x (.st zS [])],.c (.r (.recs 2 []))]
def y65 (l:List (List Int)) (x0 x1:Int):Option (Int ⊕ (Unit ⊕ Unit)) :=
 if x1<x0 then if 0<=x1∧x1<(↑l.length:Int)then
  if zf x1<za l then if 0<=x0∧x0<(↑l.length:Int)then
   if zf x0<za l then if(zb (zb l x1.toNat []) 0 (0:Int)==zb (zb l x0.toNat []) 0 (0:Int))=true then some (.inr ((.inl ())))
    else
    some (.inl (wrap .i64 (x1+1)))
   else none
   else none
  else none
  else none
 else some (.inr ((.inr ())))
def y211 (l:List (List Int)) (x0:Int) (u7:Unit):Option (Int ⊕ ((Int × Int) ⊕ Unit)) :=some (.inr ((.inl ((x0,26)))))
def y212 (l:List (List Int)) (x0:Int) (u20:Unit):Option (Int ⊕ ((Int × Int) ⊕ Unit)) :=
 if 0<=x0∧x0<(↑l.length:Int)then if zf x0<za l then
  ze (y23 (zb (zb l x0.toNat []) 1 (0:Int)) (0:Int) (16:Int)) fun r1 =>
  if(!r1)=true then some (.inr ((.inl ((x0,2)))))
  else some (.inl (wrap .i64 (x0+1)))
  else none
 else none
def y188 (l:List (List Int)) (x0:Int):(Unit ⊕ Unit)->Option (Int ⊕ ((Int × Int) ⊕ Unit)) :=(qy (y211 l x0) (y212 l x0))
def y98 (u1:List (List NC)) (l:List (List Int)) (x0:Int):Option (Int ⊕ ((Int × Int) ⊕ Unit)) :=
 if x0<(↑l.length:Int)then if 0<=x0∧x0<(↑l.length:Int)then
  if zf x0<za l then
   ze (y23 (zb (zb l x0.toNat []) 0 (0:Int)) (0:Int) (wrap .i64 ((↑u1.length:Int)-1))) fun r0 =>
   if(!r0)=true then
   some (.inr ((.inl ((x0,6)))))
   else
   ze (jae (y65 l x0) big (0:Int)) (y188 l x0)
  else none
  else none
 else some (.inr ((.inr ())))
def jjS (u3:Int × Int):Option (Int × Int) :=some (u3.1,u3.2)
def jjT (u4:Unit):Option (Int × Int) :=some (((0:Int),0))
def y238:((Int × Int) ⊕ Unit)->Option (Int × Int) :=(qy (jjS) (jjT))
def y71 (u5:zY) (u1:List (List NC)) (l:List (List Int)):Option (Int × Int) :=
 if(↑l.length:Int)>24 then some (((0:Int),8))
 else ze (jae (y98 u1 l) big (0:Int)) (y238)
def jfH:List Lf->Option GT|[.d (.s u5),.x (.st [.s,.i .i64,.ints .i64,.ints .i64,.ints .i64,.i .i64,.recs 5,.i .i64] u1),.r (.recs 2 l)]=>some (.leaf (ok (y71 u5 u1 l)) [.c (.d (.i .i64 ((val (y71 u5 u1 l)).1))),.c (.d (.i .i64 ((val (y71 u5 u1 l)).2)))])|_=>none
abbrev sp_44:jab->jab:=jal 44 true (jak jm1 jfH)
def sp_44_ok:KO sp_44:=jag (kT (sp_45_ok jaf) Tryz.func44 (by kernel_rfl) fun ls t h ho=>by
 unfold jfH at h;split at h
 ·rename_i u5 u1 l;cases h;have ho:=jad ho
  generalize val (y71 u5 u1 l)=r at ho ⊢
  let l0:=lp0 (y98 u1 l) y238 r fun z=>⟨[(1,.w (.c (.o 1))),(2,.w (.c (.p 2 0 1 0))),(6,.w (.c (.d (.i .i64 z.1))))],[(1,.ext (.recs 2 l)),(2,.box 24 [.d (.s u5),.o 0]),(0,.xext (XC.st zS u1))],3⟩
  let l1 (m1:Nat):Lp (Int × Nat × Int × Nat) Int (Unit ⊕ Unit) ((Int ⊕ ((Int × Int) ⊕ Unit))) (Int × Int):=⟨fun z=>z.2.2.1,fun z=>z.2.2.2,fun z x n=>(z.1,z.2.1,x,n),fun z=>y65 l z.1,fun z=>y188 l z.1,fun z=>(l0).cx (z.1,m1),fun z=>z.2.1,fun z=>⟨[(1,.w (.c (.o 1))),(2,.w (.c (.p 2 0 1 0))),(6,.w (.c (.d (.i .i64 z.1)))),(7,.w (.c (.d (.i .i64 z.2.2.1))))],[(1,.ext (.recs 2 l)),(2,.box 24 [.d (.s u5),.o 0]),(0,.xext (XC.st zS u1))],3⟩⟩
  exact⟨by kernel_rfl,(fun gs id _=>match id with
   |0=>l0.li
   |2=>(l1 (gs.getD 0 0)).li
   |_=>none),Sk.vd ho (.br
   (.obT (.obT (.rc)))
   (.loop (l0) (fun kk=>((0:Int),big)) fun z0 =>
   .br
   (.ob (.ob (.call (.brB
   (.exit (.obT (.obT (.rc))))
   (.loop (l1 z0.2) (fun kk=>(z0.1,kk,0,big)) fun z1 =>
   .br
   (.ob (.ob (.ob (.ob (.brB
   (.exit (.exit (.obT (.obT (.rc)))))
   (.next))))))
   (.exit (.ob (.ob (.call (.brB
   (.exit (.obT (.obT (.rc))))
   (.next)))))))))))
   (.exit (.obT (.obT (.rc)))))) (by kernel_rfl)⟩
 ·cases h)
def jrf:List SV:=[.a [.d,.x (.st zS [])],.c (.r (.recs 2 [])),.c (.d)]
def jrg (l:List (List Int)) (u28:Int) (x0:Int × List Int) (x1:(Int × List Int)):Option ((Int × List Int) ⊕ (List Int)) :=
 if x1.1<(↑l.length:Int)then if 0<=x1.1∧x1.1<(↑l.length:Int)then
  if zf x1.1<za l then if(zb (zb l x1.1.toNat []) 0 (0:Int)==x0.1)=true then
   if 0<=x1.1∧x1.1<(↑l.length:Int)then if zf x1.1<za l then
    if zb (zb l x1.1.toNat []) 1 0<=u28 then if(za x1.2+za [x0.1])*8<=140737488355328∧za x1.2+za [x0.1]<=9223372036854775807 then some (.inl ((wrap .i64 (x1.1+1),x1.2++[x0.1])))
     else none
    else some (.inl ((wrap .i64 (x1.1+1),x1.2)))
    else none
   else none
   else
   some (.inl ((wrap .i64 (x1.1+1),x1.2)))
  else none
  else none
 else some (.inr x1.2)
def y213 (x0:Int × List Int) (u7:List Int):Option ((Int × List Int) ⊕ (List Int)) :=some (.inl ((wrap .i64 (x0.1+1),u7)))
def jrh (u1:List (List NC)) (l:List (List Int)) (u28:Int) (x0:(Int × List Int)):Option ((Int × List Int) ⊕ (List Int)) :=
 if x0.1<(↑u1.length:Int)then ze (jae (jrg l u28 x0) big (((0:Int),x0.2))) (y213 x0)
 else some (.inr x0.2)
def jhm (u3:List Int):Option (List Int) :=some u3
def y18 (u5:zY) (u1:List (List NC)) (l:List (List Int)) (u28:Int):Option (List Int) :=ze (jae (jrh u1 l u28) big (((0:Int),[]))) (jhm)
def jiN:List Lf->Option GT|[.d (.s u5),.x (.st [.s,.i .i64,.ints .i64,.ints .i64,.ints .i64,.i .i64,.recs 5,.i .i64] u1),.r (.recs 2 l),.d (.i .i64 u28)]=>some (.leaf (ok (y18 u5 u1 l u28)) [.c (.row 3 (.ints .i64 ((val (y18 u5 u1 l u28)))))])|_=>none
abbrev sp_46:jab->jab:=jal 46 true (jak jrf jiN)
def sp_46_ok:KO sp_46:=jag (kT jaf Tryz.func46 (by kernel_rfl) fun ls t h ho=>by
 unfold jiN at h;split at h
 ·rename_i u5 u1 l u28;cases h;have ho:=jad ho
  generalize val (y18 u5 u1 l u28)=r at ho ⊢
  let l0:=lp0 (jrh u1 l u28) jhm r fun z=>⟨[(1,.w (.c (.o 1))),(2,.w (.c (.d (.i .i64 u28)))),(3,.w (.c (.p 2 0 1 0))),(7,.w (.c (.o 3))),(8,.w (.c (.d (.i .i64 z.1.1))))],[(1,.ext (.recs 2 l)),(2,.box 24 [.d (.s u5),.o 0]),(3,.row 3 (.ints .i64 z.1.2)),(0,.xext (XC.st zS u1))],4⟩
  let l1 (m1:Nat):Lp ((Int × List Int) × Nat × (Int × List Int) × Nat) (Int × List Int) (List Int) (((Int × List Int) ⊕ (List Int))) (List Int):=⟨fun z=>z.2.2.1,fun z=>z.2.2.2,fun z x n=>(z.1,z.2.1,x,n),fun z=>jrg l u28 z.1,fun z=>y213 z.1,fun z=>(l0).cx (z.1,m1),fun z=>z.2.1,fun z=>⟨[(1,.w (.c (.o 1))),(2,.w (.c (.d (.i .i64 u28)))),(3,.w (.c (.p 2 0 1 0))),(7,.w (.c (.o 3))),(8,.w (.c (.d (.i .i64 (z.1.1))))),(9,.w (.c (.d (.i .i64 z.2.2.1.1))))],[(1,.ext (.recs 2 l)),(2,.box 24 [.d (.s u5),.o 0]),(3,.row 3 (.ints .i64 z.2.2.1.2)),(0,.xext (XC.st zS u1))],4⟩⟩
  exact⟨by kernel_rfl,(fun gs id _=>match id with
   |0=>l0.li
   |2=>(l1 (gs.getD 0 0)).li
   |_=>none),Sk.vd ho ((.loopQ (l0) [.c fun _=>u28,.c fun _=>0,.c fun vv=>vv.1.1,.c fun _=>l,.c fun _=>u5,.p fun vv=>za vv.1.2=(0:Nat),.c fun _=>u1] (fun kk=>(((0:Int),[]),big)) (fun z0 =>
   .br
   (.loop (l1 z0.2) (fun kk=>(z0.1,kk,((0:Int),z0.1.2),big)) fun z1 =>
   .br
   (.ob (.ob (.brB
   (.ob (.ob (.br
   (.ob (.next))
   (.next))))
   (.next))))
   (.exit (.next)))
   (.exit (.obT (.rc)))) (fun _=>⟨rfl,trivial⟩))) (by kernel_rfl)⟩
 ·cases h)
def jlK:List SV:=[.c (.p [.d,.x (.st zS []),.r (.ints .i64 [])]),.c (.r (.recs 2 [])),.c (.d)]
def y36 (l:List (List Int)) (u28:Int) (x0:(Int × List Bool)):Option ((Int × List Bool) ⊕ (List Bool)) :=
 if x0.1<(↑l.length:Int)then if 0<=x0.1∧x0.1<(↑l.length:Int)then
  if zf x0.1<za l then if 0<=zb (zb l x0.1.toNat []) 0 (0:Int)∧zb (zb l x0.1.toNat []) 0 0<(↑x0.2.length:Int)then
   if zf (zb (zb l x0.1.toNat []) 0 (0:Int))<za x0.2 then some (.inl ((wrap .i64 (x0.1+1),qz x0.2 (zf (zb (zb l x0.1.toNat []) 0 (0:Int))) (decide (zb (zb l x0.1.toNat []) 1 0<=u28)))))
   else none
   else none
  else none
  else none
 else some (.inr x0.2)
def y229 (u3:List Bool):Option (List Bool) :=some u3
def y46 (u10:zY) (u6:List (List NC)) (u9:List Int) (l:List (List Int)) (u28:Int):Option (List Bool) :=
 if 0<=(↑u6.length:Int)∧(↑u6.length:Int)=(↑u6.length:Int)∧(↑(1:Nat):Int)*(↑u6.length:Int)<=281474976710656∧(↑u6.length:Int)<=9223372036854775807 then ze (jae (y36 l u28) big (((0:Int),zh (zf (↑u6.length:Int)) false))) (y229)
 else none
def y239:List Lf->Option GT|[.d (.s u10),.x (.st [.s,.i .i64,.ints .i64,.ints .i64,.ints .i64,.i .i64,.recs 5,.i .i64] u6),.r (.ints .i64 u9),.r (.recs 2 l),.d (.i .i64 u28)]=>some (.leaf (ok (y46 u10 u6 u9 l u28)) [.c (.row 4 (.bools ((val (y46 u10 u6 u9 l u28)))))])|_=>none
abbrev sp_94:jab->jab:=jal 94 true (jak jlK y239)
def sp_94_ok:KO sp_94:=jag (kT jaf Tryz.func94 (by kernel_rfl) fun ls t h ho=>by
 unfold y239 at h;split at h
 ·rename_i u10 u6 u9 l u28;cases h;have ho:=jad ho
  generalize val (y46 u10 u6 u9 l u28)=r at ho ⊢
  let l0:=lp0 (y36 l u28) y229 r fun z=>⟨[(2,.w (.c (.d (.i .i64 u28)))),(7,.w (.c (.o 4))),(17,.w (.c (.o 3))),(18,.w (.c (.d (.i .i64 ((↑l.length:Int)))))),(19,.w (.c (.d (.i .i64 z.1.1))))],[(4,.row 4 (.bools z.1.2)),(3,.ext (.recs 2 l))],5⟩
  exact⟨by kernel_rfl,(fun _ id _=>match id with
   |0=>l0.li
   |_=>none),Sk.vd ho (.obT (.ob (.loop (l0) (fun kk=>(((0:Int),zh (zf (↑u6.length:Int)) false),big)) fun z0 =>
   .br
   (.ob (.ob (.ob (.ob (.next)))))
   (.exit (.obT (.rc)))))) (by kernel_rfl)⟩
 ·cases h)
end Go.Sh
end

section
namespace Go.Sh
open Go Go.Proofs Go.RowKit Go.Sx
open Go.IntKind (wrap)
set_option maxRecDepth 100000
def jlL:List SV:=[.c (.p [.d,.x (.st zS []),.r (.ints .i64 [])]),.c (.d)]
def y58 (u6:List (List NC)) (u30:Int) (x0:(Int × List Int)):Option ((Int × List Int) ⊕ (List Int)) :=
 if x0.1<(↑u6.length:Int)then if 0<=x0.1∧x0.1<(↑u6.length:Int)then
  if zf x0.1<za u6 then if(nI u6 x0.1.toNat (1:Nat)==u30)=true then
   if(za x0.2+za [x0.1])*8<=140737488355328∧za x0.2+za [x0.1]<=9223372036854775807 then some (.inl ((wrap .i64 (x0.1+1),x0.2++[x0.1])))
   else none
   else
   some (.inl ((wrap .i64 (x0.1+1),x0.2)))
  else none
  else none
 else some (.inr x0.2)
def y230 (u3:List Int):Option (List Int) :=some u3
def y6 (u6:List (List NC)) (u30:Int):Option (List Int) :=ze (jae (y58 u6 u30) big (((0:Int),[]))) (y230)
def y240:List Lf->Option GT|[.d (.s u10),.x (.st [.s,.i .i64,.ints .i64,.ints .i64,.ints .i64,.i .i64,.recs 5,.i .i64] u6),.r (.ints .i64 u9),.d (.i .i64 u30)]=>some (.leaf (ok (y6 u6 u30)) [.c (.row 3 (.ints .i64 ((val (y6 u6 u30)))))])|_=>none
abbrev sp_99:jab->jab:=jal 99 true (jak jlL y240)
def sp_99_ok:KO sp_99:=jag (kT jaf Tryz.func99 (by kernel_rfl) fun ls t h ho=>by
 unfold y240 at h;split at h
 ·rename_i u10 u6 u9 u30;cases h;have ho:=jad ho
  generalize val (y6 u6 u30)=r at ho ⊢
  let l0:=lp0 (y58 u6 u30) y230 r fun z=>⟨[(1,.w (.c (.d (.i .i64 u30)))),(5,.w (.c (.o 3))),(12,.w (.c (.o 0))),(13,.w (.c (.d (.i .i64 ((↑u6.length:Int)))))),(14,.w (.c (.d (.i .i64 z.1.1))))],[(3,.row 3 (.ints .i64 z.1.2)),(0,.xext (XC.st zS u6))],4⟩
  exact⟨by kernel_rfl,(fun _ id _=>match id with
   |0=>l0.li
   |_=>none),Sk.vd ho (.obT (.loopQ (l0) [.c fun _=>u30,.c fun _=>(↑u6.length:Int),.c fun vv=>vv.1.1,.p fun vv=>za vv.1.2=(0:Nat),.c fun _=>u6] (fun kk=>(((0:Int),[]),big)) (fun z0 =>
   .br
   (.ob (.ob (.brB
   (.ob (.next))
   (.next))))
   (.exit (.obT (.rc)))) (fun _=>⟨rfl,trivial⟩))) (by kernel_rfl)⟩
 ·cases h)
attribute [irreducible] y6
def jm2:List SV:=[.c (.p [.d,.x (.st zS []),.r (.ints .i64 [])]),.c (.d)]
def y40 (u6:List (List NC)) (i:Int):Option Int :=
 if 0<=i∧i<(↑u6.length:Int)then if zf i<za u6 then
  ze (y6 u6 (nI u6 i.toNat (1:Nat))) fun r0 =>
  ze (y44 r0 i) fun r1 =>
  some r1
  else none
 else none
def jfI:List Lf->Option GT|[.d (.s u10),.x (.st [.s,.i .i64,.ints .i64,.ints .i64,.ints .i64,.i .i64,.recs 5,.i .i64] u6),.r (.ints .i64 u9),.d (.i .i64 i)]=>some (.leaf (ok (y40 u6 i)) [.c (.d (.i .i64 ((val (y40 u6 i)))))])|_=>none
abbrev sp_145:jab->jab:=jal 145 true (jak jm2 jfI)
def sp_145_ok:KO sp_145:=jag (kT (sp_99_ok (sp_134_ok jaf)) Tryz.func145 (by kernel_rfl) fun ls t h ho=>by
 unfold jfI at h;split at h
 ·rename_i u10 u6 u9 i;cases h;have ho:=jad ho
  generalize val (y40 u6 i)=r at ho ⊢
  exact⟨by kernel_rfl,fun _ _ _=>none,Sk.vd ho (.obT (.ob (.ob (.call (.call (.obT (.rc))))))) (by kernel_rfl)⟩
 ·cases h)
attribute [irreducible] y40
def jm3:List SV:=[.c (.p [.p [.d,.x (.st zS []),.r (.ints .i64 [])],.d,.x (.ff .f32 []),.x (.rr 4 []),.r (.frs .f32 32 []),.r (.ints .i64 []),.r (.frs .f32 32 []),.x (.rr 4 []),.r (.ints .i64 [])])]
def y99 (u13:List (List Nat)) (r0:List Int) (x0:(Int × List (List Nat))):Option ((Int × List (List Nat)) ⊕ (List (List Nat))) :=
 if x0.1<(↑r0.length:Int)then if 0<=x0.1∧x0.1<(↑r0.length:Int)then
  if zf x0.1<za r0 then if 0<=zb r0 x0.1.toNat (0:Int)∧zb r0 x0.1.toNat 0<(↑u13.length:Int)then
   if zf (zb r0 x0.1.toNat (0:Int))<za u13 then if(za x0.2+za [zb u13 (zf (zb r0 x0.1.toNat (0:Int))) []])*128<=140737488355328∧za x0.2+za [zb u13 (zf (zb r0 x0.1.toNat (0:Int))) []]<=9223372036854775807 then some (.inl ((wrap .i64 (x0.1+1),x0.2++[zb u13 (zf (zb r0 x0.1.toNat (0:Int))) []])))
    else none
   else none
   else none
  else none
  else none
 else some (.inr x0.2)
def y241 (u3:List (List Nat)):Option (List (List Nat)) :=some u3
def y10 (u23:List (List NC)) (u13:List (List Nat)):Option (List (List Nat)) :=
 ze (y6 u23 (4:Int)) fun r0 =>
 ze (jae (y99 u13 r0) big (((0:Int),[]))) (y241)
def jfJ:List Lf->Option GT|[.d (.s r_graphEngineGraphName),.x (.st [.s,.i .i64,.ints .i64,.ints .i64,.ints .i64,.i .i64,.recs 5,.i .i64] u23),.r (.ints .i64 r_graphorder),.d (.i .i64 u59),.x (.ff .f32 u14),.x (.rr 4 u50),.r (.frs .f32 32 u31),.r (.ints .i64 u51),.r (.frs .f32 32 u13),.x (.rr 4 u49),.r (.ints .i64 u29)]=>some (.leaf (ok (y10 u23 u13)) [.c (.row 110 (.frs .f32 32 ((val (y10 u23 u13)))))])|_=>none
abbrev sp_104:jab->jab:=jal 104 true (jak jm3 jfJ)
def sp_104_ok:KO sp_104:=jag (kT (sp_99_ok jaf) Tryz.func104 (by kernel_rfl) fun ls t h ho=>by
 unfold jfJ at h;split at h
 ·rename_i r_graphEngineGraphName u23 r_graphorder u59 u14 u50 u31 u51 u13 u49 u29;cases h;have ho:=jad ho
  generalize val (y10 u23 u13)=r at ho ⊢
  let l0:=lp0 (y99 u13 (val (y6 u23 (4:Int)))) y241 r fun z=>⟨[(0,.w (.c (.p 10 0 1 0))),(3,.w (.c (.o 11))),(10,.w (.c (.o 12))),(11,.w (.c (.d (.i .i64 ((↑(za (val (y6 u23 (4:Int)))):Int)))))),(12,.w (.c (.d (.i .i64 z.1.1))))],[(10,.ebox [.p 2 0 1 0,.d (.i .i64 u59),.o 3,.o 4,.o 5,.o 6,.o 7,.o 8,.o 9]),(11,.row 110 (.frs .f32 32 z.1.2)),(12,.row 3 (.ints .i64 (val (y6 u23 (4:Int))))),(2,.ebox [.d (.s r_graphEngineGraphName),.o 0,.o 1]),(3,.xext (XC.ff .f32 u14)),(4,.xext (XC.rr (4:Nat) u50)),(5,.ext (.frs .f32 32 u31)),(6,.ext (.ints .i64 u51)),(7,.ext (.frs .f32 32 u13)),(8,.xext (XC.rr (4:Nat) u49)),(9,.ext (.ints .i64 u29)),(0,.xext (XC.st zS u23)),(1,.ext (.ints .i64 r_graphorder))],13⟩
  exact⟨by kernel_rfl,(fun _ id _=>match id with
   |0=>l0.li
   |_=>none),Sk.vd ho (.obT (.call (.loopQ (l0) [.c fun _=>0,.c fun _=>(↑(za (val (y6 u23 (4:Int)))):Int),.c fun vv=>vv.1.1,.c fun _=>0,.c fun _=>u59,.p fun vv=>za vv.1.2=(0:Nat),.c fun _=>val (y6 u23 (4:Int)),.c fun _=>r_graphEngineGraphName,.c fun _=>u14,.c fun _=>u50,.c fun _=>u31,.c fun _=>u51,.c fun _=>u13,.c fun _=>u49,.c fun _=>u29,.c fun _=>u23,.c fun _=>r_graphorder] (fun kk=>(((0:Int),[]),big)) (fun z0 =>
   .br
   (.ob (.ob (.obT (.ob (.ob (.ob (.next)))))))
   (.exit (.obT (.rc)))) (fun _=>⟨rfl,trivial⟩)))) (by kernel_rfl)⟩
 ·cases h)
attribute [irreducible] y10
def jm4:List SV:=[.c (.p [.p [.d,.x (.st zS []),.r (.ints .i64 [])],.d,.x (.ff .f32 []),.x (.rr 4 []),.r (.frs .f32 32 []),.r (.ints .i64 []),.r (.frs .f32 32 []),.x (.rr 4 []),.r (.ints .i64 [])])]
def y66 (u29:List Int) (x0:(Int × Int)):Option ((Int × Int) ⊕ Int) :=
 if x0.2<(↑u29.length:Int)then if 0<=x0.2∧x0.2<(↑u29.length:Int)then
  if zf x0.2<za u29 then some (.inl ((wrap .i64 (x0.1+zb u29 x0.2.toNat (0:Int)),wrap .i64 (x0.2+1))))
  else none
  else none
 else some (.inr x0.1)
def y242 (u3:Int):Option Int :=some u3
def y53 (u29:List Int):Option Int :=ze (jae (y66 u29) big (((0:Int),0))) (y242)
def jfK:List Lf->Option GT|[.d (.s r_graphEngineGraphName),.x (.st [.s,.i .i64,.ints .i64,.ints .i64,.ints .i64,.i .i64,.recs 5,.i .i64] u23),.r (.ints .i64 r_graphorder),.d (.i .i64 u59),.x (.ff .f32 u14),.x (.rr 4 u50),.r (.frs .f32 32 u31),.r (.ints .i64 u51),.r (.frs .f32 32 u13),.x (.rr 4 u49),.r (.ints .i64 u29)]=>some (.leaf (ok (y53 u29)) [.c (.d (.i .i64 ((val (y53 u29)))))])|_=>none
abbrev sp_105:jab->jab:=jal 105 true (jak jm4 jfK)
def sp_105_ok:KO sp_105:=jag (kT jaf Tryz.func105 (by kernel_rfl) fun ls t h ho=>by
 unfold jfK at h;split at h
 ·rename_i r_graphEngineGraphName u23 r_graphorder u59 u14 u50 u31 u51 u13 u49 u29;cases h;have ho:=jad ho
  generalize val (y53 u29)=r at ho ⊢
  let l0:=lp0 (y66 u29) y242 r fun z=>⟨[(3,.w (.c (.d (.i .i64 z.1.1)))),(9,.w (.c (.o 9))),(10,.w (.c (.d (.i .i64 ((↑u29.length:Int)))))),(11,.w (.c (.d (.i .i64 z.1.2))))],[(9,.ext (.ints .i64 u29))],11⟩
  exact⟨by kernel_rfl,(fun _ id _=>match id with
   |0=>l0.li
   |_=>none),Sk.vd ho (.obT (.loop (l0) (fun kk=>(((0:Int),0),big)) fun z0 =>
   .br
   (.ob (.ob (.next)))
   (.exit (.obT (.rc))))) (by kernel_rfl)⟩
 ·cases h)
attribute [irreducible] y53
def jp5:List SV:=[.c (.p [.p [.d,.x (.st zS []),.r (.ints .i64 [])],.d,.x (.ff .f32 []),.x (.rr 4 []),.r (.frs .f32 32 []),.r (.ints .i64 []),.r (.frs .f32 32 []),.x (.rr 4 []),.r (.ints .i64 [])])]
def y84 (u14 u13:List (List Nat)) (x0:Int × List (List Nat)) (x1:(Int × List Nat)):Option ((Int × List Nat) ⊕ (List Nat)) :=
 if x1.1<32 then
  ze (jlr u14 u13 x0.1 x1.1) fun r0 =>
  if(za x1.2+za [qw .f32 r0])*4<=140737488355328∧za x1.2+za [qw .f32 r0]<=9223372036854775807 then
  some (.inl ((wrap .i64 (x1.1+1),x1.2++[qw .f32 r0])))
  else none
 else some (.inr x1.2)
def y203 (x0:Int × List (List Nat)) (u7:List Nat):Option ((Int × List (List Nat)) ⊕ (List (List Nat))) :=
 if(za x0.2+za (qt (fun r=>NC.toFlts (zA r (NC.d (D.v zJ)))) [[NC.r (Cont.floats .f32 u7)]]))*24<=140737488355328∧za x0.2+za (qt (fun r=>NC.toFlts (zA r (NC.d (D.v zJ)))) [[NC.r (Cont.floats .f32 u7)]])<=9223372036854775807 then some (.inl ((wrap .i64 (x0.1+1),x0.2++qt (fun r=>NC.toFlts (zA r (NC.d (D.v zJ)))) [[NC.r (Cont.floats .f32 u7)]])))
 else none
def y85 (u23:List (List NC)) (u14 u13:List (List Nat)) (x0:(Int × List (List Nat))):Option ((Int × List (List Nat)) ⊕ (List (List Nat))) :=
 if x0.1<(↑u23.length:Int)then ze (jae (y84 u14 u13 x0) big (((-96:Int),[]))) (y203 x0)
 else some (.inr x0.2)
def jgz (u59:Int) (u3:List (List Nat)):Option (Int × List (List Nat)) :=some ((wrap .i64 (u59+1),u3))
def y61 (u23:List (List NC)) (u59:Int) (u14 u13:List (List Nat)):Option (Int × List (List Nat)) :=ze (jae (y85 u23 u14 u13) big (((0:Int),[]))) (jgz u59)
def jhn:List Lf->Option GT|[.d (.s r_graphEngineGraphName),.x (.st [.s,.i .i64,.ints .i64,.ints .i64,.ints .i64,.i .i64,.recs 5,.i .i64] u23),.r (.ints .i64 r_graphorder),.d (.i .i64 u59),.x (.ff .f32 u14),.x (.rr 4 u50),.r (.frs .f32 32 u31),.r (.ints .i64 u51),.r (.frs .f32 32 u13),.x (.rr 4 u49),.r (.ints .i64 u29)]=>some (.leaf (ok (y61 u23 u59 u14 u13)) [.s [.d (.i .i64 ((val (y61 u23 u59 u14 u13)).1)),.x 157 (.ff .f32 ((val (y61 u23 u59 u14 u13)).2)),.g 8]])|_=>none
abbrev sp_106:jab->jab:=jal 106 true (jak jp5 jhn)
def sp_106_ok:KO sp_106:=jag (kT (sp_149_ok jaf) Tryz.func106 (by kernel_rfl) fun ls t h ho=>by
 unfold jhn at h;split at h
 ·rename_i r_graphEngineGraphName u23 r_graphorder u59 u14 u50 u31 u51 u13 u49 u29;cases h;have ho:=jad ho
  generalize val (y61 u23 u59 u14 u13)=r at ho ⊢
  let l0:=lp0 (y85 u23 u14 u13) (jgz u59) r fun z=>⟨[(0,.w (.c (.p 10 0 1 0))),(2,.w (.c (.p 11 0 1 0))),(3,.w (.c (.p 12 0 1 0))),(26,.w (.c (.d (.i .i64 ((↑u23.length:Int)))))),(27,.w (.c (.d (.i .i64 z.1.1))))],[(10,.ebox [.p 2 0 1 0,.d (.i .i64 u59),.o 3,.o 4,.o 5,.o 6,.o 7,.o 8,.o 9]),(11,.box 78 [.d (.i .i64 0),.d (.v (zx none (0:Nat) (0:Nat))),.d (.v (zx none (0:Nat) (0:Nat)))]),(12,.box 78 [.d (.i .i64 (wrap .i64 (u59+1))),.o 13,.o 8]),(2,.ebox [.d (.s r_graphEngineGraphName),.o 0,.o 1]),(3,.xext (XC.ff .f32 u14)),(4,.xext (XC.rr (4:Nat) u50)),(5,.ext (.frs .f32 32 u31)),(6,.ext (.ints .i64 u51)),(7,.ext (.frs .f32 32 u13)),(8,.xext (XC.rr (4:Nat) u49)),(9,.ext (.ints .i64 u29)),(13,.xrow 157 (XC.ff .f32 z.1.2)),(0,.xext (XC.st zS u23)),(1,.ext (.ints .i64 r_graphorder))],14⟩
  let l1 (m1:Nat):Lp ((Int × List (List Nat)) × Nat × (Int × List Nat) × Nat) (Int × List Nat) (List Nat) (((Int × List (List Nat)) ⊕ (List (List Nat)))) (Int × List (List Nat)):=⟨fun z=>z.2.2.1,fun z=>z.2.2.2,fun z x n=>(z.1,z.2.1,x,n),fun z=>y84 u14 u13 z.1,fun z=>y203 z.1,fun z=>(l0).cx (z.1,m1),fun z=>z.2.1,fun z=>⟨[(0,.w (.c (.p 10 0 1 0))),(2,.w (.c (.p 11 0 1 0))),(3,.w (.c (.p 12 0 1 0))),(4,.w (.c (.d (.i .i64 (z.1.1))))),(5,.w (.c (.o 13))),(6,.w (.c (.d (.i .i64 z.2.2.1.1)))),(26,.w (.c (.d (.i .i64 ((↑u23.length:Int)))))),(27,.w (.c (.d (.i .i64 (z.1.1)))))],[(10,.ebox [.p 2 0 1 0,.d (.i .i64 u59),.o 3,.o 4,.o 5,.o 6,.o 7,.o 8,.o 9]),(11,.box 78 [.d (.i .i64 0),.d (.v (zx none (0:Nat) (0:Nat))),.d (.v (zx none (0:Nat) (0:Nat)))]),(12,.box 78 [.d (.i .i64 (wrap .i64 (u59+1))),.o 14,.o 8]),(13,.row 108 (.floats .f32 z.2.2.1.2)),(2,.ebox [.d (.s r_graphEngineGraphName),.o 0,.o 1]),(3,.xext (XC.ff .f32 u14)),(4,.xext (XC.rr (4:Nat) u50)),(5,.ext (.frs .f32 32 u31)),(6,.ext (.ints .i64 u51)),(7,.ext (.frs .f32 32 u13)),(8,.xext (XC.rr (4:Nat) u49)),(9,.ext (.ints .i64 u29)),(14,.xrow 157 (XC.ff .f32 z.1.2)),(0,.xext (XC.st zS u23)),(1,.ext (.ints .i64 r_graphorder))],15⟩⟩
  exact⟨by kernel_rfl,(fun gs id _=>match id with
   |0=>l0.li
   |2=>(l1 (gs.getD 0 0)).li
   |_=>none),Sk.vd ho (.obT (.obT (.obT (.obT (.loopQ (l0) [.c fun _=>0,.c fun _=>0,.c fun _=>0,.c fun _=>(↑u23.length:Int),.c fun vv=>vv.1.1,.c fun _=>0,.c fun _=>u59,.c fun _=>(0:Int),.c fun _=>zx none (0:Nat) (0:Nat),.c fun _=>zx none (0:Nat) (0:Nat),.c fun _=>wrap .i64 (u59+1),.c fun _=>r_graphEngineGraphName,.c fun _=>u14,.c fun _=>u50,.c fun _=>u31,.c fun _=>u51,.c fun _=>u13,.c fun _=>u49,.c fun _=>u29,.p fun vv=>za vv.1.2=(0:Nat),.c fun _=>u23,.c fun _=>r_graphorder] (fun kk=>(((0:Int),[]),big)) (fun z0 =>
   .br
   (.loopQ (l1 z0.2) [.c fun _=>0,.c fun _=>0,.c fun _=>0,.c fun vv=>vv.1.1,.c fun vv=>vv.2.2.1.1,.c fun _=>(↑u23.length:Int),.c fun vv=>vv.1.1,.c fun _=>0,.c fun _=>u59,.c fun _=>(0:Int),.c fun _=>zx none (0:Nat) (0:Nat),.c fun _=>zx none (0:Nat) (0:Nat),.c fun _=>wrap .i64 (u59+1),.p fun vv=>za vv.2.2.1.2=(0:Nat),.c fun _=>r_graphEngineGraphName,.c fun _=>u14,.c fun _=>u50,.c fun _=>u31,.c fun _=>u51,.c fun _=>u13,.c fun _=>u49,.c fun _=>u29,.c fun vv=>vv.1.2,.c fun _=>u23,.c fun _=>r_graphorder] (fun kk=>(z0.1,kk,((-96:Int),[]),big)) (fun z1 =>
   .br
   (.call (.obT (.ob (.next))))
   (.exit (.ob (.next)))) (fun _=>⟨rfl,trivial⟩))
   (.exit (.obT (.rc)))) (fun _=>⟨rfl,trivial⟩)))))) (by kernel_rfl)⟩
 ·cases h)
attribute [irreducible] y61
def jte:List (Option Cont):=[none]
def juS (x_:Nat):Option Int :=
 if(qo (FloatKind.format .f32) x_ x_ != some Ordering.eq)=true then some (27:Int)
 else if(gT (gv.sub (FloatKind.format .f32) x_ x_))=true then
  if(qo (FloatKind.format .f32) (z8 (gv.sub (FloatKind.format .f32) x_ x_) (0:Nat)) (0:Nat)!=some Ordering.eq)=true then some (27:Int)
  else if(qo (FloatKind.format .f32) x_ (1266679808:Nat)==some Ordering.gt||qo (FloatKind.format .f32) x_ (1266679808:Nat)==some Ordering.eq)=true then some (2:Int)
   else
   if(qo (FloatKind.format .f32) x_ (3414163456:Nat)==some Ordering.lt||qo (FloatKind.format .f32) x_ (3414163456:Nat)==some Ordering.eq)=true then some (2:Int)
   else if jbR .f32 .i64 x_=true then
    if(qo (FloatKind.format .f32) (qw .f32 (f2i .f32 x_)) x_ != some Ordering.eq)=true then some (27:Int)
    else if jbR .f32 .i64 x_=true then
     ze (jeP (f2i .f32 x_) (32767:Int)) fun r0 =>
     ze (y50 r0 (2:Int)) fun r1 =>
     some r1
     else none
    else none
  else
  some (27:Int)
def jkh:List A->Option (Prop × List RV)|[.d (.f .f32 x_)]=>some (ok (juS x_),[.d (.i .i64 ((val (juS x_))))])|_=>none
abbrev sp_164:jab->jab:=jal 164 true (jaK jte jkh)
def sp_164_ok:KO sp_164:=jag (kK (sp_160_ok (sp_77_ok jaf)) Tryz.func164 (by kernel_rfl) fun as_ ob rs h ho=>by
 unfold jkh at h;split at h
 ·rename_i x_;cases h;have ho:=jad ho
  generalize val (juS x_)=r at ho ⊢
  exact⟨by kernel_rfl,fun _ _ _=>none,Sk.vd ho (.brB
   (.obT (.rc))
   (.brB
   (.obT (.brB
   (.obT (.rc))
   (.brB
   (.obT (.rc))
   (.brB
   (.obT (.rc))
   (.ob (.obT (.brB
   (.obT (.rc))
   (.ob (.call (.call (.obT (.rc))))))))))))
   (.obT (.obT (.rc))))) (by kernel_rfl)⟩
 ·cases h)
attribute [irreducible] juS
def jri:List (Option Cont):=[some (.floats .f32 [])]
def jho (l:List Nat) (x0:Int):Option (Int ⊕ (Int ⊕ Unit)) :=
 if x0<(↑l.length:Int)then if 0<=x0∧x0<(↑l.length:Int)then
  if zf x0<za l then
   ze (juS (zb l x0.toNat (0:Nat))) fun r0 =>
   if(r0 != 0)=true then
   some (.inr (.inl r0))
   else
   some (.inl (wrap .i64 (x0+1)))
  else none
  else none
 else some (.inr ((.inr ())))
def jm5 (u3:Int):Option Int :=some u3
def jm6 (u4:Unit):Option Int :=some (0:Int)
def jhp:(Int ⊕ Unit)->Option Int :=(qy (jm5) (jm6))
def jlM (l:List Nat):Option Int :=ze (jae (jho l) big (0:Int)) (jhp)
def jiO:List A->Option (Prop × List RV)|[.r (.floats .f32 l)]=>some (ok (jlM l),[.d (.i .i64 ((val (jlM l))))])|_=>none
abbrev sp_142:jab->jab:=jal 142 true (jaK jri jiO)
def sp_142_ok:KO sp_142:=jag (kK (sp_164_ok jaf) Tryz.func142 (by kernel_rfl) fun as_ ob rs h ho=>by
 unfold jiO at h;split at h
 ·rename_i l;cases h;have ho:=jad ho
  generalize val (jlM l)=r at ho ⊢
  let l0:=lp0 (jho l) jhp r fun z=>⟨[(6,.w (.c (.o 0))),(7,.w (.c (.d (.i .i64 ((↑l.length:Int)))))),(8,.w (.c (.d (.i .i64 z.1))))],[(0,.ext (.floats .f32 l))],1⟩
  exact⟨by kernel_rfl,(fun _ id _=>match id with
   |0=>l0.li
   |_=>none),Sk.vd ho (.loop (l0) (fun kk=>((0:Int),big)) fun z0 =>
   .br
   (.ob (.ob (.call (.brB
   (.exit (.obT (.rc)))
   (.next)))))
   (.exit (.obT (.rc)))) (by kernel_rfl)⟩
 ·cases h)
attribute [irreducible] jlM
def jtf:List SV:=[.c (.r (.frs .f32 32 []))]
def jrj (l:List (List Nat)) (x0:Int):Option (Int ⊕ (Int ⊕ Unit)) :=
 if x0<(↑l.length:Int)then if 0<=x0∧x0<(↑l.length:Int)then
  if zf x0<za l then if za (zb l x0.toNat [])=(32:Nat)∧0<=z8 none (0:Int)∧z8 none 0<=z8 none (↑(32:Nat):Int)∧z8 none (↑(32:Nat):Int)<=(↑(32:Nat):Int)then
   ze (jlM (je (32:Nat) (jf (0:Nat) (zb l x0.toNat [])))) fun r0 =>
   if(r0 != 0)=true then some (.inr (.inl r0))
   else some (.inl (wrap .i64 (x0+1)))
   else none
  else none
  else none
 else some (.inr ((.inr ())))
def joD (u3:Int):Option Int :=some u3
def joE (u4:Unit):Option Int :=some (0:Int)
def jiP:(Int ⊕ Unit)->Option Int :=(qy (joD) (joE))
def y95 (l:List (List Nat)):Option Int :=ze (jae (jrj l) big (0:Int)) (jiP)
def jki:List Lf->Option GT|[.r (.frs .f32 32 l)]=>some (.leaf (ok (y95 l)) [.c (.d (.i .i64 ((val (y95 l)))))])|_=>none
abbrev sp_100:jab->jab:=jal 100 true (jak jtf jki)
def sp_100_ok:KO sp_100:=jag (kT (sp_142_ok jaf) Tryz.func100 (by kernel_rfl) fun ls t h ho=>by
 unfold jki at h;split at h
 ·rename_i l;cases h;have ho:=jad ho
  generalize val (y95 l)=r at ho ⊢
  let l0:=lp0 (jrj l) jiP r fun z=>⟨[(6,.w (.c (.o 0))),(7,.w (.c (.d (.i .i64 ((↑l.length:Int)))))),(8,.w (.c (.d (.i .i64 z.1))))],[(0,.ext (.frs .f32 32 l))],1⟩
  exact⟨by kernel_rfl,(fun _ id _=>match id with
   |0=>l0.li
   |_=>none),Sk.vd ho (.loop (l0) (fun kk=>((0:Int),big)) fun z0 =>
   .br
   (.ob (.ob (.obT (.ob (.call (.brB
   (.exit (.obT (.rc)))
   (.next)))))))
   (.exit (.obT (.rc)))) (by kernel_rfl)⟩
 ·cases h)
attribute [irreducible] y95
def jlN:List SV:=[.c (.p [.d,.x (.st zS []),.r (.ints .i64 [])]),.a [.d,.x (.ff .f32 []),.x (.rr 4 [])],.c (.r (.frs .f32 32 [])),.c (.r (.bools []))]
def y7 (u10:zY) (u6:List (List NC)) (u9:List Int) (u15:Int) (u27:List Bool):Option (Int × List Int × List (List Nat) × List (List (List Int)) × List Int) :=
 ze (y30 u10 u6 u9 u27) fun r0 =>
 if 0<=(↑u6.length:Int)∧(↑u6.length:Int)=(↑u6.length:Int)∧(↑(128:Nat):Int)*(↑u6.length:Int)<=281474976710656∧(↑u6.length:Int)<=9223372036854775807 then if 0<=(↑u6.length:Int)∧(↑u6.length:Int)=(↑u6.length:Int)∧(↑(24:Nat):Int)*(↑u6.length:Int)<=281474976710656∧(↑u6.length:Int)<=9223372036854775807 then
  if 0<=(↑u6.length:Int)∧(↑u6.length:Int)=(↑u6.length:Int)∧(↑(8:Nat):Int)*(↑u6.length:Int)<=281474976710656∧(↑u6.length:Int)<=9223372036854775807 then some ((u15,r0,zh (zf (↑u6.length:Int)) zO,zh (zf (↑u6.length:Int)) (NC.toRecs (zA [NC.r (Cont.recs (4:Nat) [])] (NC.d (D.v zJ)))),zh (zf (↑u6.length:Int)) (0:Int)))
  else none
  else none
 else none
def y243:List Lf->Option GT|[.d (.s u10),.x (.st [.s,.i .i64,.ints .i64,.ints .i64,.ints .i64,.i .i64,.recs 5,.i .i64] u6),.r (.ints .i64 u9),.d (.i .i64 u15),.x (.ff .f32 u11),.x (.rr 4 u12),.r (.frs .f32 32 in_),.r (.bools u27)]=>some (.leaf (ok (y7 u10 u6 u9 u15 u27)) [.c (.box 205 [.g 2,.d (.i .i64 ((val (y7 u10 u6 u9 u15 u27)).1)),.g 3,.g 4,.g 5,.row 3 (.ints .i64 ((val (y7 u10 u6 u9 u15 u27)).2.1)),.row 110 (.frs .f32 32 ((val (y7 u10 u6 u9 u15 u27)).2.2.1)),.x 158 (.rr 4 ((val (y7 u10 u6 u9 u15 u27)).2.2.2.1)),.row 3 (.ints .i64 ((val (y7 u10 u6 u9 u15 u27)).2.2.2.2))])])|_=>none
abbrev sp_102:jab->jab:=jal 102 true (jak jlN y243)
def sp_102_ok:KO sp_102:=jag (kT (sp_93_ok jaf) Tryz.func102 (by kernel_rfl) fun ls t h ho=>by
 unfold y243 at h;split at h
 ·rename_i u10 u6 u9 u15 u11 u12 in_ u27;cases h;have ho:=jad ho
  generalize val (y7 u10 u6 u9 u15 u27)=r at ho ⊢
  exact⟨by kernel_rfl,fun _ _ _=>none,Sk.vd ho (.obT (.call (.ob (.ob (.ob (.obT (.rc))))))) (by kernel_rfl)⟩
 ·cases h)
attribute [irreducible] y7
end Go.Sh
end

section
namespace Go.Sh
open Go Go.Proofs Go.RowKit Go.Sx
open Go.IntKind (wrap)
set_option maxRecDepth 100000
def jzR:List (Option Cont):=[none,none]
def jga (n by_:Int):Option Int :=
 if by_≠(0:Int)then if by_≠(0:Int)then
  if Int.tmod n by_<0 then some (wrap .i64 (wrap .i64 (Int.tdiv n by_)-1))
  else some (wrap .i64 (Int.tdiv n by_))
  else none
 else none
def jsk:List A->Option (Prop × List RV)|[.d (.i .i64 n),.d (.i .i64 by_)]=>some (ok (jga n by_),[.d (.i .i64 ((val (jga n by_))))])|_=>none
abbrev sp_184:jab->jab:=jal 184 true (jaK jzR jsk)
def sp_184_ok:KO sp_184:=jag (kK jaf Tryz.func184 (by kernel_rfl) fun as_ ob rs h ho=>by
 unfold jsk at h;split at h
 ·rename_i n by_;cases h;have ho:=jad ho
  generalize val (jga n by_)=r at ho ⊢
  exact⟨by kernel_rfl,fun _ _ _=>none,Sk.vd ho (.ob (.ob (.br
   (.obT (.rc))
   (.obT (.rc))))) (by kernel_rfl)⟩
 ·cases h)
attribute [irreducible] jga
def jwq:List (Option Cont):=[none,none]
def jgA (n by_:Int):Option Int :=
 ze (jga (wrap .i64 (wrap .i64 (2*n)+by_)) (wrap .i64 (2*by_))) fun r0 =>
 some r0
def jnV:List A->Option (Prop × List RV)|[.d (.i .i64 n),.d (.i .i64 by_)]=>some (ok (jgA n by_),[.d (.i .i64 ((val (jgA n by_))))])|_=>none
abbrev sp_181:jab->jab:=jal 181 true (jaK jwq jnV)
def sp_181_ok:KO sp_181:=jag (kK (sp_184_ok jaf) Tryz.func181 (by kernel_rfl) fun as_ ob rs h ho=>by
 unfold jnV at h;split at h
 ·rename_i n by_;cases h;have ho:=jad ho
  generalize val (jgA n by_)=r at ho ⊢
  exact⟨by kernel_rfl,fun _ _ _=>none,Sk.vd ho (.call (.obT (.rc))) (by kernel_rfl)⟩
 ·cases h)
attribute [irreducible] jgA
def jtg:List (Option Cont):=[none]
def joF (x_:Nat):Option Int :=
 if(qo (FloatKind.format .f32) x_ x_ != some Ordering.eq)=true then some (27:Int)
 else if(gT (gv.sub (FloatKind.format .f32) x_ x_))=true then
  if(qo (FloatKind.format .f32) (z8 (gv.sub (FloatKind.format .f32) x_ x_) (0:Nat)) (0:Nat)!=some Ordering.eq)=true then some (27:Int)
  else if(qo (FloatKind.format .f32) x_ (1266679808:Nat)==some Ordering.gt||qo (FloatKind.format .f32) x_ (1266679808:Nat)==some Ordering.eq)=true then some (2:Int)
   else
   if(qo (FloatKind.format .f32) x_ (3414163456:Nat)==some Ordering.lt||qo (FloatKind.format .f32) x_ (3414163456:Nat)==some Ordering.eq)=true then some (2:Int)
   else if jbR .f32 .i64 x_=true then
    if(qo (FloatKind.format .f32) (qw .f32 (f2i .f32 x_)) x_ != some Ordering.eq)=true then some (27:Int)
    else if jbR .f32 .i64 x_=true then
     ze (jc9 (f2i .f32 x_) (32767:Int)) fun r0 =>
     ze (jds r0 (2:Int)) fun r1 =>
     some r1
     else none
    else none
  else
  some (27:Int)
def jkj:List A->Option (Prop × List RV)|[.d (.f .f32 x_)]=>some (ok (joF x_),[.d (.i .i64 ((val (joF x_))))])|_=>none
abbrev sp_175:jab->jab:=jal 175 true (jaK jtg jkj)
def sp_175_ok:KO sp_175:=jag (kK (sp_177_ok (sp_176_ok jaf)) Tryz.func175 (by kernel_rfl) fun as_ ob rs h ho=>by
 unfold jkj at h;split at h
 ·rename_i x_;cases h;have ho:=jad ho
  generalize val (joF x_)=r at ho ⊢
  exact⟨by kernel_rfl,fun _ _ _=>none,Sk.vd ho (.brB
   (.obT (.rc))
   (.brB
   (.obT (.brB
   (.obT (.rc))
   (.brB
   (.obT (.rc))
   (.brB
   (.obT (.rc))
   (.ob (.obT (.brB
   (.obT (.rc))
   (.ob (.call (.call (.obT (.rc))))))))))))
   (.obT (.obT (.rc))))) (by kernel_rfl)⟩
 ·cases h)
attribute [irreducible] joF
def jrk:List (Option Cont):=[some (.floats .f32 [])]
def jrl (l:List Nat) (x0:Int):Option (Int ⊕ (Int ⊕ Unit)) :=
 if x0<(↑l.length:Int)then if 0<=x0∧x0<(↑l.length:Int)then
  if zf x0<za l then
   ze (joF (zb l x0.toNat (0:Nat))) fun r0 =>
   if(r0 != 0)=true then
   some (.inr (.inl r0))
   else
   some (.inl (wrap .i64 (x0+1)))
  else none
  else none
 else some (.inr ((.inr ())))
def jm7 (u3:Int):Option Int :=some u3
def jm8 (u4:Unit):Option Int :=some (0:Int)
def jhq:(Int ⊕ Unit)->Option Int :=(qy (jm7) (jm8))
def y72 (l:List Nat):Option Int :=ze (jae (jrl l) big (0:Int)) (jhq)
def jiQ:List A->Option (Prop × List RV)|[.r (.floats .f32 l)]=>some (ok (y72 l),[.d (.i .i64 ((val (y72 l))))])|_=>none
abbrev sp_166:jab->jab:=jal 166 true (jaK jrk jiQ)
def sp_166_ok:KO sp_166:=jag (kK (sp_175_ok jaf) Tryz.func166 (by kernel_rfl) fun as_ ob rs h ho=>by
 unfold jiQ at h;split at h
 ·rename_i l;cases h;have ho:=jad ho
  generalize val (y72 l)=r at ho ⊢
  let l0:=lp0 (jrl l) jhq r fun z=>⟨[(6,.w (.c (.o 0))),(7,.w (.c (.d (.i .i64 ((↑l.length:Int)))))),(8,.w (.c (.d (.i .i64 z.1))))],[(0,.ext (.floats .f32 l))],1⟩
  exact⟨by kernel_rfl,(fun _ id _=>match id with
   |0=>l0.li
   |_=>none),Sk.vd ho (.loop (l0) (fun kk=>((0:Int),big)) fun z0 =>
   .br
   (.ob (.ob (.call (.brB
   (.exit (.obT (.rc)))
   (.next)))))
   (.exit (.obT (.rc)))) (by kernel_rfl)⟩
 ·cases h)
attribute [irreducible] y72
def jrm:List (Option Cont):=[some (.recs 5 []),some (.recs 4 [])]
def y73 (s:List (List Int)) (x0 x1:Int):Option (Int ⊕ (Unit ⊕ Unit)) :=
 if x1<4 then if(0<=x1∧x1<(↑(4:Nat):Int))∧zb [true,true,true,true] (zf x1*1) false=true then
  ze (jc9 (zb [zb (zb s x0.toNat []) 0 (0:Int),zb (zb s x0.toNat []) 1 (0:Int),zb (zb s x0.toNat []) 2 (0:Int),zb (zb s x0.toNat []) 3 (0:Int)] (zf x1*1) (0:Int)) (32767:Int)) fun r3 =>
  if(!r3)=true then some (.inr ((.inl ())))
  else some (.inl (wrap .i64 (x1+1)))
  else none
 else some (.inr ((.inr ())))
def jm9 (x0:Int) (u7:Unit):Option (Int ⊕ (Int ⊕ Unit)) :=some (.inr (.inl x0))
def jna (x0:Int) (u20:Unit):Option (Int ⊕ (Int ⊕ Unit)) :=some (.inl (wrap .i64 (x0+1)))
def jhr (x0:Int):(Unit ⊕ Unit)->Option (Int ⊕ (Int ⊕ Unit)) :=(qy (jm9 x0) (jna x0))
def jrn (s:List (List Int)) (x0:Int):Option (Int ⊕ (Int ⊕ Unit)) :=
 if x0<(↑s.length:Int)then if 0<=x0∧x0<(↑s.length:Int)then
  if zf x0<za s then ze (jae (y73 s x0) big (0:Int)) (jhr x0)
  else none
  else none
 else some (.inr ((.inr ())))
def jnb (u3:Int):Option (Int × Int) :=some ((u3,2))
def jnc (u4:Unit):Option (Int × Int) :=some (((0:Int),0))
def jhs:(Int ⊕ Unit)->Option (Int × Int) :=(qy (jnb) (jnc))
def y74 (c s:List (List Int)):Option (Int × Int) :=
 ze (y45 c) fun r0 =>
 ze (jds ((↑s.length:Int)==(↑c.length:Int)) (10:Int)) fun r1 =>
 ze (jdB [r0,r1]) fun r2 =>
 if(r2 != 0)=true then some (((0:Int),r2))
 else ze (jae (jrn s) big (0:Int)) (jhs)
def jiR:List A->Option (Prop × List RV)|[.r (.recs 5 c),.r (.recs 4 s)]=>some (ok (y74 c s),[.d (.i .i64 ((val (y74 c s)).1)),.d (.i .i64 ((val (y74 c s)).2))])|_=>none
abbrev sp_167:jab->jab:=jal 167 true (jaK jrm jiR)
def sp_167_ok:KO sp_167:=jag (kK (sp_161_ok (sp_176_ok (sp_165_ok (sp_177_ok jaf)))) Tryz.func167 (by kernel_rfl) fun as_ ob rs h ho=>by
 unfold jiR at h;split at h
 ·rename_i c s;cases h;have ho:=jad ho
  generalize val (y74 c s)=r at ho ⊢
  let l0:=lp0 (jrn s) jhs r fun z=>⟨[(24,.w (.c (.o 1))),(25,.w (.c (.d (.i .i64 ((↑s.length:Int)))))),(26,.w (.c (.d (.i .i64 z.1))))],[(1,.ext (.recs 4 s))],2⟩
  let l1 (m1:Nat):Lp (Int × Nat × Int × Nat) Int (Unit ⊕ Unit) ((Int ⊕ (Int ⊕ Unit))) (Int × Int):=⟨fun z=>z.2.2.1,fun z=>z.2.2.2,fun z x n=>(z.1,z.2.1,x,n),fun z=>y73 s z.1,fun z=>jhr z.1,fun z=>(l0).cx (z.1,m1),fun z=>z.2.1,fun z=>⟨[(7,.w (.c (.d (.i .i64 z.1)))),(24,.w (.c (.o 1))),(25,.w (.c (.d (.i .i64 ((↑s.length:Int)))))),(26,.w (.c (.d (.i .i64 z.1)))),(43,.w (.a [.d (.i .i64 (zb (zb s z.1.toNat []) (0:Nat) (0:Int))),.d (.i .i64 (zb (zb s z.1.toNat []) (1:Nat) (0:Int))),.d (.i .i64 (zb (zb s z.1.toNat []) (2:Nat) (0:Int))),.d (.i .i64 (zb (zb s z.1.toNat []) (3:Nat) (0:Int)))])),(44,.w (.c (.d (.i .i64 z.2.2.1))))],[(1,.ext (.recs 4 s))],2⟩⟩
  exact⟨by kernel_rfl,(fun gs id _=>match id with
   |0=>l0.li
   |2=>(l1 (gs.getD 0 0)).li
   |_=>none),Sk.vd ho (.call (.call (.call (.brB
   (.obT (.obT (.rc)))
   (.loop (l0) (fun kk=>((0:Int),big)) fun z0 =>
   .br
   (.ob (.ob (.obC ((0:Int)<=0∧(0:Int)<2) (by decide) (.obC ((0:Int)<=1∧(1:Int)<2) (by decide) (.obC ((0:Int)<=0∧(0:Int)<2) (by decide) (.obC ((0:Int)<=1∧(1:Int)<2) (by decide) (.loop (l1 z0.2) (fun kk=>(z0.1,kk,0,big)) fun z1 =>
   .br
   (.ob (.call (.brB
   (.exit (.exit (.obT (.obT (.rc)))))
   (.next))))
   (.exit (.next)))))))))
   (.exit (.obT (.obT (.rc))))))))) (by kernel_rfl)⟩
 ·cases h)
attribute [irreducible] y74
def juT:List (Option Cont):=[some (.recs 5 []),some (.recs 4 [])]
def jro (c s:List (List Int)) (x0:(Int × List (List Int))):Option ((Int × List (List Int)) ⊕ (List (List Int))) :=
 if x0.1<(↑c.length:Int)then if 0<=x0.1∧x0.1<(↑c.length:Int)then
  if zf x0.1<za c then if 0<=x0.1∧x0.1<(↑s.length:Int)then
   if zf x0.1<za s then if(za x0.2+za [[zb (zb c x0.1.toNat []) 0 (0:Int),zb (zb c x0.1.toNat []) 1 (0:Int),zb (zb c x0.1.toNat []) 2 (0:Int),zb (zb c x0.1.toNat []) 3 (0:Int),zb (zb c x0.1.toNat []) 4 (0:Int),zb (zb s x0.1.toNat []) 0 (0:Int),zb (zb s x0.1.toNat []) 1 (0:Int),zb (zb s x0.1.toNat []) 2 (0:Int),zb (zb s x0.1.toNat []) 3 (0:Int),0]])*80<=140737488355328∧za x0.2+za [[zb (zb c x0.1.toNat []) 0 (0:Int),zb (zb c x0.1.toNat []) 1 (0:Int),zb (zb c x0.1.toNat []) 2 (0:Int),zb (zb c x0.1.toNat []) 3 (0:Int),zb (zb c x0.1.toNat []) 4 (0:Int),zb (zb s x0.1.toNat []) 0 (0:Int),zb (zb s x0.1.toNat []) 1 (0:Int),zb (zb s x0.1.toNat []) 2 (0:Int),zb (zb s x0.1.toNat []) 3 (0:Int),0]]<=9223372036854775807 then some (.inl ((wrap .i64 (x0.1+1),x0.2++[[zb (zb c x0.1.toNat []) 0 (0:Int),zb (zb c x0.1.toNat []) 1 (0:Int),zb (zb c x0.1.toNat []) 2 (0:Int),zb (zb c x0.1.toNat []) 3 (0:Int),zb (zb c x0.1.toNat []) 4 (0:Int),zb (zb s x0.1.toNat []) 0 (0:Int),zb (zb s x0.1.toNat []) 1 (0:Int),zb (zb s x0.1.toNat []) 2 (0:Int),zb (zb s x0.1.toNat []) 3 (0:Int),0]])))
    else none
   else none
   else none
  else none
  else none
 else some (.inr x0.2)
def jkk (u3:List (List Int)):Option (List (List Int)) :=some u3
def y96 (c s:List (List Int)):Option (List (List Int)) :=ze (jae (jro c s) big (((0:Int),[]))) (jkk)
def jlO:List A->Option (Prop × List RV)|[.r (.recs 5 c),.r (.recs 4 s)]=>some (ok (y96 c s),[.row 236 (.recs 10 ((val (y96 c s))))])|_=>none
abbrev sp_168:jab->jab:=jal 168 true (jaK juT jlO)
def sp_168_ok:KO sp_168:=jag (kK jaf Tryz.func168 (by kernel_rfl) fun as_ ob rs h ho=>by
 unfold jlO at h;split at h
 ·rename_i c s;cases h;have ho:=jad ho
  generalize val (y96 c s)=r at ho ⊢
  let l0:=lp0 (jro c s) jkk r fun z=>⟨[(1,.w (.c (.o 1))),(5,.w (.c (.o 2))),(8,.w (.c (.o 0))),(9,.w (.c (.d (.i .i64 ((↑c.length:Int)))))),(10,.w (.c (.d (.i .i64 z.1.1))))],[(1,.ext (.recs 4 s)),(2,.row 236 (.recs 10 z.1.2)),(0,.ext (.recs 5 c))],3⟩
  exact⟨by kernel_rfl,(fun _ id _=>match id with
   |0=>l0.li
   |_=>none),Sk.vd ho ((.loopQ (l0) [.c fun _=>(↑c.length:Int),.c fun vv=>vv.1.1,.c fun _=>s,.p fun vv=>za vv.1.2=(0:Nat),.c fun _=>c] (fun kk=>(((0:Int),[]),big)) (fun z0 =>
   .br
   (.ob (.ob (.ob (.ob (.ob (.next))))))
   (.exit (.obT (.rc)))) (fun _=>⟨rfl,trivial⟩))) (by kernel_rfl)⟩
 ·cases h)
attribute [irreducible] y96
def joG:List (Option Cont):=[some (.recs 10 [])]
def juU (l:List (List Int)) (x0:(Int × List (List Int))):Option ((Int × List (List Int)) ⊕ (List (List Int))) :=
 if x0.1<(↑l.length:Int)then if 0<=x0.1∧x0.1<(↑l.length:Int)then
  if zf x0.1<za l then if(za x0.2+za [[zb (zb l x0.1.toNat []) 5 (0:Int),zb (zb l x0.1.toNat []) 6 (0:Int),zb (zb l x0.1.toNat []) 7 (0:Int),zb (zb l x0.1.toNat []) 8 (0:Int)]])*32<=140737488355328∧za x0.2+za [[zb (zb l x0.1.toNat []) 5 (0:Int),zb (zb l x0.1.toNat []) 6 (0:Int),zb (zb l x0.1.toNat []) 7 (0:Int),zb (zb l x0.1.toNat []) 8 (0:Int)]]<=9223372036854775807 then some (.inl ((wrap .i64 (x0.1+1),x0.2++[[zb (zb l x0.1.toNat []) 5 (0:Int),zb (zb l x0.1.toNat []) 6 (0:Int),zb (zb l x0.1.toNat []) 7 (0:Int),zb (zb l x0.1.toNat []) 8 (0:Int)]])))
   else none
  else none
  else none
 else some (.inr x0.2)
def jfL (u3:List (List Int)):Option (List (List Int)) :=some u3
def y67 (l:List (List Int)):Option (List (List Int)) :=ze (jae (juU l) big (((0:Int),[]))) (jfL)
def jgB:List A->Option (Prop × List RV)|[.r (.recs 10 l)]=>some (ok (y67 l),[.row 174 (.recs 4 ((val (y67 l))))])|_=>none
abbrev sp_170:jab->jab:=jal 170 true (jaK joG jgB)
def sp_170_ok:KO sp_170:=jag (kK jaf Tryz.func170 (by kernel_rfl) fun as_ ob rs h ho=>by
 unfold jgB at h;split at h
 ·rename_i l;cases h;have ho:=jad ho
  generalize val (y67 l)=r at ho ⊢
  let l0:=lp0 (juU l) jfL r fun z=>⟨[(3,.w (.c (.o 1))),(6,.w (.c (.o 0))),(7,.w (.c (.d (.i .i64 ((↑l.length:Int)))))),(8,.w (.c (.d (.i .i64 z.1.1))))],[(1,.row 174 (.recs 4 z.1.2)),(0,.ext (.recs 10 l))],2⟩
  exact⟨by kernel_rfl,(fun _ id _=>match id with
   |0=>l0.li
   |_=>none),Sk.vd ho ((.loopQ (l0) [.c fun _=>(↑l.length:Int),.c fun vv=>vv.1.1,.p fun vv=>za vv.1.2=(0:Nat),.c fun _=>l] (fun kk=>(((0:Int),[]),big)) (fun z0 =>
   .br
   (.ob (.ob (.ob (.next))))
   (.exit (.obT (.rc)))) (fun _=>⟨rfl,trivial⟩))) (by kernel_rfl)⟩
 ·cases h)
attribute [irreducible] y67
def jrp:List (Option Cont):=[some (.recs 10 [])]
def jrq (l:List (List Int)) (x0:(Int × Int)):Option ((Int × Int) ⊕ Int) :=
 if x0.2<(↑l.length:Int)then if 0<=x0.2∧x0.2<(↑l.length:Int)then
  if zf x0.2<za l then some (.inl ((wrap .i64 (x0.1+zb (zb l x0.2.toNat []) 9 (0:Int)),wrap .i64 (x0.2+1))))
  else none
  else none
 else some (.inr x0.1)
def jht (u3:Int):Option Int :=some u3
def jlP (l:List (List Int)):Option Int :=ze (jae (jrq l) big (((0:Int),0))) (jht)
def jiS:List A->Option (Prop × List RV)|[.r (.recs 10 l)]=>some (ok (jlP l),[.d (.i .i64 ((val (jlP l))))])|_=>none
abbrev sp_171:jab->jab:=jal 171 true (jaK jrp jiS)
def sp_171_ok:KO sp_171:=jag (kK jaf Tryz.func171 (by kernel_rfl) fun as_ ob rs h ho=>by
 unfold jiS at h;split at h
 ·rename_i l;cases h;have ho:=jad ho
  generalize val (jlP l)=r at ho ⊢
  let l0:=lp0 (jrq l) jht r fun z=>⟨[(3,.w (.c (.d (.i .i64 z.1.1)))),(6,.w (.c (.o 0))),(7,.w (.c (.d (.i .i64 ((↑l.length:Int)))))),(8,.w (.c (.d (.i .i64 z.1.2))))],[(0,.ext (.recs 10 l))],1⟩
  exact⟨by kernel_rfl,(fun _ id _=>match id with
   |0=>l0.li
   |_=>none),Sk.vd ho (.loop (l0) (fun kk=>(((0:Int),0),big)) fun z0 =>
   .br
   (.ob (.ob (.next)))
   (.exit (.obT (.rc)))) (by kernel_rfl)⟩
 ·cases h)
attribute [irreducible] jlP
end Go.Sh
end

section
open Go.RowKit
namespace Go.Sx
def allN:List Nat->(Nat->Prop)->Prop|[],_=>True|i::is,f=>f i∧allN is f
def juV [Globs] (P:zP) (sp:jab) (N:Nat) (ops:Array qu) (k:St->Prop):Nat->Array Bool->St->Prop|0,l,st=>(match jD .any ops l with|[]=>k st|_=>False)|n+1,l,st=>match jD .any ops l with|[]=>k st|is=>allN is fun i=>match ops[i]? with|some o=>(match o.guard,jcR N o.dst,jda P sp o.op (jcv st) st.hp st.nx with|none,true,some r=>Ob r.ob∧juV P sp N ops k n (l.setIfInBounds i true) (st.put o.dst r)|_,_,_=>False)|none=>False
def jtB [Globs] (P:zP) (sp:jab) (N:Nat) (ops:Array qu) (k:St->Prop):List Nat->Nat->Array Bool->St->Prop|[],n,l,st=>juV P sp N ops k n l st|_::_,0,_,_=>False|i::F,n+1,l,st=>match ops[i]?,jxZ ops l i with|some o,true=>(match o.guard,o.dst with|none,some t=>(match jcj P o.op (jcv st) [],Nat.blt t N with|some (ob,v),true=>Ob ob∧jtB P sp N ops k F n (l.setIfInBounds i true) (st.put (some t) ⟨ob,v,st.hp,st.nx⟩)|_,_=>False)|_,_=>False)|_,_=>False
def juW [Globs] (P:zP) (sp:jab) (N:Nat):List qu->St->Prop->(St->Prop->Prop)->Prop|[],st,ps,k=>k st ps|o::L,st,ps,k=>match jda P sp o.op (jcv st) st.hp st.nx with|some r=>(match jbw o.op (jcv st) st.hp with|true=>juW P sp N L (st.put o.dst r) ps k|false=>Ob r.ob∧juW P sp N L (st.put o.dst r) (r.ob∧ps) k)|none=>False
def C.hs:C->List Nat| .o h=>[h]| .p h _ _ _=>[h]| .fn _ l=>l|_=>[]
def V.hs:V->List Nat| .w (.c x)=>x.hs| .w (.a l)=>l.flatMap C.hs| .w (.b _ _)=>[]| .t l=>l.flatMap fun u=>match u with| .c x=>x.hs| .a l=>l.flatMap C.hs| .b _ _=>[]
def O.hs:O->List Nat| .box _ cs=>cs.flatMap C.hs| .ebox cs=>cs.flatMap C.hs| .view r _ _=>[r]| .sub r _ _ _ _ _=>[r]|_=>[]
def jzS (hp:Hp):Nat->List Nat->List Nat|0,l=>l|n+1,l=>jzS hp n (jeN (l.flatMap fun h=>((find hp h).map O.hs).getD []) l)
def jtC (T:List Nat) (st:St):List (Nat × V):=T.filterMap fun t=>(jaP st.tm t).map fun v=>(t,v)
def jmP (T:List Nat) (st:St):St:=⟨jtC T st,(jzS st.hp 4 (jeN ((jtC T st).flatMap fun x=>x.2.hs) [])).reverse.filterMap fun h=>(find st.hp h).map fun o=>(h,o),st.nx⟩
def joH [Globs] (P:zP) (sp:jab) (N n0:Nat) (F:List Nat) (ops:Array qu) (st X:St) (ps:Prop):Prop :=ps->jtB P sp N ops (fun st'=>Le n0 st' X) F ops.size (Array.replicate ops.size false) st
def jp6 [Globs] (P:zP) (sp:jab) (N n0 n:Nat) (T0 T F:List Nat) (ops:Array qu) (st:St) (k:St->Prop):Prop :=match zF ops.size n with|true=>juW P sp N ops.toList (jmP T0 st) True fun X ps=>Ob (joH P sp N n0 F ops (jmP T0 st) (jmP T X) ps)∧k (jmP T X)|false=>jcs P sp N ops st k
section
variable [Globs] {P:zP} {sp:jab} {B:Kd} {N n0:Nat} {I:Env} {a:Act} {w:zr} {hp:Hp} {nx:Nat} {rd:Operand->Option V} {ds:List Deferred}
def juX {f:Nat->Prop}:∀{l:List Nat},allN l f->∀i,i∈l->f i|_::_,h,_,.head _=>h.1|_::_,h,_,.tail _ hm=>juX h.2 _ hm
def juY {w0:zr} {I0:Env} (hsp:jam P sp) {ops:Array qu} {k:St->Prop} {Q:Exit->Act->zr->Prop}
  (hK:∀(I':Env) (st':St) (a':Act) (w':zr),RelD ds I' B N n0 st' a' w'->jah n0 I0 I'->Bel B w0 w'->k st'->Q .normal a' w') :
  ∀(n:Nat) (l:Array Bool) (st:St) (I:Env) (a:Act) (w:zr),juV P sp N ops k n l st->RelD ds I B N n0 st a w->jah n0 I0 I->Bel B w0 w->wpAny P .any ops Q n l a w
 |0,l,st,I,a,w,h,hr,hag,hbl=>by
  unfold juV at h;split at h
  ·rename_i he;exact⟨he,hK I st a w hr hag hbl h⟩
  ·exact h.elim
 |n+1,l,st,I,a,w,h,hr,hag,hbl=>by
  unfold juV at h;split at h
  ·rename_i he;exact⟨fun _=>hK I st a w hr hag hbl h,by rw[he];simp⟩
  ·rename_i hne;refine⟨fun he=>absurd he hne,fun i hi=>?_⟩;have h1:=juX h i hi;split at h1
   ·rename_i o ho;split at h1
    ·rename_i r hgd hdst hstep;obtain⟨B1,g1,hh⟩:=hr.heap;have hB1:Old B1 w:=g1.old hr.le;unfold wpOp;simp only[ho];rw[if_pos (by simp[yP,hgd])];refine .inl ?_;refine jcQ hsp hh hB1 hr.reads hstep h1.1.h _ Q fun I' w' hl=>?_;exact juY hsp hK n _ _ I' _ w' h1.2 (hr.put1 g1 hdst hl) (hag.trans hl.agree hr.n0) (hbl.trans (hl.below.mono g1.le.kp))
    ·exact h1.elim
   ·exact h1.elim
def jsl {w0 w:zr} {I0:Env} (hG:∀(B:Bd) (w:zr),jby B w) (hsp:jam P sp) {ops:Array qu} {k:St->Prop} {Q:Exit->Act->zr->Prop} (hQ:∀c a w,¬Q (.panic c) a w) (hbl:Bel B w0 w)
  (hK:∀(I':Env) (st':St) (a':Act) (w':zr),RelD ds I' B N n0 st' a' w'->jah n0 I0 I'->Bel B w0 w'->k st'->Q .normal a' w') :
  ∀(F:List Nat) (n:Nat) (l:Array Bool) (st:St) (I:Env) (a:Act),jtB P sp N ops k F n l st->RelD ds I B N n0 st a w->jah n0 I0 I->wpAny P .any ops Q n l a w
 |[],n,l,st,I,a,h,hr,hag=>juY hsp hK n l st I a w h hr hag hbl
 |i::F,0,l,st,I,a,h,hr,hag=>h.elim
 |i::F,n+1,l,st,I,a,h,hr,hag=>by
  unfold jtB at h;split at h
  ·rename_i o hi htb;split at h
   ·rename_i t hg hd;split at h
    ·rename_i ob v hv hlt;obtain⟨B1,g1,hh1⟩:=hr.heap;have hrun:=fun(w':zr)=>jd8 (B:=kd fun _=>False) (w:=w') ⟨(fun h o hf=>by cases hf),(fun h o h' o' k hf=>by cases hf),hG _ w'⟩ hr.reads hv h.1.h;have hl:Left I B1 st.nx w ⟨ob,v,st.hp,st.nx⟩ true I w:=⟨jah.refl _ _,(hrun w).2,zp _,hh1.gr,Bel.refl _ _,(fun _=>xM _ _),fun _ h o k hn hf _=>absurd (hh1.ok h o hf).1 (by omega)⟩
     have hput:=hr.put1 g1 (o:=o) (by rw[hd];simpa [jcR]using hlt) hl;rw[hd]at hput;have ih:=jsl hG hsp hQ hbl hK F n (l.setIfInBounds i true) (st.put (some t) ⟨ob,v,st.hp,st.nx⟩) I _ h.2 hput hag;obtain⟨t1,t2,t3⟩:=jx0 htb;refine wpAny_take (v:=v.val I) hi t1 t2 (by simpa using t3) (fun c a w hq=>absurd hq (hQ c _ w)) (.inl ⟨by simp[yP,hg],fun w'=>(hrun w').1⟩) ?_;rw[hd];exact ih
    ·exact h.elim
   ·exact h.elim
  ·exact h.elim
def joI {k:St->Prop->Prop}:∀(L:List qu) (st:St) (ps:Prop),juW P sp N L st ps k->ps->∃X ps,k X ps∧ps
 |[],st,ps,h,hp=>⟨st,ps,h,hp⟩
 |o::L,st,ps,h,hp=>by
  unfold juW at h;split at h
  ·split at h
   ·exact joI L _ _ h hp
   ·exact joI L _ _ h.2 ⟨h.1.h,hp⟩
  ·exact h.elim
def RelD.drewA {st:St} (h:RelD ds I B N n0 st a w):RelD ds I B N n0 st a (drew w) :=let ⟨B1,g1,hh⟩:=h.heap
 ⟨h.tm,h.size,h.defers,⟨B1,g1.later (zp _),hh.below (jjt _ _) (g1.old h.le)⟩,h.le,h.n0⟩
def jlQ {st:St} {t:Nat} {v:V}:∀{T:List Nat},jaP (jtC T st) t=some v->jaP st.tm t=some v
 |[],h=>by cases h
 |x::T,h=>by
  unfold jtC at h;rw[List.filterMap_cons]at h;cases hx:jaP st.tm x with
  |none=>rw[hx]at h;exact jlQ h
  |some u =>
   rw[hx]at h;simp only[qk,jaP]at h;split at h
   ·rename_i e;subst e;rw[hx];exact h
   ·exact jlQ h
def jjU {hp:Hp} {h:Nat} {o:O}:∀{H:List Nat},find (H.filterMap fun h=>(find hp h).map fun o=>(h,o)) h=some o->find hp h=some o
 |[],h=>by cases h
 |x::H,h=>by
  rw[List.filterMap_cons]at h;cases hx:find hp x with
  |none=>rw[hx]at h;exact jjU h
  |some u =>
   rw[hx]at h;simp only[qk,find]at h;split at h
   ·rename_i e;subst e;rw[hx];exact h
   ·exact jjU h
def RelD.pack {st:St} (T:List Nat) (h:RelD ds I B N n0 st a w):RelD ds I B N n0 (jmP T st) a w :=let ⟨B1,g1,hh⟩:=h.heap
 ⟨fun t v hv=>h.tm t v (jlQ hv),h.size,h.defers,⟨B1,g1,hh.sub fun _ _ hf=>jjU hf⟩,h.le,h.n0⟩
def juZ {w0:zr} {I0:Env} (hG:∀(B:Bd) (w:zr),jby B w) (hm:P.follows .mixedOrders=true) (hsp:jam P sp) (n:Nat) (T0 T F:List Nat):jdy P B N n0 I0 w0 (jp6 P sp N n0 n T0 T F):=by
 intro ds id ops st k I a w Q hd hr hag hbl hK;unfold jp6 at hd;split at hd
 ·obtain⟨X,ps,⟨hX,hk⟩,hps⟩:=joI _ _ _ hd trivial
  have h1:=wp_region_any (id:=id) hm (jsl (w:=drew w) (Q:=fun e a w=>match e with | .normal=>Q .normal a w|_=>False) hG hsp (fun _ _ _ h=>h) ⟨hbl.os,hbl.tape,hbl.output,hbl.size,hbl.block⟩
   (fun I' st' a' w' hr' hag' hbl' (hl:Le n0 st' (jmP T X)) =>
    let ⟨I2,hr2,ha2⟩:=hl.rel hr'
    hK I2 _ a' w' hr2 (fun x hx=>(ha2 x hx).trans (hag' x hx)) hbl' hk) F ops.size _ _ I a (hX.h hps) (hr.pack T0).drewA hag)
  refine yl h1 ?_;intro e a w h;cases e<;>first|exact h|exact h.elim
 ·exact jbC hm hsp id ops st k I a w Q hd hr hag hbl hK
def jsm {f:Nat} {fn:jL} {body:jn} {shs:List SV} {g:List Lf->Option GT} {drawn:Nat->Array qu->St->(St->Prop)->Prop} (hdr:∀(B:Kd) (n0:Nat) (I:Env) (w:zr),jdy P B fn.ntmps n0 I w (drawn n0)) (hsp:jam P sp) (hf:P.funcs[f]?=some fn) (hb:fn.body=some body) (hn:(fn.name == "runtime.NumGoroutine")=false)
  (h:∀ls t,g ls=some t->t.sel.1->∀b:Bv,jdM shs 0 ls=some b->b.vs.length<=fn.ntmps∧∃fuel loops,sx P sp fn.ntmps b.n fuel loops (drawn b.n) body 0 [] ⟨jbo 0 b.vs,b.hp,b.n⟩ (jbN P fn.results.toList fun v hp _=>jfy b.n t.sel.2 v hp)) :
  jaF P f true (jak shs g) :=
 jhj hf hb hn fun ls t hg ho b hbl I0 w hlt hh=>by
  obtain⟨hlen,fuel,loops,hx⟩:=h ls t hg ho b hbl;exact jjz (n0:=b.n) (B:=kd fun k=>k<w.heap.size) hsp (fun I w=>hdr _ _ I w) hf hb hlen hx hlt (zp _) I0 w hh (fun k hk=>jbJ.1 hk)
end
end Go.Sx
end

section
open Go.RowKit
namespace Go.Sx
def rdO:O->O| .row ty c=>.row ty c| .ext c=>.ext c| .fext c=>.fext c| .box ty cs=>.box ty cs| .ebox cs=>.ebox cs| .xext x=>.xext x| .xrow ty x=>.xrow ty x| .nan k=>.nan k|_=>.dead
def rdM (ks:List Nat) (hp:Hp):Hp:=hp.map fun x=>(x.1,match ks.contains x.1 with|true=>.dead|false=>rdO x.2)
def joJ {ks:List Nat} {h:Nat}:∀{hp:Hp},find (rdM ks hp) h=(find hp h).map fun o=>match ks.contains h with|true=>.dead|false=>rdO o
 |[]=>rfl
 |(k,o)::r=>by
  have ih:=joJ (ks:=ks) (h:=h) (hp:=r);unfold rdM at ih ⊢;simp only[zL,find];split
  ·rename_i e;subst e;rfl
  ·exact ih
def movL (ty:Nat):O->Option Lf| .row ty' c=>(match zF ty' ty with|true=>some (.r c)|false=>none)| .xrow ty' X=>(match zF ty' ty with|true=>some (.x X)|false=>none)|_=>none
def jfA (hp:Hp) (am:List C):List (Nat × Nat)->Option (List (Nat × O) × List Lf)|[]=>some ([],[])|(i,ty)::l=>match am[i]? with|some (.o h)=>(match find hp h with|some o=>(match movL ty o,jfA hp am l with|some x,some (mo,ms)=>some ((h,o)::mo,x::ms)|_,_=>none)|none=>none)|_=>none
def rowM (ty:Nat):Lf->O| .r c=>.row ty c| .x X=>.xrow ty X|_=>.dead
def mkM:List (Nat × Nat)->List Lf->Hp|(i,ty)::l,x::ms=>(i,rowM ty x)::mkM l ms|_,_=>[]
def jeX:List (Nat × Nat)->List (Nat × O)->List Lf->Hp|(_,ty)::l,(h,_)::mo,x::ms=>(h,rowM ty x)::jeX l mo ms|_,_,_=>[]
def jrr:List Nat->Bool|[]=>true|h::l=>!(l.contains h)&&jrr l
inductive GM where
 |leaf (ob:Prop) (ms:List Lf) (rs:List RR)
 |br (b:Bool) (x y:GM)
def GM.sel:GM->Prop × List Lf × List RR| .leaf ob ms rs=>(ob,ms,rs)| .br b x y=>match b with|true=>x.sel|false=>y.sel
def GM.toRM (am:List C) (mv:List (Nat × Nat)) (mo:List (Nat × O)) (hp:Hp) (nx:Nat):GM->RT| .leaf ob ms rs=>let b:=jck am rs nx; .leaf ⟨ob,jb7 b.ws,b.hp++(jeX mv mo ms++jaj hp),b.n⟩| .br b x y=>.br b (x.toRM am mv mo hp nx) (y.toRM am mv mo hp nx)
def joK {am:List C} {mv:List (Nat × Nat)} {mo:List (Nat × O)} {hp:Hp} {nx:Nat}:∀t:GM,(t.toRM am mv mo hp nx).sel=⟨t.sel.1,jb7 (jck am t.sel.2.2 nx).ws,(jck am t.sel.2.2 nx).hp++(jeX mv mo t.sel.2.1++jaj hp),(jck am t.sel.2.2 nx).n⟩
 | .leaf ob ms rs=>rfl
 | .br b x y=>by
  cases b
  ·exact joK y
  ·exact joK x
def jhu (shs:List SV) (mv:List (Nat × Nat)) (g:List Lf->List Lf->Option GM):Spec:=fun vs hp nx =>
 match jhY (rdM [] hp) shs vs with|some (_,am1)=>(match jfA hp am1 mv with|some (mo1,_)=>(match jhY (rdM (mo1.map (·.1)) hp) shs vs with|some (ls,am)=>(match jfA hp am mv with|some (mo,ms)=>(match jrr (mo.map (·.1))&&decide (mo.map (·.1)=mo1.map (·.1)),g ls ms with|true,some t=>some (t.toRM am mv mo hp nx)|_,_=>none)|none=>none)|none=>none)|none=>none)|none=>none
def jmQ (hp:Hp):List (Nat × Nat)->List Lf->Prop->Prop|[],[],k=>k|(i,ty)::l,x::ms,k=>(match find hp i,x with|some (.row ty' c'),.r c=>(match zF ty' ty with|true=>jek c c'∧jmQ hp l ms k|false=>False)|some (.xrow ty' X'),.x X=>(match zF ty' ty with|true=>mX X X'∧jmQ hp l ms k|false=>False)|_,_=>False)|_,_,_=>False
def fitVu (n0:Nat) (us:List Nat) (rs:List RR) (v:V) (hp:Hp):Prop:=match v with| .w u=>jhh n0 hp rs [u] us| .t [_]=>False| .t l=>jhh n0 hp rs l us
def fitM (n0:Nat) (mv:List (Nat × Nat)) (ms:List Lf) (rs:List RR) (v:V) (hp:Hp):Prop:=jmQ hp mv ms (fitVu n0 (mv.map (·.1)) rs v hp)
section
variable [Globs] {P:zP} {sp:jab} {I I':Env} {B:Kd} {nx:Nat} {hp hp':Hp} {w w':zr} {am:List C}
def jDX (ks:List Nat) (hh:HRel I B hp nx w):HRel I B (rdM ks hp) nx w:=by
 have key:∀h o,find (rdM ks hp) h=some o->∃o1,find hp h=some o1∧o.lt nx∧o.ok I B w h∧∀k,o.blk (I h)=some k->o1.blk (I h)=some k:=fun h o hf=>by
  rw[joJ]at hf;obtain⟨o1,h1,h2⟩:=z4.1 hf;obtain⟨_,a2,a3⟩:=hh.ok h o1 h1;refine⟨o1,h1,?_⟩;subst h2;split
  ·exact⟨trivial,trivial,fun _ h=>by cases h⟩
  ·cases o1<;>first|exact⟨a2,a3,fun _ h=>h⟩|exact⟨trivial,trivial,fun _ h=>by cases h⟩
 refine⟨fun h o hf=>?_,fun h o h' o' k hf hf' hne hb hb'=>?_,hh.glob⟩
 ·obtain⟨o1,h1,h2,h3,_⟩:=key h o hf;exact⟨(hh.ok h o1 h1).1,h2,h3⟩
 ·obtain⟨o1,h1,_,_,h4⟩:=key h o hf;obtain⟨o2,h5,_,_,h6⟩:=key h' o' hf';exact hh.apart h o1 h' o2 k h1 h5 hne (h4 k hb) (h6 k hb')
def jzT {h:Nat} {l:List Nat} (hn:jrr (h::l)=true):h∉l∧jrr l=true:=by
 simp only[jrr,zk]at hn;exact⟨fun hm=>by simp[hm]at hn,hn.2⟩
def jh7:O->Bool| .row _ _=>true| .xrow _ _=>true|_=>false
def jeY {o:O} {v:zs} (h:jh7 o=true):o.blk v=v.ownBlock:=by cases o<;>first|rfl|cases h
def ju0 {ty:Nat} {o:O} {x:Lf} (h:movL ty o=some x):o=rowM ty x∧jh7 o=true:=by
 unfold movL at h;split at h
 ·split at h
  ·rename_i e;have e:=zi e;subst e;cases h;exact⟨rfl,rfl⟩
  ·cases h
 ·split at h
  ·rename_i e;have e:=zi e;subst e;cases h;exact⟨rfl,rfl⟩
  ·cases h
 ·cases h
def jhv:∀{mv:List (Nat × Nat)} {mo:List (Nat × O)} {ms:List Lf},jfA hp am mv=some (mo,ms) -> (∀p∈mo,find hp p.1=some p.2∧jh7 p.2=true) ∧ (∀x o,find (mkM mv ms) x=some o->∃h,am[x]?=some (.o h)∧find hp h=some o∧jh7 o=true∧h∈mo.map (·.1))
 |[],mo,ms,h=>by
  simp only[jfA,zj,qp]at h;obtain⟨rfl,rfl⟩:=h;exact⟨(fun _ h=>by cases h),fun _ _ h=>by cases h⟩
 |(i,ty)::l,mo,ms,h=>by
  unfold jfA at h;split at h
  ·rename_i h0 ha;split at h
   ·rename_i o0 hf;split at h
    ·rename_i x0 mo' ms' hx hm;cases h;obtain⟨e1,e2⟩:=ju0 hx;obtain⟨r1,r2⟩:=jhv hm;refine⟨fun p hp'=>?_,fun x o hfx=>?_⟩
     ·rcases qr.1 hp' with rfl|hp'
      ·exact⟨hf,e2⟩
      ·exact r1 p hp'
     ·simp only[mkM,find]at hfx;split at hfx
      ·rename_i e;subst e;cases hfx;rw[<-e1];exact⟨h0,ha,hf,e2,zw⟩
      ·obtain⟨h,q1,q2,q3,q4⟩:=r2 x o hfx;exact⟨h,q1,q2,q3,zu _ q4⟩
    ·cases h
   ·cases h
  ·cases h
def ju1:∀{mv:List (Nat × Nat)} {mo:List (Nat × O)} {ms:List Lf},jfA hp am mv=some (mo,ms)->jrr (mo.map (·.1))=true -> ∀x x' o o' h,find (mkM mv ms) x=some o->find (mkM mv ms) x'=some o'->am[x]?=some (.o h)->am[x']?=some (.o h)->x=x'
 |[],mo,ms,h,_,x,x',o,o',g,hx,_,_,_=>by
  simp only[jfA,zj,qp]at h;obtain⟨rfl,rfl⟩:=h;cases hx
 |(i,ty)::l,mo,ms,h,hn,x,x',o,o',g,hx,hx',hg,hg'=>by
  unfold jfA at h;split at h
  ·rename_i h0 ha;split at h
   ·rename_i o0 hf;split at h
    ·rename_i x0 mo' ms' hx0 hm;cases h;obtain⟨n1,n2⟩:=jzT hn;simp only[mkM,find]at hx hx';split at hx
     ·rename_i e;subst e;rw[ha]at hg;cases hg;split at hx'
      ·rename_i e;exact e
      ·obtain⟨h2,q1,_,_,q4⟩:=(jhv hm).2 x' o' hx';rw[q1]at hg';cases hg';exact absurd q4 n1
     ·split at hx'
      ·rename_i e;subst e;rw[ha]at hg';cases hg';obtain⟨h2,q1,_,_,q4⟩:=(jhv hm).2 x o hx;rw[q1]at hg;cases hg;exact absurd q4 n1
      ·exact ju1 hm n2 x x' o o' g hx hx' hg hg'
    ·cases h
   ·cases h
  ·cases h
def jsn {k:Prop}:∀{mv:List (Nat × Nat)} {mo:List (Nat × O)} {ms ms':List Lf},jfA hp am mv=some (mo,ms)->jmQ hp' mv ms' k -> k∧(∀h o,find (jeX mv mo ms') h=some o->∃x,x∈mv.map (·.1)∧am[x]?=some (.o h)∧find hp' x=some o∧jh7 o=true∧∃o0,find hp h=some o0∧jh7 o0=true) ∧ (∀h,find (jeX mv mo ms') h=none->h∉mo.map (·.1))∧(∀x∈mv.map (·.1),∃o h,find hp' x=some o∧jh7 o=true∧am[x]?=some (.o h)∧h∈mo.map (·.1)) ∧ ∀h∈mo.map (·.1),∃x∈mv.map (·.1),am[x]?=some (.o h)
 |[],mo,ms,[],h,hk=>by
  simp only[jfA,zj,qp]at h;obtain⟨rfl,rfl⟩:=h;exact⟨hk,(fun _ _ h=>by cases h),(fun _ _ h=>by cases h),(fun _ h=>by cases h),fun _ h=>by cases h⟩
 |[],mo,ms,_::_,h,hk=>hk.elim
 |(i,ty)::l,mo,ms,[],h,hk=>hk.elim
 |(i,ty)::l,mo,ms,y::ms',h,hk=>by
  unfold jfA at h;split at h
  ·rename_i h0 ha;split at h
   ·rename_i o0 hf;split at h
    ·rename_i x0 mo' ms0 hx0 hm;cases h;obtain⟨_,e2⟩:=ju0 hx0
     have hy:∃o1,find hp' i=some o1∧o1=rowM ty y∧jh7 o1=true∧jmQ hp' l ms' k:=by
      unfold jmQ at hk;split at hk
      ·rename_i ty' c' c hfi;split at hk
       ·rename_i e;have e:=zi e;subst e;have:=jb6 hk.1;subst this;exact⟨_,hfi,rfl,rfl,hk.2⟩
       ·exact hk.elim
      ·rename_i ty' X' X hfi;split at hk
       ·rename_i e;have e:=zi e;subst e;have:=jd9 hk.1;subst this;exact⟨_,hfi,rfl,rfl,hk.2⟩
       ·exact hk.elim
      ·exact hk.elim
     obtain⟨o1,g1,g2,g3,g4⟩:=hy;obtain⟨r0,r1,r2,r3,r4⟩:=jsn hm g4;refine⟨r0,fun g o hg=>?_,fun g hg=>?_,fun x hx=>?_,fun g hg=>?_⟩
     ·simp only[jeX,find]at hg;split at hg
      ·rename_i e;subst e;cases hg;rw[<-g2];exact⟨i,zw,ha,g1,g3,o0,hf,e2⟩
      ·obtain⟨x,q1,q2⟩:=r1 g o hg;exact⟨x,zu _ q1,q2⟩
     ·simp only[jeX,find]at hg;split at hg
      ·cases hg
      ·rename_i hne;intro hm2;rcases qr.1 hm2 with e|hm2
       ·exact hne e.symm
       ·exact r2 g hg hm2
     ·rcases qr.1 hx with rfl|hx
      ·exact⟨o1,h0,g1,g3,ha,zw⟩
      ·obtain⟨o,h,q1,q2,q3,q4⟩:=r3 x hx;exact⟨o,h,q1,q2,q3,zu _ q4⟩
     ·rcases qr.1 hg with rfl|hg
      ·exact⟨i,zw,ha⟩
      ·obtain⟨x,q1,q2⟩:=r4 g hg;exact⟨x,zu _ q1,q2⟩
    ·cases h
   ·cases h
  ·cases h
def jxe {B':Kd} {h h':Nat} {o:O} (hr:jh7 o=true) (he:I' h'=I h) (hok:o.ok I B w h) (hF:∀k,B.fr k->B'.fr k) (hb:∀k,(I h).ownBlock=some k->¬B'.all k):o.ok I' B' w h':=by
 cases o with
 |row ty c=>exact⟨by rw[he];exact hok.1,fun k hk=>hb k (by rw[<-he];exact hk)⟩
 |xrow ty X =>
  obtain⟨us,q1,q2,q3⟩:=hok;exact⟨us,by rw[he];exact q1,fun i j hi hj=>let ⟨u,hu,hux⟩:=q2 i j hi hj; ⟨u,hu,NC.at_mono hF hux⟩,fun k hk=>hb k (by rw[<-he];exact hk)⟩
 |_=>cases hr
def jxf {o:O} {n:Nat} (hr:jh7 o=true):o.lt n:=by cases o<;>first|trivial|cases hr
def jp7 {ks:List Nat} {h:Nat} {o:O} (hf:find (rdM ks hp) h=some o) (hd:o≠.dead):find hp h=some o∧h∉ks∧rdO o=o:=by
 rw[joJ]at hf;obtain⟨o1,h1,h2⟩:=z4.1 hf;split at h2
 ·exact absurd h2.symm hd
 ·rename_i hc;have hr:rdO o1=o1∨rdO o1=.dead:=by cases o1<;>first|exact .inl rfl|exact .inr rfl
  rcases hr with e|e
  ·rw[e]at h2;subst h2;exact⟨h1,fun hm=>(by rw[show ks.contains h=true by simpa using hm]at hc;cases hc),e⟩
  ·exact absurd (h2.symm.trans e) hd
def jzU {f:Nat} {fn:jL} {body:jn} {shs:List SV} {mv:List (Nat × Nat)} {g:List Lf->List Lf->Option GM} {drawn:Nat->Array qu->St->(St->Prop)->Prop} (hdr:∀(B:Kd) (n0:Nat) (I:Env) (w:zr),jdy P B fn.ntmps n0 I w (drawn n0)) (hsp:jam P sp) (hf:P.funcs[f]?=some fn) (hb:fn.body=some body) (hn:(fn.name == "runtime.NumGoroutine")=false)
  (h:∀ls ms t,g ls ms=some t->t.sel.1->∀b:Bv,jdM shs 0 ls=some b->b.vs.length<=fn.ntmps∧∃fuel loops,sx P sp fn.ntmps b.n fuel loops (drawn b.n) body 0 [] ⟨jbo 0 b.vs,mkM mv ms++b.hp,b.n⟩ (jbN P fn.results.toList fun v hp _=>fitM b.n mv t.sel.2.1 t.sel.2.2 v hp)) :
  jaF P f false (jhu shs mv g):=by
 refine .inl ⟨jdn hf hb hn,fun I B w args hp nx t hS hob hlt hh hB=>?_⟩;unfold jhu at hS;split at hS
 ·rename_i am1 _;split at hS
  ·rename_i mo1 _ _;split at hS
   ·rename_i ls am hto;split at hS
    ·rename_i mo ms hmv;split at hS
     ·rename_i t' hnd hg;cases hS;rw[joK]at hob ⊢;have hob:t'.sel.1:=hob;rw[zk]at hnd;obtain⟨hnd,hks⟩:=hnd;have hks:=of_decide_eq_true hks;rw[<-hks]at hto;obtain⟨mf1,mf2⟩:=jhv hmv;have hhR:=jDX (mo.map (·.1)) hh
      let Q:Nat->Prop:=fun k=>k<w.heap.size∧∀p∈mo,p.2.blk (I p.1)≠some k
      have hAQ:∀k,B.all k->Q k:=fun k hk=>⟨hB k hk,fun p hp e=>(O.blk_lt (hh.ok p.1 p.2 (mf1 p hp).1).2.2 e).2 hk⟩
      have hBQ:∀k,B.kp k->Q k:=fun k hk=>hAQ k (.inl hk)
      have hOQ:∀h o k,find hp h=some o->h∉mo.map (·.1)->o.blk (I h)=some k->Q k:=fun h o k hf hnm hk =>
       ⟨(O.blk_lt (hh.ok h o hf).2.2 hk).1,fun p hp e=>hh.apart h o p.1 p.2 k hf (mf1 p hp).1 (fun e2=>hnm (e2 ▸ jI hp)) hk e⟩
      have hQ:RdQ Q I (rdM (mo.map (·.1)) hp) w:=by
       refine⟨fun h cs hc=>?_,fun h o x hf hx _=>?_,fun h o X hf hx he=>?_⟩
       ·unfold jdT at hc;split at hc
        ·rename_i ty cs' hf;obtain⟨h1,h2,_⟩:=jp7 hf (fun e=>by cases e);exact hOQ h _ _ h1 h2 rfl
        ·rename_i cs' hf;obtain⟨h1,_,_⟩:=jp7 hf (fun e=>by cases e);obtain⟨k,o,h3,h4,_⟩:=(hh.ok h _ h1).2.2;rw[h3];exact hBQ k h4
        ·cases hc
       ·obtain⟨h1,h2,h3⟩:=jp7 hf (fun e=>by subst e;cases hx);have hok:=(hh.ok h o h1).2.2;cases o with
        |row ty c=>exact fun a n cap hv _=>hOQ h _ a.block h1 h2 (by simp[O.blk,hv,zU])
        |ext c=>exact jaW hBQ hok.2
        |fext c=>exact jaW (fun k hk=>hBQ k (B.sub k hk)) hok.2
        |_=>first|(cases h3;done)|(cases hx;done)
       ·obtain⟨h1,h2,h3⟩:=jp7 hf (fun e=>by subst e;cases hx);have hok:=(hh.ok h o h1).2.2;cases o with
        |xext Y=>cases hx;exact jAM hBQ hok
        |xrow ty Y =>
         obtain⟨a1,cap,hv1,hc1,hx1⟩:=jd5 hok hx;refine⟨a1,cap,hv1,hc1,fun hn=>?_⟩;obtain⟨b,off,rfl,hcell⟩:=hx1 hn;exact⟨b,off,rfl,hOQ h _ b h1 h2 (by simp[O.blk,hv1,zU]),fun i j hi hj=>let ⟨u,hu,hux⟩:=hcell i j hi hj; ⟨u,hu,NC.at_mono hAQ hux⟩⟩
        |_=>first|(cases h3;done)|(cases hx;done)
      obtain⟨b,I0,hbl,q⟩:=jhi hQ hhR hB shs args ls am hto hlt 0 (fun _=>zJ) [];rw[yw]at hbl;have hbn:b.n=am.length:=by have:=q.nn;omega
      let B0:Kd:=⟨Q,B.fr,fun _=>none,fun k hk=>hBQ k (B.sub k hk),fun _ _=>rfl⟩
      have hall0:∀k,B0.all k->Q k:=fun k hk=>hk.elim id fun h=>absurd rfl h
      have ham:∀x h,am[x]?=some (.o h)->x<b.n∧I0 x=I h:=fun x h hx=>by
       have hlt:=(List.getElem?_eq_some_iff.1 hx).1;refine⟨by rw[hbn];exact hlt,?_⟩;have h1:=q.own x hlt;rw[qa]at h1;rw[h1];simp[zb,hx,C.val]
      have hkQ:∀h o k,find hp h=some o->h∈mo.map (·.1)->o.blk (I h)=some k->¬Q k:=fun h o k hf hm hk hq=>by
       obtain⟨p,hp1,rfl⟩:=qn.1 hm;have:=(mf1 p hp1).1;rw[hf]at this;cases this;exact hq.2 p hp1 hk
      have hh0:HRel I0 B0 (mkM mv ms++b.hp) b.n w:=by
       have key:∀x o,find (mkM mv ms++b.hp) x=some o->find (mkM mv ms) x=some o∨find b.hp x=some o:=fun x o hf=>by
        rw[jaq]at hf;cases hg2:find (mkM mv ms) x with
        |some o2=>rw[hg2]at hf;exact .inl hf
        |none=>rw[hg2]at hf;exact .inr hf
       refine⟨fun x o hf=>?_,fun x o x' o' k hf hf' hne hk hk'=>?_,hh.glob.sub hBQ⟩
       ·rcases key x o hf with hf|hf
        ·obtain⟨h,a1,a2,a3,a4⟩:=mf2 x o hf;exact⟨(ham x h a1).1,jxf a3,jxe (I:=I) (I':=I0) (B:=B) (B':=B0) a3 (ham x h a1).2 (hh.ok h o a2).2.2 (fun _ h=>h) fun k hk hq=>hkQ h o k a2 a4 (by rw[jeY a3];exact hk) (hall0 k hq)⟩
        ·obtain⟨_,a2,a3,a4,a5⟩:=q.heap x o hf;exact⟨a2,a3,O.ok_moreB (B:=kd Q) (B2:=B0) ⟨fun _ h=>h,fun _ h=>h.elim⟩ (fun _ _ h=>by cases h) a4 fun k hk=>by rw[a5]at hk;cases hk⟩
       ·rcases key x o hf with hf|hf
        ·rcases key x' o' hf' with hf' | hf'
         ·obtain⟨h,a1,a2,a3,a4⟩:=mf2 x o hf;obtain⟨h',c1,c2,c3,c4⟩:=mf2 x' o' hf';rw[(ham x h a1).2]at hk;rw[(ham x' h' c1).2]at hk'
          by_cases e:h=h'
          ·subst e;exact hne (ju1 hmv hnd x x' o o' h hf hf' a1 c1)
          ·exact hh.apart h o h' o' k a2 c2 e hk hk'
         ·obtain⟨_,_,_,_,a5⟩:=q.heap x' o' hf';rw[a5]at hk';cases hk'
        ·obtain⟨_,_,_,_,a5⟩:=q.heap x o hf;rw[a5]at hk;cases hk
      obtain⟨hlen,fuel,loops,hx⟩:=h ls ms t' hg hob b hbl;have hcalls:=jjz (n0:=b.n) (B:=B0) hsp (fun I w=>hdr _ _ I w) hf hb hlen hx q.lt (zp _) I0 w hh0 (fun k hk=>(hall0 k hk).1);rw[q.val]at hcalls;refine hcalls.mono ?_;rintro e w' ⟨I',v,hp',nx',rfl,hvlt,hag,⟨Bc,gB,hh'⟩,hbel,hold,hfit⟩;obtain⟨hfv,n1,n2,n3,n4⟩:=jsn hmv hfit;have hBc:Old Bc w':=gB.old hold
      have hM:∀k,k<w.heap.size->¬Q k->∃p∈mo,p.2.blk (I p.1)=some k:=fun k hk hq=>by
       apply Classical.byContradiction;intro hc;exact hq ⟨hk,fun p hp e=>hc ⟨p,hp,e⟩⟩
      have hat:∀p∈mo,∀k,p.2.blk (I p.1)=some k->∃x∈mv.map (·.1),∃o,find hp' x=some o∧o.blk (I' x)=some k:=fun p hp k hk=>by
       obtain⟨x,hx1,hx2⟩:=n4 p.1 (jI hp);obtain⟨o,h,hx3,hx4,hx5,_⟩:=n3 x hx1;refine⟨x,hx1,o,hx3,?_⟩;rw[jeY hx4,hag x (ham x p.1 hx2).1,(ham x p.1 hx2).2,<-jeY (mf1 p hp).2];exact hk
      have hmB:∀p∈mo,∀k,p.2.blk (I p.1)=some k->¬Bc.all k:=fun p hp k hk=>by
       obtain⟨x,_,o,h1,h2⟩:=hat p hp k hk;exact(O.blk_lt (hh'.ok x o h1).2.2 h2).2
      have hfr:∀k,Bc.fr k->B.fr k∨w.heap.size<=k:=fun k hk=>by
       rcases gB.out k hk with h1|h1
       ·exact .inl h1
       ·refine .inr (yi fun hlt=>?_);obtain⟨p,hp,e⟩:=hM k hlt h1;exact hmB p hp k e (.inl (Bc.sub k hk))
      have hmu:∀k,Bc.mu k≠none->w.heap.size<=k:=fun k hk=>yi fun hlt=>by
       by_cases hq:Q k
       ·exact hk (Bc.dis k (gB.le.kp k hq))
       ·obtain⟨p,hp,e⟩:=hM k hlt hq;exact hmB p hp k e (.inr hk)
      let Bn:Kd:=⟨fun k=>B.kp k∨Bc.fr k,fun k=>B.fr k∨Bc.fr k,fun k=>match B.mu k with|some g=>some g|none=>Bc.mu k,fun k hk=>hk.imp (B.sub k) id,fun k hk=>by
       have h1:B.mu k=none:=by
        rcases hk with hk|hk
        ·exact B.dis k hk
        ·rcases hfr k hk with h2|h2
         ·exact B.dis k (B.sub k h2)
         ·cases hm2:B.mu k with
          |none=>rfl
          |some g=>exact absurd (hB k (.inr (by rw[hm2];simp))) (yB h2)
       have h2:Bc.mu k=none:=by
        rcases hk with hk|hk
        ·exact Bc.dis k (gB.le.kp k (hBQ k hk))
        ·exact Bc.dis k (Bc.sub k hk)
       show(match B.mu k with|some g=>some g|none=>Bc.mu k)=none
       rw[h1,h2]⟩
      have hmn:∀k,Bn.mu k=match B.mu k with|some g=>some g|none=>Bc.mu k:=fun _=>rfl
      have hBn:B.Le Bn:=⟨fun k hk=>.inl hk,fun k hk=>.inl hk⟩
      have hBm:B.LeM Bn:=fun k g hk=>by rw[hmn,hk]
      have hna:∀k,Bn.all k->B.all k∨(w.heap.size<=k∧Bc.all k):=fun k hk=>by
       rcases hk with (hk|hk)|hk
       ·exact .inl (.inl hk)
       ·rcases hfr k hk with h2|h2
        ·exact .inl (.inl (B.sub k h2))
        ·exact .inr ⟨h2,.inl (Bc.sub k hk)⟩
       ·rw[hmn]at hk;cases hm2:B.mu k with
        |none=>rw[hm2]at hk;exact .inr ⟨hmu k hk,.inr hk⟩
        |some g=>exact .inl (.inr (by rw[hm2];simp))
      have gn:Grow B Bn false w w':=⟨hBn,fun k hk=>(hna k hk).imp id fun h=>hBc k h.2,fun k hk=>by
       rcases hk with hk|hk
       ·exact .inl hk
       ·exact(hfr k hk).imp id fun h hb=>absurd (hB k (.inl hb)) (yB h),fun h=>by cases h⟩
      have hsame:∀k,k<w.heap.size->¬(∃p∈mo,p.2.blk (I p.1)=some k)->w'.heap[k]?=w.heap[k]?:=fun k hk hnm=>hbel.block k ⟨hk,fun p hp e=>hnm ⟨p,hp,e⟩⟩;have hGB:∀k,(∃p∈mo,p.2.blk (I p.1)=some k)->¬B.all k:=fun k ⟨p,hp,e⟩=>(O.blk_lt (hh.ok p.1 p.2 (mf1 p hp).1).2.2 e).2
      have old:∀h o,find (jeX mv mo t'.sel.2.1++jaj hp) h=some o->(find (jeX mv mo t'.sel.2.1) h=some o)∨(h∉mo.map (·.1)∧find (jaj hp) h=some o):=fun h o hf=>by
       rw[jaq]at hf;cases hg2:find (jeX mv mo t'.sel.2.1) h with
       |some o2=>rw[hg2]at hf;exact .inl hf
       |none=>rw[hg2]at hf;exact .inr ⟨n2 h hg2,hf⟩
      have own0:∀h o k,find (jeX mv mo t'.sel.2.1++jaj hp) h=some o->o.blk (I h)=some k->∃o0,find hp h=some o0∧o0.blk (I h)=some k:=fun h o k hf hk=>by
       rcases old h o hf with hf|⟨_,hf⟩
       ·obtain⟨x,_,_,_,q4,o0,q5,q6⟩:=n1 h o hf;exact⟨o0,q5,by rw[jeY q6,<-jeY q4];exact hk⟩
       ·obtain⟨o1,h2,_,_,_,_,h7⟩:=jaI hh hf;exact⟨o1,h2,h7 k hk⟩
      have hh1:HRel I Bn (jeX mv mo t'.sel.2.1++jaj hp) nx w':=by
       refine⟨fun h o hf=>?_,fun h o h' o' k hf hf' hne hk hk'=>?_,(jit hsame (fun k hk=>nkp (hGB k hk)) hh.glob).sub hBn.kp⟩
       ·have hnB:∀k,o.blk (I h)=some k->¬Bn.all k:=fun k hk hb=>by
         obtain⟨o0,h1,h2⟩:=own0 h o k hf hk;have h3:=O.blk_lt (hh.ok h o0 h1).2.2 h2;rcases hna k hb with hb|hb
         ·exact h3.2 hb
         ·exact absurd h3.1 (yB hb.1)
        rcases old h o hf with hf|⟨hnm,hf⟩
        ·obtain⟨x,q1,q2,q3,q4,o0,q5,_⟩:=n1 h o hf;have he:I h=I' x:=by rw[hag x (ham x h q2).1,(ham x h q2).2]
         exact⟨(hh.ok h o0 q5).1,jxf q4,jxe (I:=I') (I':=I) (B:=Bc) (B':=Bn) q4 he (hh'.ok x o q3).2.2 (fun k hk=>.inr hk) fun k hk=>hnB k (by rw[jeY q4,he];exact hk)⟩
        ·obtain⟨o1,h2,h3,h4,h5,h6,h7⟩:=jaI hh hf
         exact⟨h3,h4,O.ok_moreB hBn hBm (O.ok_exceptS hsame hGB h5 (fun k hk hm=>by
          obtain⟨p,hp,e⟩:=hm;exact hh.apart h o1 p.1 p.2 k h2 (mf1 p hp).1 (fun e2=>hnm (e2 ▸ jI hp)) (h7 k hk) e) h6) hnB⟩
       ·obtain⟨o0,a1,a2⟩:=own0 h o k hf hk;obtain⟨o0',c1,c2⟩:=own0 h' o' k hf' hk';exact hh.apart h o0 h' o0' k a1 c1 hne a2 c2
      obtain⟨ws,hws,hfw⟩:∃ws,(jb7 ws).val I'=v.val I'∧jhh b.n hp' t'.sel.2.2 ws (mv.map (·.1)):=by
       match v,hfv with
       | .w u,hfit=>exact⟨[u],rfl,hfit⟩
       | .t [],hfit=>exact⟨[],rfl,hfit⟩
       | .t (x::y::l),hfit=>exact⟨x::y::l,rfl,hfit⟩
      have hin:CIn I I' Bn (jeX mv mo t'.sel.2.1++jaj hp) hp' nx w.heap.size b.n am w' (mv.map (·.1)) (mv.map (·.1)):=by
       refine⟨(fun _ h=>h),hh1,fun k o b hk hbk=>?_,fun i hi=>?_⟩
       ·obtain⟨o0,a1,a2⟩:=own0 k o b hk hbk;exact .inl (O.blk_lt (hh.ok k o0 a1).2.2 a2).1
       ·have hi2:i<am.length:=by omega
        have h1:=q.own i hi2;rw[qa]at h1;refine⟨?_,by rw[hag i hi];exact h1.symm⟩;have:am.getD i (.d (.v zJ))=am[i]:=by simp[zb,hi2]
        rw[this];exact q.xlt _ (List.getElem_mem hi2)
      obtain⟨us2,I2,k⟩:=jjO (B:=Bn) (m:=w.heap.size) (us0:=mv.map (·.1)) (fun q' oq k hq hus hk=>yi fun hlt=>by
       by_cases hq2:Q k
       ·exact(O.blk_lt (hh'.ok q' oq hq).2.2 hk).2 (.inl (gB.le.kp k hq2))
       ·obtain⟨p,hp,e⟩:=hM k hlt hq2;obtain⟨x,hx1,o,hx2,hx3⟩:=hat p hp k e;exact hh'.apart q' oq x o k hq hx2 (fun e2=>by subst e2;rw[show(mv.map (·.1)).contains q'=true by simpa using hx1]at hus;cases hus) hk hx3) (fun k hk=>(hna k hk).elim (fun h=>.inl (gB.le.kp k (hAQ k h))) (fun h=>h.2)) (fun k hk=>.inr hk) (fun k g hk=>by
       rw[hmn];cases hm2:B.mu k with
       |none=>exact hk
       |some g'=>exact absurd (hB k (.inr (by rw[hm2];simp))) (yB (hmu k (by rw[hk];simp)))) hh' t'.sel.2.2 ws (mv.map (·.1)) hfw nx _ I hin
      refine⟨I2,?_,k.agree,jf8 k.lt,k.le,⟨Bn,gn,k.heap⟩,⟨hbel.os,hbel.tape,hbel.output,hbel.size,fun k hk=>hbel.block k (hBQ k hk)⟩,(fun h=>by cases h),fun h=>by cases h⟩
      show yg _=yg ((jb7 (jck am t'.sel.2.2 nx).ws).val I2)
      rw[<-hws,jdk,jdk];simp only[k.val]
     ·cases hS
    ·cases hS
   ·cases hS
  ·cases hS
 ·cases hS
def jBq {f:Nat} {fn:jL} {body:jn} {shs:List SV} {mv:List (Nat × Nat)} {g:List Lf->List Lf->Option GM} (hm:P.follows .mixedOrders=true) (hsp:jam P sp) (hf:P.funcs[f]?=some fn) (hb:fn.body=some body) (hn:(fn.name == "runtime.NumGoroutine")=false)
  (h:∀ls ms t,g ls ms=some t->t.sel.1->∀b:Bv,jdM shs 0 ls=some b->b.vs.length<=fn.ntmps∧∃fuel loops,sx P sp fn.ntmps b.n fuel loops (jcs P sp fn.ntmps) body 0 [] ⟨jbo 0 b.vs,mkM mv ms++b.hp,b.n⟩ (jbN P fn.results.toList fun v hp _=>fitM b.n mv t.sel.2.1 t.sel.2.2 v hp)) :
  jaF P f false (jhu shs mv g) :=
 jzU (drawn:=fun _=>jcs P sp fn.ntmps) (fun _ _ _ _=>jbC hm hsp) hsp hf hb hn h
end
end Go.Sx
end

section
open Go.RowKit
namespace Go.Sh
open Go Go.Proofs Go.RowKit Go.Sx
abbrev runA (n:Nat) (T0 T F:List Nat) (fn:jL) (sp:jab) (loops:jel) (b:Bv) (rs:List RR):Prop :=sx Tryz.prog sp fn.ntmps b.n 40 loops (jp6 Tryz.prog sp fn.ntmps b.n n T0 T F) (bodyOf fn) 0 [] ⟨jbo 0 b.vs,b.hp,b.n⟩ (jbN Tryz.prog fn.results.toList fun v hp _=>jfy b.n rs v hp)
def jeZ:jn->Option (Array qu)| .region _ ops true=>some ops| .seq a b=>(match jeZ a with|some x=>some x|none=>jeZ b)| .cond _ a b=>(match jeZ a with|some x=>some x|none=>jeZ b)| .block _ b=>jeZ b| .loop b=>jeZ b|_=>none
def jcI:jn->List (Array qu)| .region _ ops true=>[ops]| .seq a b=>jcI a++jcI b| .cond _ a b=>jcI a++jcI b| .block _ b=>jcI b| .loop b=>jcI b|_=>[]
def jCn (B:Bd) (w:zr):jby B w:=⟨fun _ _ h=>(by cases h),jkL (fun _=>rfl) B w⟩
abbrev runM (mv:List (Nat × Nat)) (fn:jL) (sp:jab) (loops:jel) (b:Bv) (ms0 ms1:List Lf) (rs:List RR):Prop :=sx Tryz.prog sp fn.ntmps b.n 40 loops (jcs Tryz.prog sp fn.ntmps) (bodyOf fn) 0 [] ⟨jbo 0 b.vs,mkM mv ms0++b.hp,b.n⟩ (jbN Tryz.prog fn.results.toList fun v hp _=>fitM b.n mv ms1 rs v hp)
def kM {sp:jab} {f:Nat} {fn:jL} {shs:List SV} {mv:List (Nat × Nat)} {g:List Lf->List Lf->Option GM} (hsp:jam Tryz.prog sp) (hf:Tryz.prog.funcs[f]?=some fn) (hb:fnB fn=true)
  (h:∀ls ms t,g ls ms=some t->t.sel.1->qN (jdV shs ls).vs.length fn.ntmps=true∧∃loops,runM mv fn sp loops (jdV shs ls) ms t.sel.2.1 t.sel.2.2):jaF Tryz.prog f false (jhu shs mv g) :=
 jBq mixed hsp hf (jdI hb).1 (jdI hb).2 fun ls ms t hg ho b hbl=>by
  obtain rfl:=jeu hbl;exact⟨zQ (h ls ms t hg ho).1,40,(h ls ms t hg ho).2⟩
def kA (n:Nat) (T0 T F:List Nat) {sp:jab} {f:Nat} {fn:jL} {shs:List SV} {g:List Lf->Option GT} (hsp:jam Tryz.prog sp) (hf:Tryz.prog.funcs[f]?=some fn) (hb:fnB fn=true)
  (h:∀ls t,g ls=some t->t.sel.1->qN (jdV shs ls).vs.length fn.ntmps=true∧∃loops,runA n T0 T F fn sp loops (jdV shs ls) t.sel.2):jaF Tryz.prog f true (jak shs g) :=
 jsm (drawn:=fun n0=>jp6 Tryz.prog sp fn.ntmps n0 n T0 T F) (fun _ _ _ _=>juZ jCn mixed hsp n T0 T F) hsp hf (jdI hb).1 (jdI hb).2 fun ls t hg ho b hbl=>by
  obtain rfl:=jeu hbl;exact⟨zQ (h ls t hg ho).1,40,(h ls t hg ho).2⟩
def slot0 (ops:Array qu):Option Nat:=(ops[0]?).bind (·.dst)
def jp8 (P:zP) (sp:jab) (N n0:Nat):List (Nat × List Nat × List Nat × List Nat)->Array qu->St->(St->Prop)->Prop|[],ops,st,k=>jcs P sp N ops st k|(d,T0,T,F)::l,ops,st,k=>match slot0 ops==some d with|true=>jp6 P sp N n0 ops.size T0 T F ops st k|false=>jp8 P sp N n0 l ops st k
def ju2 {P:zP} {sp:jab} {B:Kd} {N n0:Nat} {I0:Env} {w0:zr} (hm:P.follows .mixedOrders=true) (hsp:jam P sp):∀L,jdy P B N n0 I0 w0 (jp8 P sp N n0 L)
 |[]=>jbC hm hsp
 |(d,T0,T,F)::l=>by
  intro ds id ops st k I a w Q hd;unfold jp8 at hd;split at hd
  ·exact juZ jCn hm hsp ops.size T0 T F id ops st k I a w Q hd
  ·exact ju2 hm hsp l id ops st k I a w Q hd
abbrev runL (L:List (Nat × List Nat × List Nat × List Nat)) (fn:jL) (sp:jab) (loops:jel) (b:Bv) (rs:List RR):Prop :=sx Tryz.prog sp fn.ntmps b.n 40 loops (jp8 Tryz.prog sp fn.ntmps b.n L) (bodyOf fn) 0 [] ⟨jbo 0 b.vs,b.hp,b.n⟩ (jbN Tryz.prog fn.results.toList fun v hp _=>jfy b.n rs v hp)
def kL (L:List (Nat × List Nat × List Nat × List Nat)) {sp:jab} {f:Nat} {fn:jL} {shs:List SV} {g:List Lf->Option GT} (hsp:jam Tryz.prog sp) (hf:Tryz.prog.funcs[f]?=some fn) (hb:fnB fn=true)
  (h:∀ls t,g ls=some t->t.sel.1->qN (jdV shs ls).vs.length fn.ntmps=true∧∃loops,runL L fn sp loops (jdV shs ls) t.sel.2):jaF Tryz.prog f true (jak shs g) :=
 jsm (drawn:=fun n0=>jp8 Tryz.prog sp fn.ntmps n0 L) (fun _ _ _ _=>ju2 mixed hsp L) hsp hf (jdI hb).1 (jdI hb).2 fun ls t hg ho b hbl=>by
  obtain rfl:=jeu hbl;exact⟨zQ (h ls t hg ho).1,40,(h ls t hg ho).2⟩
def ai {a b:Prop} (x:a) (y:b):a∧b:=⟨x,y⟩
def oR {α:Type} (a:α):Ob (a=a):=⟨rfl⟩
end Go.Sh
end

section
namespace Go.Sh
open Go Go.Proofs Go.RowKit Go.Sx
open Go.IntKind (wrap)
set_option maxRecDepth 100000
def ju3:List SV:=[.c (.mp 10),.c (.d)]
abbrev pu1 (iu x_:Int) (us:List (List Int)):Int:=(wrap .i64 (wrap .i64 (wrap .i64 (wrap .i64 (wrap .i64 (zb (zb us iu.toNat []) 0 0*x_)+wrap .i64 (zb (zb us iu.toNat []) 1 0*zb (zb us iu.toNat []) 5 (0:Int)))+wrap .i64 (zb (zb us iu.toNat []) 2 0*zb (zb us iu.toNat []) 6 (0:Int)))-wrap .i64 (zb (zb us iu.toNat []) 3 0*zb (zb us iu.toNat []) 7 (0:Int)))-wrap .i64 (zb (zb us iu.toNat []) 4 0*zb (zb us iu.toNat []) 8 (0:Int))))
abbrev pu9 (iu:Int) (us:List (List Int)):List (List Int):=qz us iu.toNat (wr (10:Nat) (zb us iu.toNat []) (9:Nat) [wrap .i64 (zb (zb us iu.toNat []) 9 (0:Int)+1)])
abbrev pu5 (iu x_:Int) (us:List (List Int)):List (List Int):=qz us iu.toNat (wr (10:Nat) (zb us iu.toNat []) (5:Nat) [x_,zb (zb us iu.toNat []) 5 (0:Int)])
abbrev puc (r:Int):Int:=if(if r<32767 then r else(32767:Int))>(-32767:Int)then if r<32767 then r else(32767:Int)else(-32767:Int)
def jlR (iu x_:Int) (us:List (List Int)):Option (Int × List (List Int)) :=
 if zf iu<za us then if zf iu<za us then
  if zf iu<za us then if zf iu<za us then
   if zf iu<za us then if zf iu<za us then
    if zf iu<za us then if zf iu<za us then
     if zf iu<za us then
      ze (jgA (pu1 iu x_ us) (16384:Int)) fun r0 =>
      if((puc r0)!=r0)=true then
      if zf iu<za us then if zf iu<za us then
       if zf iu<za (pu9 iu us)then if zf iu<za (pu9 iu us)then
        if zf iu<za (pu9 iu us)then if zf iu<za (pu5 iu x_ (pu9 iu us))then some ((puc r0,qz (pu5 iu x_ (pu9 iu us)) iu.toNat (wr (10:Nat) (zb (pu5 iu x_ (pu9 iu us)) iu.toNat []) (7:Nat) [puc r0,zb (zb (pu9 iu us) iu.toNat []) 7 (0:Int)])))
         else none
        else none
        else none
       else none
       else none
      else none
      else
      if zf iu<za us then if zf iu<za us then
       if zf iu<za us then if zf iu<za (pu5 iu x_ us)then some ((puc r0,qz (pu5 iu x_ us) iu.toNat (wr (10:Nat) (zb (pu5 iu x_ us) iu.toNat []) (7:Nat) [puc r0,zb (zb us iu.toNat []) 7 (0:Int)])))
        else none
       else none
       else none
      else none
     else none
     else none
    else none
    else none
   else none
   else none
  else none
  else none
 else none
def jlS:List Lf->List Lf->Option GM|[.d (.i .i64 iu),.d (.i .i64 x_)],[.r (.recs 10 us)]=>some (.leaf (ok (jlR iu x_ us)) [.r (.recs 10 ((val (jlR iu x_ us)).2))] [.c (.d (.i .i64 ((val (jlR iu x_ us)).1)))])|_,_=>none
abbrev sp_178:jab->jab:=jal 178 false (jhu ju3 [(0,236)] jlS)
def sp_178_ok:KO sp_178:=jag (kM (sp_181_ok jaf) Tryz.func178 (by kernel_rfl) fun ls ms t h ho=>by
 unfold jlS at h;split at h
 ·rename_i iu x_ us;cases h;have ho:=jad ho
  generalize val (jlR iu x_ us)=r at ho ⊢
  exact⟨by kernel_rfl,fun _ _ _=>none,Sk.vd ho (.obC ((0:Int)<=0∧(0:Int)<3) (by decide) (.ob (.obC ((0:Int)<=1∧(1:Int)<3) (by decide) (.ob (.obC ((0:Int)<=0∧(0:Int)<2) (by decide) (.ob (.obC ((0:Int)<=2∧(2:Int)<3) (by decide) (.ob (.obC ((0:Int)<=1∧(1:Int)<2) (by decide) (.ob (.obC ((0:Int)<=0∧(0:Int)<2) (by decide) (.ob (.obC ((0:Int)<=0∧(0:Int)<2) (by decide) (.ob (.obC ((0:Int)<=1∧(1:Int)<2) (by decide) (.ob (.obC ((0:Int)<=1∧(1:Int)<2) (by decide) (.ob (.call (.brB
   (.ob (.ob (.obC ((0:Int)<=0∧(0:Int)<2) (by decide) (.ob (.obC ((0:Int)<=0∧(0:Int)<2) (by decide) (.ob (.ob (.ob (.obT (.ret (fun r=>(Ob (qz (pu5 iu x_ (pu9 iu us)) iu.toNat (wr (10:Nat) (zb (pu5 iu x_ (pu9 iu us)) iu.toNat []) (7:Nat) [puc (val (jgA (pu1 iu x_ us) (16384:Int))),zb (zb (pu9 iu us) iu.toNat []) 7 (0:Int)])=r.2) ∧
 (Ob ((puc (val (jgA (pu1 iu x_ us) (16384:Int))))=r.1) ∧
 True))) ⟨⟨rfl⟩,⟨⟨rfl⟩,trivial⟩⟩))))))))))
   (.obC ((0:Int)<=0∧(0:Int)<2) (by decide) (.ob (.obC ((0:Int)<=0∧(0:Int)<2) (by decide) (.ob (.ob (.ob (.obT (.ret (fun r=>(Ob (qz (pu5 iu x_ us) iu.toNat (wr (10:Nat) (zb (pu5 iu x_ us) iu.toNat []) (7:Nat) [puc (val (jgA (pu1 iu x_ us) (16384:Int))),zb (zb us iu.toNat []) 7 (0:Int)])=r.2) ∧
 (Ob ((puc (val (jgA (pu1 iu x_ us) (16384:Int))))=r.1) ∧
 True))) ⟨⟨rfl⟩,⟨⟨rfl⟩,trivial⟩⟩)))))))))))))))))))))))))))) (by kernel_rfl)⟩
 ·cases h)
attribute [irreducible] jlR
end Go.Sh
end

section
namespace Go.Sh
open Go Go.Proofs Go.RowKit Go.Sx
open Go.IntKind (wrap)
set_option maxRecDepth 100000
def jth:List SV:=[.c (.m),.c (.d)]
def jrs (l:List (List Int)) (x0:(Int × Int × List (List Int))):Option ((Int × Int × List (List Int)) ⊕ (Int × List (List Int))) :=
 if x0.2.1<(↑l.length:Int)then if 0<=x0.2.1∧x0.2.1<(↑x0.2.2.length:Int)then
  ze (jlR (↑x0.2.1.toNat:Int) x0.1 x0.2.2) fun r0 =>
  some (.inl ((r0.1,wrap .i64 (x0.2.1+1),r0.2)))
  else none
 else some (.inr (x0.1,x0.2.2))
def jiT (u3:Int × List (List Int)):Option (Int × List (List Int)) :=some (u3.1,u3.2)
def joL (x_:Int) (l:List (List Int)):Option (Int × List (List Int)) :=ze (jae (jrs l) big ((x_,0,l))) (jiT)
def jkl:List Lf->List Lf->Option GM|[.d (.i .i64 x_)],[.r (.recs 10 l)]=>some (.leaf (ok (joL x_ l)) [.r (.recs 10 ((val (joL x_ l)).2))] [.c (.d (.i .i64 ((val (joL x_ l)).1)))])|_,_=>none
abbrev sp_169:jab->jab:=jal 169 false (jhu jth [(0,236)] jkl)
def sp_169_ok:KO sp_169:=jag (kM (sp_178_ok jaf) Tryz.func169 (by kernel_rfl) fun ls ms t h ho=>by
 unfold jkl at h;split at h
 ·rename_i x_ l;cases h;have ho:=jad ho
  generalize val (joL x_ l)=r at ho ⊢
  let l0:=lp0 (jrs l) jiT r fun z=>⟨[(0,.w (.c (.o 0))),(1,.w (.c (.d (.i .i64 z.1.1)))),(7,.w (.c (.d (.i .i64 ((↑l.length:Int)))))),(8,.w (.c (.d (.i .i64 z.1.2.1))))],[(0,.row 236 (.recs 10 z.1.2.2))],1⟩
  exact⟨by kernel_rfl,(fun _ id _=>match id with
   |0=>l0.li
   |_=>none),Sk.vd ho ((.loop (l0) (fun kk=>((x_,0,l),big)) fun z0 =>
   .br
   (.ob (.call (.next)))
   (.exit (.obT (.ret (fun r=>(Ob (z0.1.2.2=r.2) ∧
 (Ob (z0.1.1=r.1) ∧
 True))) ⟨⟨rfl⟩,⟨⟨rfl⟩,trivial⟩⟩))))) (by kernel_rfl)⟩
 ·cases h)
end Go.Sh
end

section
namespace Go.Sh
open Go Go.Proofs Go.RowKit Go.Sx
open Go.IntKind (wrap)
set_option maxRecDepth 100000
attribute [local irreducible] y45 jdB
def jCK:List SV:=[.c (.r (.recs 5 [])),.b (.f .f32 []) 32,.c (.r (.recs 4 []))]
def jcY (b:List Nat) (x0:(Int × List (List Int) × List Nat)):Option ((Int × List (List Int) × List Nat) ⊕ (List (List Int) × List Nat)) :=
 if x0.1<32 then if 0<=x0.1∧x0.1<(↑(32:Nat):Int)then
  if jbR .f32 .i64 (zb b x0.1.toNat (0:Nat))=true then
   ze (joL (f2i .f32 (zb b x0.1.toNat (0:Nat))) x0.2.1) fun r5 =>
   if 0<=x0.1∧x0.1<(↑(32:Nat):Int)then
   if 0+(0+zf x0.1*1)<32 then some (.inl ((wrap .i64 (x0.1+1),r5.2,jeE (32:Nat) x0.2.2 (0+(0+zf x0.1*1)) (qw .f32 r5.1))))
   else none
   else none
  else none
  else none
 else some (.inr (x0.2.1,x0.2.2))
def jgC (u3:List (List Int) × List Nat):Option (List Nat × List (List Int) × Int × Int) :=
 ze (y67 u3.1) fun r6 =>
 ze (jlP u3.1) fun r7 =>
 some ((u3.2,r6,r7,0))
def jdd (c:List (List Int)) (b:List Nat) (s:List (List Int)):Option (List Nat × List (List Int) × Int × Int) :=
 ze (y45 c) fun r0 =>
 if za b=(32:Nat)∧0<=z8 none (0:Int)∧z8 none 0<=z8 none (↑(32:Nat):Int)∧z8 none (↑(32:Nat):Int)<=(↑(32:Nat):Int)then
  ze (y72 (je (32:Nat) (jf (0:Nat) b))) fun r1 =>
  ze (jdB [r0,r1]) fun r2 =>
  if(r2==0)=true then
  ze (y74 c s) fun r3 =>
  if(r3.2 != 0)=true then some ((zO,[],0,r3.2))
  else
   ze (y96 c s) fun r4 =>
   ze (jae (jcY b) big (((0:Int),r4,zO))) (jgC)
  else
  if(r2 != 0)=true then some ((zO,[],0,r2))
  else
   ze (y96 c s) fun r4 =>
   ze (jae (jcY b) big (((0:Int),r4,zO))) (jgC)
 else none
def jxg:List Lf->Option GT|[.r (.recs 5 c),.b 32 (.f .f32 b),.r (.recs 4 s)]=>some (.leaf (ok (jdd c b s)) [.b 32 (.f .f32 ((val (jdd c b s)).1)),.c (.row 174 (.recs 4 ((val (jdd c b s)).2.1))),.c (.d (.i .i64 ((val (jdd c b s)).2.2.1))),.c (.d (.i .i64 ((val (jdd c b s)).2.2.2)))])|_=>none
abbrev sp_143:jab->jab:=jal 143 true (jak jCK jxg)
def sp_143_ok:KO sp_143:=jag (kT (sp_161_ok (sp_166_ok (sp_165_ok (sp_167_ok (sp_168_ok (sp_169_ok (sp_170_ok (sp_171_ok jaf)))))))) Tryz.func143 (by kernel_rfl) fun ls t h ho=>by
 unfold jxg at h;split at h
 ·rename_i c b s;cases h;have ho:=jad ho
  generalize val (jdd c b s)=r at ho ⊢
  let l0:=lp0 (jcY b) jgC r fun z=>⟨[(6,.w (.c (.p 2 0 1 0))),(11,.w (.c (.o 3))),(12,.w (.c (.p 4 0 1 0))),(36,.w (.b 32 (.f .f32 b))),(37,.w (.c (.d (.i .i64 z.1.1))))],[(2,.arr 110 32 (.f .f32 (zO))),(3,.row 236 (.recs 10 z.1.2.1)),(4,.arr 110 32 (.f .f32 z.1.2.2))],5⟩
  let p0:Sk (top r) (ze (jae (jcY b) big (((0:Int),val (y96 c s),zO))) (jgC)):=.loop (l0) (fun kk=>(((0:Int),val (y96 c s),zO),big)) fun z0 =>
   .br
   (.ob (.ob (.call (.obT (.ob (.ob (.next)))))))
   (.exit (.obT (.call (.call (.obT (.obT (.obT (.obT (.obT (.ret (fun r=>(Ob (r.1=z0.1.2.2) ∧
 (Ob (val (y67 z0.1.2.1)=r.2.1) ∧
 (Ob (val (jlP z0.1.2.1)=r.2.2.1) ∧
 (Ob ((0:Int)=r.2.2.2) ∧
 True))))) ⟨⟨rfl⟩,⟨⟨rfl⟩,⟨⟨rfl⟩,⟨⟨rfl⟩,trivial⟩⟩⟩⟩))))))))))
  exact⟨by kernel_rfl,(fun _ id _=>match id with
   |0=>l0.li
   |_=>none),Sk.vd ho (.call (.ob (.call (.call (.brB
   (.call (.brB
   (.obT (.obT (.obT (.obT (.obT (.ret (fun r=>(Ob (r.1=zO) ∧
 (Ob (za r.2.1=(0:Nat)) ∧
 (Ob ((0:Int)=r.2.2.1) ∧
 (Ob ((val (y74 c s)).2=r.2.2.2) ∧
 True))))) ⟨⟨rfl⟩,⟨⟨rfl⟩,⟨⟨rfl⟩,⟨⟨rfl⟩,trivial⟩⟩⟩⟩))))))
   (.call (.obT (p0)))))
   (.brB
   (.obT (.obT (.obT (.obT (.obT (.ret (fun r=>(Ob (r.1=zO) ∧
 (Ob (za r.2.1=(0:Nat)) ∧
 (Ob ((0:Int)=r.2.2.1) ∧
 (Ob (val (jdB [val (y45 c),val (y72 (je (32:Nat) (jf (0:Nat) b)))])=r.2.2.2) ∧
 True))))) ⟨⟨rfl⟩,⟨⟨rfl⟩,⟨⟨rfl⟩,⟨⟨rfl⟩,trivial⟩⟩⟩⟩))))))
   (.call (.obT (p0))))))))) (by kernel_rfl)⟩
 ·cases h)
attribute [irreducible] jdd
end Go.Sh
end
