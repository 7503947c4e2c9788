/- Part 4 of the proof of TopEqualLatency: the executor, the mirrors of the functions, the plain facts. -/
import Derived.Test.YtigliehhpdpaoaaGreatPC
import Derived.RangeFuncNested
import Derived.RangeFuncBound
import Derived.RangeFuncCalls
import Derived.RangeFuncLeaves
import Derived.Shelf.Abstract
import Derived.Shelf.RegionOpen
import Derived.WalkKit
import Derived.OwnWalkIn
import Derived.TacticsInMore
import Derived.LoopNIn
import Derived.LoopIn
import Derived.Test.YtigliehhpdpaoaaGreatProg
set_option maxRecDepth 100000
set_option linter.unusedSectionVars false
set_option linter.unusedSimpArgs false
set_option linter.unusedVariables false
set_option linter.defProp false
open Array renaming getD->qJ,getElem?_eq_some_iff->zH,replicate_succ->jh,replicate_zero->ji
open ByteArray renaming data->qe,mk->qA,size->xU
open Eq renaming mp->jK
open Go renaming CallsIn->fF,Oper->qx,Value->zt,World->zs,callsIn_of_wp->gC,callsIn_wide->fG,execOp->qS,results_none->jT,undef->zX,wpIn_block->fA,wpIn_cond_false->jD,wpIn_cond_true->jR,wpIn_region_list->gL,wpIn_seq->yx,wpIn_skip->fm,wpListIn_nil->jS,wpListIn_plain->xx,wp_mono->x7
open Go.Act renaming put->jA
open Go.Deferred renaming ofValue->gJ
open Go.Fence renaming wide->xG,wide_round->jq
open Go.FloatKind renaming nearest->qE
open Go.IntKind renaming i64->xd
open Go.IntWalk renaming i64_in->fj
open Go.Oper renaming semAt_none->jC,semAt_some->jB
open Go.Result renaming andThen_ok->zn
open Go.RowKit renaming Below->x8,intOf->f8
open Go.RowKit.Below renaming refl->xz
open Go.Sem renaming run_bind->zr,run_pure->zu
open Go.Value renaming agg->kD,int->xS,pointer->xf,slice->qd
open Go.Value.pointer renaming inj->kB
open Go.World renaming block_lt_of_cell?->qP,cell?->fk,cell?_of_block->qX,cell?_setCell_same'->yF,frozen?->ke,grownBy_alloc->fq,size_alloc->fO
open Go.World.grownBy renaming refl->gq
open Ieee renaming Format->hZ
open Ieee.Format renaming order->qo
open Int renaming toNat->zf
open List renaming all_eq_true->zx,append_toArray->jv,cons_append->qq,drop->yT,getD->za,getElem?_eq_getElem->zG,getElem?_map->zL,headD->qg,length->zb,length_cons->zC,length_nil->qa,map->xt,map_cons->zJ,map_nil->xb,map_toArray->x5,mem_append->qK,mem_cons->qu,mem_cons_of_mem->zw,mem_cons_self->zy,mem_map->qm,mem_singleton->zZ,nil_append->qT,not_mem_nil->gM,push_toArray->jU,replicate->zi,set->qv,size_toArray->xr,take->yS,take_length->x6
open Nat renaming le_of_ble_eq_true->zh,le_refl->zq,le_trans->qN,lt_succ_self->zp,reduceAdd->gD,reduceSub->gE
open Ne renaming symm->yQ
open Option renaming bind->ze,bind_eq_some_iff->zK,getD->z5,isSome->gF
open Option.some renaming inj->ye,injEq->zk
open Sum renaming elim->qz
open UInt8 renaming toNat->qC
section
namespace Go.Sh
open Go Go.Proofs Go.RowKit Go.Sx
open Go.IntKind (wrap)
def jmP:List SV:=[.a [.d,.x (.st zS [])]]
def jkE (u1:List (List NC)) (x0:Int):Option (Int ⊕ (Unit ⊕ Unit)) :=
 if x0<(↑u1.length:Int)then if 0<=x0∧x0<(↑u1.length:Int)then
  if zf x0<zb u1 then if(↑(xU (nS u1 x0.toNat (0:Nat))):Int)>20 then some (.inr ((.inl ())))
   else
   if(↑(zb (nL u1 x0.toNat (2:Nat))):Int)>8 then some (.inr ((.inl ())))
   else if(↑(zb (nL u1 x0.toNat (3:Nat))):Int)>8 then some (.inr ((.inl ())))
    else
    if(↑(zb (nL u1 x0.toNat (4:Nat))):Int)>8 then some (.inr ((.inl ())))
    else if(↑(zb (nR u1 x0.toNat (6:Nat))):Int)>8 then some (.inr ((.inl ())))
     else
     some (.inl (wrap .i64 (x0+1)))
  else none
  else none
 else some (.inr ((.inr ())))
def jxa (u5:Unit):Option Bool :=some false
def jxb (u10:Unit):Option Bool :=some true
def jeu:(Unit ⊕ Unit)->Option Bool :=(qz (jxa) (jxb))
def jeg (u4:zY) (u1:List (List NC)):Option Bool :=
 if(↑(xU u4):Int)>20 then some false
 else if(↑u1.length:Int)>8 then
  if(↑u1.length:Int)<=24 then some false
  else if(↑u1.length:Int)>26 then some false
   else
   ze (jae (jkE u1) big (0:Int)) (jeu)
  else
  if(↑u1.length:Int)>26 then some false
  else ze (jae (jkE u1) big (0:Int)) (jeu)
def jmQ:List Lf->Option GT|[.d (.s u4),.x (.st [.s,.i .i64,.ints .i64,.ints .i64,.ints .i64,.i .i64,.recs 5,.i .i64] u1)]=>some (.leaf (ok (jeg u4 u1)) [.c (.d (.b ((val (jeg u4 u1)))))])|_=>none
abbrev sp_17:jaa->jaa:=jap 17 true (jah jmP jmQ)
abbrev jkF (u4:zY) (u1:List (List NC)) (r:Bool):Lp (Int × Nat) Int (Unit ⊕ Unit) Bool Bool :=⟨fun z=>z.1,fun z=>z.2,fun z x n=>(x,n),fun z=>jkE u1,fun z=>jeu,fun z=>top r,fun z=>0,[.c fun _=>0,.c fun vv=>vv.1,.c fun _=>u4,.c fun _=>u1]⟩
def jCW (u4:zY) (u1:List (List NC)) (r:Bool):Sk (top r) (jeg u4 u1) :=.br
 (.obT (.rc))
 (.br
 (.br
 (.obT (.rc))
 (.br
 (.obT (.rc))
 (.loop (jkF u4 u1 r) (fun kk=>((0:Int),big)) fun z0 =>
 .br
 (.ob (.ob (.br
 (.exit (.obT (.rc)))
 (.br
 (.exit (.obT (.rc)))
 (.br
 (.exit (.obT (.rc)))
 (.br
 (.exit (.obT (.rc)))
 (.br
 (.exit (.obT (.rc)))
 (.next))))))))
 (.exit (.obT (.rc))))))
 (.br
 (.obT (.rc))
 (.loop (jkF u4 u1 r) (fun kk=>((0:Int),big)) fun z1 =>
 .br
 (.ob (.ob (.br
 (.exit (.obT (.rc)))
 (.br
 (.exit (.obT (.rc)))
 (.br
 (.exit (.obT (.rc)))
 (.br
 (.exit (.obT (.rc)))
 (.br
 (.exit (.obT (.rc)))
 (.next))))))))
 (.exit (.obT (.rc))))))
def jA8 (u4:zY) (u1:List (List NC)) (r:Bool) (h:ze (jeg u4 u1) some=some r):jaR Tryz.f17 (sp0) (fun gs id _=>match id with
 |0=>some ⟨Int × Nat,fun z=>⟨[(1,.w (.c (.p 1 0 1 0))),(3,.w (.c (.d (.i .i64 z.1))))],[(1,.box 24 [.d (.s u4),.o 0]),(0,.xext (XC.st zS u1))],2⟩,fun z=>(jkF u4 u1 r).inv z,fun z=>z.2⟩
 |_=>none) (jaK jmP [.d (.s u4),.x (.st zS u1)]) [.c (.d (.b r))] :=
 Sk.vc (jCW u4 u1 r) (by kernel_rfl) h
def jA9:jaf Tryz.prog 17 true (jah jmP jmQ):=by
 refine jan (sp:=sp0) (fn:=Tryz.f17) (body:=bodyOf Tryz.f17) mixed jaj Tryz.func17 (by kernel_rfl) (by kernel_rfl) fun ls t h ho b hb=>?_;unfold jmQ at h;split at h
 ·rename_i u4 u1;cases h;obtain rfl:=jav hb;exact⟨zh (by kernel_rfl),_,_,jA8 u4 u1 _ (jai ho)⟩
 ·cases h
def sp_17_ok {sp:jaa} (h:jab Tryz.prog sp):jab Tryz.prog (sp_17 sp):=jag jA9 h
def jrL:List (Option Cont):=[none]
def jiC (s:zY) (x0:Int):Option (Int ⊕ (Unit ⊕ Unit)) :=
 if x0<(↑(xU s):Int)then if 0<=x0∧x0<(↑(xU s):Int)then
  if(↑(qC (qJ (qe s) x0.toNat (0:UInt8))):Int)>=97 then if(↑(qC (qJ (qe s) x0.toNat (0:UInt8))):Int)<=122 then some (.inl (wrap .i64 (x0+1)))
   else
   if(↑(qC (qJ (qe s) x0.toNat (0:UInt8))):Int)>=65 then if(!decide ((↑(qC (qJ (qe s) x0.toNat (0:UInt8))):Int)<=90))=true then
    if(x0==0)=true then some (.inr ((.inl ())))
    else if((↑(qC (qJ (qe s) x0.toNat (0:UInt8))):Int)!=45)=true then
     if(↑(qC (qJ (qe s) x0.toNat (0:UInt8))):Int)<48 then some (.inr ((.inl ())))
     else if(↑(qC (qJ (qe s) x0.toNat (0:UInt8))):Int)>57 then some (.inr ((.inl ())))
      else
      some (.inl (wrap .i64 (x0+1)))
     else
     some (.inl (wrap .i64 (x0+1)))
    else
    some (.inl (wrap .i64 (x0+1)))
   else if(x0==0)=true then some (.inr ((.inl ())))
    else
    if((↑(qC (qJ (qe s) x0.toNat (0:UInt8))):Int)!=45)=true then if(↑(qC (qJ (qe s) x0.toNat (0:UInt8))):Int)<48 then some (.inr ((.inl ())))
     else
     if(↑(qC (qJ (qe s) x0.toNat (0:UInt8))):Int)>57 then some (.inr ((.inl ())))
     else some (.inl (wrap .i64 (x0+1)))
    else some (.inl (wrap .i64 (x0+1)))
  else if(↑(qC (qJ (qe s) x0.toNat (0:UInt8))):Int)>=65 then
   if(!decide ((↑(qC (qJ (qe s) x0.toNat (0:UInt8))):Int)<=90))=true then if(x0==0)=true then some (.inr ((.inl ())))
    else
    if((↑(qC (qJ (qe s) x0.toNat (0:UInt8))):Int)!=45)=true then if(↑(qC (qJ (qe s) x0.toNat (0:UInt8))):Int)<48 then some (.inr ((.inl ())))
     else
     if(↑(qC (qJ (qe s) x0.toNat (0:UInt8))):Int)>57 then some (.inr ((.inl ())))
     else some (.inl (wrap .i64 (x0+1)))
    else some (.inl (wrap .i64 (x0+1)))
   else some (.inl (wrap .i64 (x0+1)))
   else
   if(x0==0)=true then some (.inr ((.inl ())))
   else if((↑(qC (qJ (qe s) x0.toNat (0:UInt8))):Int)!=45)=true then
    if(↑(qC (qJ (qe s) x0.toNat (0:UInt8))):Int)<48 then some (.inr ((.inl ())))
    else if(↑(qC (qJ (qe s) x0.toNat (0:UInt8))):Int)>57 then some (.inr ((.inl ())))
     else
     some (.inl (wrap .i64 (x0+1)))
    else
    some (.inl (wrap .i64 (x0+1)))
  else none
 else some (.inr ((.inr ())))
def jvc (u5:Unit):Option Bool :=some false
def jvd (u10:Unit):Option Bool :=some true
def jpn:(Unit ⊕ Unit)->Option Bool :=(qz (jvc) (jvd))
def jiD (s:zY):Option Bool :=
 if(↑(xU s):Int)<1 then some false
 else if(↑(xU s):Int)>12 then some false
  else
  ze (jae (jiC s) big (0:Int)) (jpn)
def jkG:List A->Option (Prop × List RV)|[.d (.s s)]=>some (ok (jiD s),[.d (.b ((val (jiD s))))])|_=>none
abbrev sp_81:jaa->jaa:=jap 81 true (jat jrL jkG)
abbrev jpo (s:zY) (r:Bool):Lp (Int × Nat) Int (Unit ⊕ Unit) Bool Bool :=⟨fun z=>z.1,fun z=>z.2,fun z x n=>(x,n),fun z=>jiC s,fun z=>jpn,fun z=>top r,fun z=>0,[.c fun _=>s,.c fun vv=>vv.1]⟩
def jBa (s:zY) (r:Bool):Sk (top r) (jiD s) :=.br
 (.obT (.rc))
 (.br
 (.obT (.rc))
 (.loop (jpo s r) (fun kk=>((0:Int),big)) fun z0 =>
 .br
 (.ob (.br
 (.br
 (.next)
 (.br
 (.brB
 (.brB
 (.exit (.obT (.rc)))
 (.brB
 (.br
 (.exit (.obT (.rc)))
 (.br
 (.exit (.obT (.rc)))
 (.next)))
 (.next)))
 (.next))
 (.brB
 (.exit (.obT (.rc)))
 (.brB
 (.br
 (.exit (.obT (.rc)))
 (.br
 (.exit (.obT (.rc)))
 (.next)))
 (.next)))))
 (.br
 (.brB
 (.brB
 (.exit (.obT (.rc)))
 (.brB
 (.br
 (.exit (.obT (.rc)))
 (.br
 (.exit (.obT (.rc)))
 (.next)))
 (.next)))
 (.next))
 (.brB
 (.exit (.obT (.rc)))
 (.brB
 (.br
 (.exit (.obT (.rc)))
 (.br
 (.exit (.obT (.rc)))
 (.next)))
 (.next))))))
 (.exit (.obT (.rc)))))
def jyZ (s:zY) (r:Bool) (h:ze (jiD s) some=some r):ja4 Tryz.f81 (sp0) (fun gs id _=>match id with
 |0=>some ⟨Int × Nat,fun z=>⟨[(0,.w (.c (.d (.s s)))),(3,.w (.c (.d (.i .i64 z.1))))],[],1⟩,fun z=>(jpo s r).inv z,fun z=>z.2⟩
 |_=>none) [.d (.s s)] [.d (.b r)] :=
 Sk.vc (jBa s r) (by kernel_rfl) h
def jy0:jaf Tryz.prog 81 true (jat jrL jkG):=by
 refine jaA (sp:=sp0) (fn:=Tryz.f81) (body:=bodyOf Tryz.f81) mixed jaj Tryz.func81 (by kernel_rfl) (by kernel_rfl) fun as_ ob rs h ho=>?_;unfold jkG at h;split at h
 ·rename_i s;cases h;exact⟨zh rfl,_,_,jyZ s _ (jai ho)⟩
 ·cases h
def sp_81_ok {sp:jaa} (h:jab Tryz.prog sp):jab Tryz.prog (sp_81 sp):=jag jy0 h
def y290:List (Option Cont):=[none]
def y71 (sB0 sB1 sB2 sA0 sA1 x0:Int):Option (Int ⊕ (Unit ⊕ Unit)) :=
 if x0<(↑(zb [sB0,sB1,sB2,sA0,sA1]):Int)then if 0<=x0∧x0<(↑(zb [sB0,sB1,sB2,sA0,sA1]):Int)then
  if zf x0<zb [sB0,sB1,sB2,sA0,sA1]then
   ze (y23 (za [sB0,sB1,sB2,sA0,sA1] x0.toNat (0:Int)) (-32768:Int) (32768:Int)) fun r0 =>
   if(!r0)=true then
   some (.inr ((.inl ())))
   else
   some (.inl (wrap .i64 (x0+1)))
  else none
  else none
 else some (.inr ((.inr ())))
def jjx (u5:Unit):Option Int :=some (2:Int)
def jjy (u10:Unit):Option Int :=some (0:Int)
def y279:(Unit ⊕ Unit)->Option Int :=(qz (jjx) (jjy))
def y81 (sB0 sB1 sB2 sA0 sA1:Int):Option Int :=ze (jae (y71 sB0 sB1 sB2 sA0 sA1) big (0:Int)) (y279)
def y193:List A->Option (Prop × List RV)|[.s [.i .i64 sB0,.i .i64 sB1,.i .i64 sB2,.i .i64 sA0,.i .i64 sA1]]=>some (ok (y81 sB0 sB1 sB2 sA0 sA1),[.d (.i .i64 ((val (y81 sB0 sB1 sB2 sA0 sA1))))])|_=>none
abbrev sp_162:jaa->jaa:=jap 162 true (jat y290 y193)
abbrev y280 (sB0 sB1 sB2 sA0 sA1 r:Int):Lp (Int × Nat) Int (Unit ⊕ Unit) Int Int :=⟨fun z=>z.1,fun z=>z.2,fun z x n=>(x,n),fun z=>y71 sB0 sB1 sB2 sA0 sA1,fun z=>y279,fun z=>top r,fun z=>0,[.c fun vv=>vv.1,.c fun _=>[sB0,sB1,sB2,sA0,sA1]]⟩
def jmR (sB0 sB1 sB2 sA0 sA1 r:Int):Sk (top r) (y81 sB0 sB1 sB2 sA0 sA1) :=
 .obC ((0:Int)<=0∧(0:Int)<3) (by decide) (.obC ((0:Int)<=1∧(1:Int)<3) (by decide) (.obC ((0:Int)<=2∧(2:Int)<3) (by decide) (.obC ((0:Int)<=0∧(0:Int)<2) (by decide) (.obC ((0:Int)<=1∧(1:Int)<2) (by decide) (.loop (y280 sB0 sB1 sB2 sA0 sA1 r) (fun kk=>((0:Int),big)) fun z0 =>
 .br
 (.ob (.ob (.call (.brB
 (.exit (.obT (.rc)))
 (.next)))))
 (.exit (.obT (.rc))))))))
def jlD (sB0 sB1 sB2 sA0 sA1 r:Int) (h:ze (y81 sB0 sB1 sB2 sA0 sA1) some=some r):ja4 Tryz.f162 ((sp_45 sp0)) (fun gs id _=>match id with
 |0=>some ⟨Int × Nat,fun z=>⟨[(3,.w (.c (.o 1))),(4,.w (.c (.d (.i .i64 z.1))))],[(1,.row 3 (.ints .i64 ([sB0,sB1,sB2,sA0,sA1])))],2⟩,fun z=>(y280 sB0 sB1 sB2 sA0 sA1 r).inv z,fun z=>z.2⟩
 |_=>none) [.s [.i .i64 sB0,.i .i64 sB1,.i .i64 sB2,.i .i64 sA0,.i .i64 sA1]] [.d (.i .i64 r)] :=
 Sk.vc (jmR sB0 sB1 sB2 sA0 sA1 r) (by kernel_rfl) h
def jlE:jaf Tryz.prog 162 true (jat y290 y193):=by
 refine jaA (sp:=(sp_45 sp0)) (fn:=Tryz.f162) (body:=bodyOf Tryz.f162) mixed (sp_45_ok jaj) Tryz.func162 (by kernel_rfl) (by kernel_rfl) fun as_ ob rs h ho=>?_;unfold y193 at h;split at h
 ·rename_i sB0 sB1 sB2 sA0 sA1;cases h;exact⟨zh rfl,_,_,jlD sB0 sB1 sB2 sA0 sA1 _ (jai ho)⟩
 ·cases h
def sp_162_ok {sp:jaa} (h:jab Tryz.prog sp):jab Tryz.prog (sp_162 sp):=jag jlE h
def y291:List (Option Cont):=[some (.recs 5 [])]
def y72 (c:List (List Int)) (x0:Int):Option (Int ⊕ ((Int × Int) ⊕ Unit)) :=
 if x0<(↑c.length:Int)then if 0<=x0∧x0<(↑c.length:Int)then
  if zf x0<zb c then
   ze (y81 (za (za c x0.toNat []) 0 (0:Int)) (za (za c x0.toNat []) 1 (0:Int)) (za (za c x0.toNat []) 2 (0:Int)) (za (za c x0.toNat []) 3 (0:Int)) (za (za c x0.toNat []) 4 (0:Int))) fun r0 =>
   if(r0 != 0)=true then
   some (.inr ((.inl (x0,r0))))
   else
   some (.inl (wrap .i64 (x0+1)))
  else none
  else none
 else some (.inr ((.inr ())))
def jjz (u5:Int × Int):Option (Int × Int) :=some (u5.1,u5.2)
def jjA (u10:Unit):Option (Int × Int) :=some (((0:Int),0))
def y281:((Int × Int) ⊕ Unit)->Option (Int × Int) :=(qz (jjz) (jjA))
def y38 (c:List (List Int)):Option (Int × Int) :=
 if(↑c.length:Int)>6 then some (((0:Int),8))
 else ze (jae (y72 c) big (0:Int)) (y281)
def y194:List A->Option (Prop × List RV)|[.r (.recs 5 c)]=>some (ok (y38 c),[.d (.i .i64 ((val (y38 c)).1)),.d (.i .i64 ((val (y38 c)).2))])|_=>none
abbrev sp_131:jaa->jaa:=jap 131 true (jat y291 y194)
abbrev y282 (c:List (List Int)) (r:Int × Int):Lp (Int × Nat) Int (((Int × Int) ⊕ Unit)) (Int × Int) (Int × Int) :=⟨fun z=>z.1,fun z=>z.2,fun z x n=>(x,n),fun z=>y72 c,fun z=>y281,fun z=>top r,fun z=>0,[.c fun vv=>vv.1,.c fun _=>c]⟩
def jmS (c:List (List Int)) (r:Int × Int):Sk (top r) (y38 c) :=.br
 (.obT (.obT (.rc)))
 (.loop (y282 c r) (fun kk=>((0:Int),big)) fun z0 =>
 .br
 (.ob (.ob (.call (.brB
 (.exit (.obT (.obT (.rc))))
 (.next)))))
 (.exit (.obT (.obT (.rc)))))
def jlF (c:List (List Int)) (r:Int × Int) (h:ze (y38 c) some=some r):ja4 Tryz.f131 ((sp_162 sp0)) (fun gs id _=>match id with
 |0=>some ⟨Int × Nat,fun z=>⟨[(0,.w (.c (.o 0))),(4,.w (.c (.d (.i .i64 z.1))))],[(0,.ext (.recs 5 c))],1⟩,fun z=>(y282 c r).inv z,fun z=>z.2⟩
 |_=>none) [.r (.recs 5 c)] [.d (.i .i64 r.1),.d (.i .i64 r.2)] :=
 Sk.vc (jmS c r) (by kernel_rfl) h
def jlG:jaf Tryz.prog 131 true (jat y291 y194):=by
 refine jaA (sp:=(sp_162 sp0)) (fn:=Tryz.f131) (body:=bodyOf Tryz.f131) mixed (sp_162_ok jaj) Tryz.func131 (by kernel_rfl) (by kernel_rfl) fun as_ ob rs h ho=>?_;unfold y194 at h;split at h
 ·rename_i c;cases h;exact⟨zh rfl,_,_,jlF c _ (jai ho)⟩
 ·cases h
def sp_131_ok {sp:jaa} (h:jab Tryz.prog sp):jab Tryz.prog (sp_131 sp):=jag jlG h
end Go.Sh
end

section
namespace Go.Sh
open Go Go.Proofs Go.RowKit Go.Sx
open Go.IntKind (wrap)
def jfT:List SV:=[.a [.d,.x (.st zS [])],.c (.d)]
def js2 (u1:List (List NC)) (i x0:Int):Option (Int ⊕ (Unit ⊕ Unit)) :=
 if x0<i then if 0<=x0∧x0<(↑u1.length:Int)then
  if zf x0<zb u1 then if(nS u1 x0.toNat (0:Nat)==nS u1 i.toNat (0:Nat))=true then some (.inr ((.inl ())))
   else
   some (.inl (wrap .i64 (x0+1)))
  else none
  else none
 else some (.inr ((.inr ())))
def jqa (u1:List (List NC)) (i:Int) (u5:Unit):Option Int :=some (5:Int)
def y16 (u1:List (List NC)) (i x1:Int):Option (Int ⊕ (Unit ⊕ Unit)) :=
 if x1<(↑(zb (nL u1 i.toNat (2:Nat))):Int)then if 0<=x1∧x1<(↑(zb (nL u1 i.toNat (2:Nat))):Int)then
  if zf x1<zb (nL u1 i.toNat (2:Nat))then
   ze (y23 (za (nL u1 i.toNat (2:Nat)) x1.toNat (0:Int)) (0:Int) (wrap .i64 ((↑u1.length:Int)-1))) fun r3 =>
   if(!r3)=true then
   some (.inr ((.inl ())))
   else
   some (.inl (wrap .i64 (x1+1)))
  else none
  else none
 else some (.inr ((.inr ())))
def jqb (u1:List (List NC)) (i:Int) (u19:Unit):Option Int :=some (6:Int)
def jqc (u1:List (List NC)) (i x2:Int):Option (Int ⊕ (Unit ⊕ Unit)) :=
 if x2<(↑(zb (nL u1 i.toNat (2:Nat))):Int)then if 0<=z5 none (0:Int)∧z5 none 0<=z5 (some x2) (↑(zb (nL u1 i.toNat (2:Nat))):Int)∧z5 (some x2) (↑(zb (nL u1 i.toNat (2:Nat))):Int)<=(↑(zb (nL u1 i.toNat (2:Nat))):Int)then
  if 0<=x2∧x2<(↑(zb (nL u1 i.toNat (2:Nat))):Int)then if zf x2<zb (nL u1 i.toNat (2:Nat))then
   ze (jft (yS (zf (z5 (some x2) (↑(zb (nL u1 i.toNat (2:Nat))):Int))-0) (yT (0:Nat) (nL u1 i.toNat (2:Nat)))) (za (nL u1 i.toNat (2:Nat)) x2.toNat (0:Int))) fun r5 =>
   if(r5)=true then some (.inr ((.inl ())))
   else some (.inl (wrap .i64 (x2+1)))
   else none
  else none
  else none
 else some (.inr ((.inr ())))
def jqd (u1:List (List NC)) (i:Int) (u44:Unit):Option Int :=some (26:Int)
def js3 (u1:List (List NC)) (i x3:Int):Option (Int ⊕ (Unit ⊕ Unit)) :=
 if x3<(↑(zb (nL u1 i.toNat (3:Nat))):Int)then if 0<=x3∧x3<(↑(zb (nL u1 i.toNat (3:Nat))):Int)then
  if zf x3<zb (nL u1 i.toNat (3:Nat))then
   ze (y23 (za (nL u1 i.toNat (3:Nat)) x3.toNat (0:Int)) (0:Int) (64:Int)) fun r6 =>
   if(!r6)=true then
   some (.inr ((.inl ())))
   else
   some (.inl (wrap .i64 (x3+1)))
  else none
  else none
 else some (.inr ((.inr ())))
def jqe (u1:List (List NC)) (i:Int) (u88:Unit):Option Int :=some (2:Int)
def jqf (u1:List (List NC)) (i x4:Int):Option (Int ⊕ (Unit ⊕ Unit)) :=
 if x4<(↑(zb (nL u1 i.toNat (4:Nat))):Int)then if 0<=x4∧x4<(↑(zb (nL u1 i.toNat (4:Nat))):Int)then
  if zf x4<zb (nL u1 i.toNat (4:Nat))then
   ze (y23 (za (nL u1 i.toNat (4:Nat)) x4.toNat (0:Int)) (-4000:Int) (4000:Int)) fun r7 =>
   if(!r7)=true then
   some (.inr ((.inl ())))
   else
   some (.inl (wrap .i64 (x4+1)))
  else none
  else none
 else some (.inr ((.inr ())))
def jqg (u1:List (List NC)) (i:Int) (u89:Unit):Option Int :=some (2:Int)
def y237 (u1:List (List NC)) (i:Int) (u90:Unit):Option Int :=
 ze (y23 (nI u1 i.toNat (5:Nat)) (0:Int) (64:Int)) fun r8 =>
 if(!r8)=true then some (2:Int)
 else if(nI u1 i.toNat (1:Nat)!=2)=true then
  if(nI u1 i.toNat (5:Nat)!=0)=true then some (2:Int)
  else if(nI u1 i.toNat (1:Nat)!=3)=true then
   if(↑(zb (nR u1 i.toNat (6:Nat))):Int)>0 then some (10:Int)
   else some (0:Int)
   else
   ze (y38 (nR u1 i.toNat (6:Nat))) fun r9 =>
   some r9.2
  else
  if(nI u1 i.toNat (1:Nat)!=3)=true then if(↑(zb (nR u1 i.toNat (6:Nat))):Int)>0 then some (10:Int)
   else
   some (0:Int)
  else
   ze (y38 (nR u1 i.toNat (6:Nat))) fun r9 =>
   some r9.2
def jeQ (u1:List (List NC)) (i:Int):(Unit ⊕ Unit)->Option Int :=(qz (jqg u1 i) (y237 u1 i))
def y238 (u1:List (List NC)) (i:Int) (u91:Unit):Option Int :=ze (jae (jqf u1 i) big (0:Int)) (jeQ u1 i)
def jjB (u1:List (List NC)) (i:Int):(Unit ⊕ Unit)->Option Int :=(qz (jqe u1 i) (y238 u1 i))
def y239 (u1:List (List NC)) (i:Int) (u54:Unit):Option Int :=ze (jae (js3 u1 i) big (0:Int)) (jjB u1 i)
def y214 (u1:List (List NC)) (i:Int):(Unit ⊕ Unit)->Option Int :=(qz (jqd u1 i) (y239 u1 i))
def y240 (u1:List (List NC)) (i:Int) (u33:Unit):Option Int :=
 ze (y23 (nI u1 i.toNat (7:Nat)) (-1:Int) (wrap .i64 ((↑u1.length:Int)-1))) fun r4 =>
 if(!r4)=true then some (6:Int)
 else ze (jae (jqc u1 i) big (0:Int)) (y214 u1 i)
def y34 (u1:List (List NC)) (i:Int):(Unit ⊕ Unit)->Option Int :=(qz (jqb u1 i) (y240 u1 i))
def y164 (u1:List (List NC)) (i:Int) (u10:Unit):Option Int :=
 ze (y23 (nI u1 i.toNat (1:Nat)) (0:Int) (4:Int)) fun r1 =>
 if(!r1)=true then some (15:Int)
 else if(nI u1 i.toNat (1:Nat)==0)=true then
  if(nI u1 i.toNat (1:Nat)==1)=true then if(nI u1 i.toNat (1:Nat)==1)=true then
   ze (y23 (↑(zb (nL u1 i.toNat (2:Nat))):Int) (0:Int) (6:Int)) fun r2 =>
   if(!r2)=true then some (10:Int)
   else if((↑(zb (nL u1 i.toNat (3:Nat))):Int)!=(↑(zb (nL u1 i.toNat (2:Nat))):Int))=true then some (10:Int)
    else
    if((↑(zb (nL u1 i.toNat (4:Nat))):Int)!=(↑(zb (nL u1 i.toNat (2:Nat))):Int))=true then some (10:Int)
    else ze (jae (y16 u1 i) big (0:Int)) (y34 u1 i)
   else
   ze (y23 (↑(zb (nL u1 i.toNat (2:Nat))):Int) (0:Int) (6:Int)) fun r2 =>
   if(!r2)=true then some (10:Int)
   else if((↑(zb (nL u1 i.toNat (3:Nat))):Int)!=(↑(zb (nL u1 i.toNat (2:Nat))):Int))=true then some (10:Int)
    else
    if((↑(zb (nL u1 i.toNat (4:Nat))):Int)!=0)=true then some (10:Int)
    else ze (jae (y16 u1 i) big (0:Int)) (y34 u1 i)
  else if(nI u1 i.toNat (1:Nat)==1)=true then
   ze (y23 (↑(zb (nL u1 i.toNat (2:Nat))):Int) (0:Int) (0:Int)) fun r10 =>
   if(!r10)=true then some (10:Int)
   else if((↑(zb (nL u1 i.toNat (3:Nat))):Int)!=(↑(zb (nL u1 i.toNat (2:Nat))):Int))=true then some (10:Int)
    else
    if((↑(zb (nL u1 i.toNat (4:Nat))):Int)!=(↑(zb (nL u1 i.toNat (2:Nat))):Int))=true then some (10:Int)
    else ze (jae (y16 u1 i) big (0:Int)) (y34 u1 i)
   else
   ze (y23 (↑(zb (nL u1 i.toNat (2:Nat))):Int) (0:Int) (0:Int)) fun r10 =>
   if(!r10)=true then some (10:Int)
   else if((↑(zb (nL u1 i.toNat (3:Nat))):Int)!=(↑(zb (nL u1 i.toNat (2:Nat))):Int))=true then some (10:Int)
    else
    if((↑(zb (nL u1 i.toNat (4:Nat))):Int)!=0)=true then some (10:Int)
    else ze (jae (y16 u1 i) big (0:Int)) (y34 u1 i)
  else
  if(nI u1 i.toNat (1:Nat)==1)=true then if(nI u1 i.toNat (1:Nat)==1)=true then
   ze (y23 (↑(zb (nL u1 i.toNat (2:Nat))):Int) (1:Int) (6:Int)) fun r11 =>
   if(!r11)=true then some (10:Int)
   else if((↑(zb (nL u1 i.toNat (3:Nat))):Int)!=(↑(zb (nL u1 i.toNat (2:Nat))):Int))=true then some (10:Int)
    else
    if((↑(zb (nL u1 i.toNat (4:Nat))):Int)!=(↑(zb (nL u1 i.toNat (2:Nat))):Int))=true then some (10:Int)
    else ze (jae (y16 u1 i) big (0:Int)) (y34 u1 i)
   else
   ze (y23 (↑(zb (nL u1 i.toNat (2:Nat))):Int) (1:Int) (6:Int)) fun r11 =>
   if(!r11)=true then some (10:Int)
   else if((↑(zb (nL u1 i.toNat (3:Nat))):Int)!=(↑(zb (nL u1 i.toNat (2:Nat))):Int))=true then some (10:Int)
    else
    if((↑(zb (nL u1 i.toNat (4:Nat))):Int)!=0)=true then some (10:Int)
    else ze (jae (y16 u1 i) big (0:Int)) (y34 u1 i)
  else if(nI u1 i.toNat (1:Nat)==1)=true then
   ze (y23 (↑(zb (nL u1 i.toNat (2:Nat))):Int) (1:Int) (1:Int)) fun r12 =>
   if(!r12)=true then some (10:Int)
   else if((↑(zb (nL u1 i.toNat (3:Nat))):Int)!=(↑(zb (nL u1 i.toNat (2:Nat))):Int))=true then some (10:Int)
    else
    if((↑(zb (nL u1 i.toNat (4:Nat))):Int)!=(↑(zb (nL u1 i.toNat (2:Nat))):Int))=true then some (10:Int)
    else ze (jae (y16 u1 i) big (0:Int)) (y34 u1 i)
   else
   ze (y23 (↑(zb (nL u1 i.toNat (2:Nat))):Int) (1:Int) (1:Int)) fun r12 =>
   if(!r12)=true then some (10:Int)
   else if((↑(zb (nL u1 i.toNat (3:Nat))):Int)!=(↑(zb (nL u1 i.toNat (2:Nat))):Int))=true then some (10:Int)
    else
    if((↑(zb (nL u1 i.toNat (4:Nat))):Int)!=0)=true then some (10:Int)
    else ze (jae (y16 u1 i) big (0:Int)) (y34 u1 i)
def jeR (u1:List (List NC)) (i:Int):(Unit ⊕ Unit)->Option Int :=(qz (jqa u1 i) (y164 u1 i))
def jqh (u4:zY) (u1:List (List NC)) (i:Int):Option Int :=
 if 0<=i∧i<(↑u1.length:Int)then if zf i<zb u1 then
  ze (jiD (nS u1 i.toNat (0:Nat))) fun r0 =>
  if(!r0)=true then some (4:Int)
  else if(nS u1 i.toNat (0:Nat)==qA #[(115:UInt8),(116:UInt8),(97:UInt8),(110:UInt8),(100:UInt8)])=true then some (4:Int)
   else
   ze (jae (js2 u1 i) big (0:Int)) (jeR u1 i)
  else none
 else none
def jfU:List Lf->Option GT|[.d (.s u4),.x (.st [.s,.i .i64,.ints .i64,.ints .i64,.ints .i64,.i .i64,.recs 5,.i .i64] u1),.d (.i .i64 i)]=>some (.leaf (ok (jqh u4 u1 i)) [.c (.d (.i .i64 ((val (jqh u4 u1 i)))))])|_=>none
abbrev sp_82:jaa->jaa:=jap 82 true (jah jfT jfU)
abbrev jjC (u4:zY) (u1:List (List NC)) (i r:Int):Lp (Int × Nat) Int (Unit ⊕ Unit) Int Int :=⟨fun z=>z.1,fun z=>z.2,fun z x n=>(x,n),fun z=>js2 u1 i,fun z=>jeR u1 i,fun z=>top r,fun z=>0,[.c fun _=>i,.c fun _=>0,.c fun _=>0,.c fun vv=>vv.1,.c fun _=>u4,.c fun _=>nS u1 i.toNat (0:Nat),.c fun _=>nI u1 i.toNat (1:Nat),.c fun _=>nI u1 i.toNat (5:Nat),.c fun _=>nI u1 i.toNat (7:Nat),.c fun _=>u1,.c fun _=>nL u1 i.toNat (2:Nat),.c fun _=>nL u1 i.toNat (3:Nat),.c fun _=>nL u1 i.toNat (4:Nat),.c fun _=>nR u1 i.toNat (6:Nat)]⟩
abbrev jjD (u4:zY) (u1:List (List NC)) (i r:Int):Lp (Unit × Int × Nat) Int (Unit ⊕ Unit) Int Int :=⟨fun z=>z.2.1,fun z=>z.2.2,fun z x n=>((),x,n),fun z=>y16 u1 i,fun z=>y34 u1 i,fun z=>top r,fun z=>0,[.c fun _=>0,.c fun _=>0,.c fun vv=>vv.2.1,.c fun _=>u4,.c fun _=>nS u1 i.toNat (0:Nat),.c fun _=>nI u1 i.toNat (1:Nat),.c fun _=>nI u1 i.toNat (5:Nat),.c fun _=>nI u1 i.toNat (7:Nat),.c fun _=>u1,.c fun _=>nL u1 i.toNat (2:Nat),.c fun _=>nL u1 i.toNat (3:Nat),.c fun _=>nL u1 i.toNat (4:Nat),.c fun _=>nR u1 i.toNat (6:Nat)]⟩
abbrev jjE (u4:zY) (u1:List (List NC)) (i r:Int):Lp (Unit × Unit × Int × Nat) Int (Unit ⊕ Unit) Int Int :=⟨fun z=>z.2.2.1,fun z=>z.2.2.2,fun z x n=>((),(),x,n),fun z=>jqc u1 i,fun z=>y214 u1 i,fun z=>top r,fun z=>0,[.c fun _=>0,.c fun vv=>vv.2.2.1,.c fun _=>nS u1 i.toNat (0:Nat),.c fun _=>nI u1 i.toNat (1:Nat),.c fun _=>nI u1 i.toNat (5:Nat),.c fun _=>nI u1 i.toNat (7:Nat),.c fun _=>nL u1 i.toNat (2:Nat),.c fun _=>nL u1 i.toNat (3:Nat),.c fun _=>nL u1 i.toNat (4:Nat),.c fun _=>nR u1 i.toNat (6:Nat)]⟩
abbrev jjF (u4:zY) (u1:List (List NC)) (i r:Int):Lp (Unit × Unit × Unit × Int × Nat) Int (Unit ⊕ Unit) Int Int :=⟨fun z=>z.2.2.2.1,fun z=>z.2.2.2.2,fun z x n=>((),(),(),x,n),fun z=>js3 u1 i,fun z=>jjB u1 i,fun z=>top r,fun z=>0,[.c fun _=>0,.c fun vv=>vv.2.2.2.1,.c fun _=>nS u1 i.toNat (0:Nat),.c fun _=>nI u1 i.toNat (1:Nat),.c fun _=>nI u1 i.toNat (5:Nat),.c fun _=>nI u1 i.toNat (7:Nat),.c fun _=>nL u1 i.toNat (2:Nat),.c fun _=>nL u1 i.toNat (3:Nat),.c fun _=>nL u1 i.toNat (4:Nat),.c fun _=>nR u1 i.toNat (6:Nat)]⟩
abbrev jjG (u4:zY) (u1:List (List NC)) (i r:Int):Lp (Unit × Unit × Unit × Unit × Int × Nat) Int (Unit ⊕ Unit) Int Int :=⟨fun z=>z.2.2.2.2.1,fun z=>z.2.2.2.2.2,fun z x n=>((),(),(),(),x,n),fun z=>jqf u1 i,fun z=>jeQ u1 i,fun z=>top r,fun z=>0,[.c fun _=>0,.c fun vv=>vv.2.2.2.2.1,.c fun _=>nS u1 i.toNat (0:Nat),.c fun _=>nI u1 i.toNat (1:Nat),.c fun _=>nI u1 i.toNat (5:Nat),.c fun _=>nI u1 i.toNat (7:Nat),.c fun _=>nL u1 i.toNat (2:Nat),.c fun _=>nL u1 i.toNat (3:Nat),.c fun _=>nL u1 i.toNat (4:Nat),.c fun _=>nR u1 i.toNat (6:Nat)]⟩
def js4 (u4:zY) (u1:List (List NC)) (i r:Int):Sk (top r) (ze (jae (jqf u1 i) big (0:Int)) (jeQ u1 i)) :=
 .loop (jjG u4 u1 i r) (fun kk=>((),(),(),(),0,big)) fun z0 =>
 .br
 (.ob (.ob (.call (.brB
 (.exit (.obT (.rc)))
 (.next)))))
 (.exit (.call (.brB
 (.obT (.rc))
 (.brB
 (.brB
 (.obT (.rc))
 (.brB
 (.br
 (.obT (.rc))
 (.obT (.rc)))
 (.call (.obT (.rc)))))
 (.brB
 (.br
 (.obT (.rc))
 (.obT (.rc)))
 (.call (.obT (.rc))))))))
def js5 (u4:zY) (u1:List (List NC)) (i r:Int):Sk (top r) (ze (jae (jqc u1 i) big (0:Int)) (y214 u1 i)) :=
 .loop (jjE u4 u1 i r) (fun kk=>((),(),0,big)) fun z0 =>
 .br
 (.ob (.ob (.ob (.call (.brB
 (.exit (.obT (.rc)))
 (.next))))))
 (.exit (.loop (jjF u4 u1 i r) (fun kk=>((),(),(),0,big)) fun z0 =>
 .br
 (.ob (.ob (.call (.brB
 (.exit (.obT (.rc)))
 (.next)))))
 (.exit (js4 u4 u1 i r))))
def y86 (u4:zY) (u1:List (List NC)) (i r:Int):Sk (top r) (ze (jae (y16 u1 i) big (0:Int)) (y34 u1 i)) :=
 .loop (jjD u4 u1 i r) (fun kk=>((),0,big)) fun z0 =>
 .br
 (.ob (.ob (.call (.brB
 (.exit (.obT (.rc)))
 (.next)))))
 (.exit (.call (.brB
 (.obT (.rc))
 (js5 u4 u1 i r))))
def js6 (u4:zY) (u1:List (List NC)) (i r:Int):Sk (top r) (y164 u1 i ()) :=.call (.brB
 (.obT (.rc))
 (.brB
 (.brB
 (.brB
 (.call (.brB
 (.obT (.rc))
 (.brB
 (.obT (.rc))
 (.brB
 (.obT (.rc))
 (y86 u4 u1 i r)))))
 (.call (.brB
 (.obT (.rc))
 (.brB
 (.obT (.rc))
 (.brB
 (.obT (.rc))
 (y86 u4 u1 i r))))))
 (.brB
 (.call (.brB
 (.obT (.rc))
 (.brB
 (.obT (.rc))
 (.brB
 (.obT (.rc))
 (y86 u4 u1 i r)))))
 (.call (.brB
 (.obT (.rc))
 (.brB
 (.obT (.rc))
 (.brB
 (.obT (.rc))
 (y86 u4 u1 i r)))))))
 (.brB
 (.brB
 (.call (.brB
 (.obT (.rc))
 (.brB
 (.obT (.rc))
 (.brB
 (.obT (.rc))
 (y86 u4 u1 i r)))))
 (.call (.brB
 (.obT (.rc))
 (.brB
 (.obT (.rc))
 (.brB
 (.obT (.rc))
 (y86 u4 u1 i r))))))
 (.brB
 (.call (.brB
 (.obT (.rc))
 (.brB
 (.obT (.rc))
 (.brB
 (.obT (.rc))
 (y86 u4 u1 i r)))))
 (.call (.brB
 (.obT (.rc))
 (.brB
 (.obT (.rc))
 (.brB
 (.obT (.rc))
 (y86 u4 u1 i r)))))))))
def jve (u4:zY) (u1:List (List NC)) (i r:Int):Sk (top r) (jqh u4 u1 i) :=.ob (.ob (.call (.brB
 (.obT (.rc))
 (.brB
 (.obT (.rc))
 (.loop (jjC u4 u1 i r) (fun kk=>((0:Int),big)) fun z0 =>
 .br
 (.ob (.ob (.brB
 (.exit (.obT (.rc)))
 (.next))))
 (.exit (js6 u4 u1 i r)))))))
def js7 (u4:zY) (u1:List (List NC)) (i r:Int) (h:ze (jqh u4 u1 i) some=some r):jaR Tryz.f82 ((sp_81 (sp_48 (sp_45 (sp_131 sp0))))) (fun gs id _=>match id with
 |0=>some ⟨Int × Nat,fun z=>⟨[(1,.w (.c (.d (.i .i64 i)))),(2,.w (.c (.p 1 0 1 0))),(5,.w (.c (.p 2 0 1 0))),(6,.w (.c (.d (.i .i64 z.1))))],[(1,.box 24 [.d (.s u4),.o 0]),(2,.box 118 [.d (.s (nS u1 i.toNat (0:Nat))),.d (.i .i64 (nI u1 i.toNat (1:Nat))),.o 3,.o 4,.o 5,.d (.i .i64 (nI u1 i.toNat (5:Nat))),.o 6,.d (.i .i64 (nI u1 i.toNat (7:Nat)))]),(0,.xext (XC.st zS u1)),(3,.ext (.ints .i64 (nL u1 i.toNat (2:Nat)))),(4,.ext (.ints .i64 (nL u1 i.toNat (3:Nat)))),(5,.ext (.ints .i64 (nL u1 i.toNat (4:Nat)))),(6,.ext (.recs 5 (nR u1 i.toNat (6:Nat))))],7⟩,fun z=>(jjC u4 u1 i r).inv z,fun z=>z.2⟩
 |2=>some ⟨Unit × Int × Nat,fun z=>⟨[(2,.w (.c (.p 1 0 1 0))),(5,.w (.c (.p 2 0 1 0))),(10,.w (.c (.d (.i .i64 z.2.1))))],[(1,.box 24 [.d (.s u4),.o 0]),(2,.box 118 [.d (.s (nS u1 i.toNat (0:Nat))),.d (.i .i64 (nI u1 i.toNat (1:Nat))),.o 3,.o 4,.o 5,.d (.i .i64 (nI u1 i.toNat (5:Nat))),.o 6,.d (.i .i64 (nI u1 i.toNat (7:Nat)))]),(0,.xext (XC.st zS u1)),(3,.ext (.ints .i64 (nL u1 i.toNat (2:Nat)))),(4,.ext (.ints .i64 (nL u1 i.toNat (3:Nat)))),(5,.ext (.ints .i64 (nL u1 i.toNat (4:Nat)))),(6,.ext (.recs 5 (nR u1 i.toNat (6:Nat))))],7⟩,fun z=>(jjD u4 u1 i r).inv z,fun z=>z.2.2⟩
 |4=>some ⟨Unit × Unit × Int × Nat,fun z=>⟨[(5,.w (.c (.p 1 0 1 0))),(11,.w (.c (.d (.i .i64 z.2.2.1))))],[(1,.box 118 [.d (.s (nS u1 i.toNat (0:Nat))),.d (.i .i64 (nI u1 i.toNat (1:Nat))),.o 2,.o 3,.o 4,.d (.i .i64 (nI u1 i.toNat (5:Nat))),.o 5,.d (.i .i64 (nI u1 i.toNat (7:Nat)))]),(2,.ext (.ints .i64 (nL u1 i.toNat (2:Nat)))),(3,.ext (.ints .i64 (nL u1 i.toNat (3:Nat)))),(4,.ext (.ints .i64 (nL u1 i.toNat (4:Nat)))),(5,.ext (.recs 5 (nR u1 i.toNat (6:Nat))))],6⟩,fun z=>(jjE u4 u1 i r).inv z,fun z=>z.2.2.2⟩
 |6=>some ⟨Unit × Unit × Unit × Int × Nat,fun z=>⟨[(5,.w (.c (.p 1 0 1 0))),(12,.w (.c (.d (.i .i64 z.2.2.2.1))))],[(1,.box 118 [.d (.s (nS u1 i.toNat (0:Nat))),.d (.i .i64 (nI u1 i.toNat (1:Nat))),.o 2,.o 3,.o 4,.d (.i .i64 (nI u1 i.toNat (5:Nat))),.o 5,.d (.i .i64 (nI u1 i.toNat (7:Nat)))]),(2,.ext (.ints .i64 (nL u1 i.toNat (2:Nat)))),(3,.ext (.ints .i64 (nL u1 i.toNat (3:Nat)))),(4,.ext (.ints .i64 (nL u1 i.toNat (4:Nat)))),(5,.ext (.recs 5 (nR u1 i.toNat (6:Nat))))],6⟩,fun z=>(jjF u4 u1 i r).inv z,fun z=>z.2.2.2.2⟩
 |8=>some ⟨Unit × Unit × Unit × Unit × Int × Nat,fun z=>⟨[(5,.w (.c (.p 1 0 1 0))),(13,.w (.c (.d (.i .i64 z.2.2.2.2.1))))],[(1,.box 118 [.d (.s (nS u1 i.toNat (0:Nat))),.d (.i .i64 (nI u1 i.toNat (1:Nat))),.o 2,.o 3,.o 4,.d (.i .i64 (nI u1 i.toNat (5:Nat))),.o 5,.d (.i .i64 (nI u1 i.toNat (7:Nat)))]),(2,.ext (.ints .i64 (nL u1 i.toNat (2:Nat)))),(3,.ext (.ints .i64 (nL u1 i.toNat (3:Nat)))),(4,.ext (.ints .i64 (nL u1 i.toNat (4:Nat)))),(5,.ext (.recs 5 (nR u1 i.toNat (6:Nat))))],6⟩,fun z=>(jjG u4 u1 i r).inv z,fun z=>z.2.2.2.2.2⟩
 |_=>none) (jaK jfT [.d (.s u4),.x (.st zS u1),.d (.i .i64 i)]) [.c (.d (.i .i64 r))] :=
 Sk.vc (jve u4 u1 i r) (by kernel_rfl) h
def js8:jaf Tryz.prog 82 true (jah jfT jfU):=by
 refine jan (sp:=(sp_81 (sp_48 (sp_45 (sp_131 sp0))))) (fn:=Tryz.f82) (body:=bodyOf Tryz.f82) mixed (sp_81_ok (sp_48_ok (sp_45_ok (sp_131_ok jaj)))) Tryz.func82 (by kernel_rfl) (by kernel_rfl) fun ls t h ho b hb=>?_;unfold jfU at h;split at h
 ·rename_i u4 u1 i;cases h;obtain rfl:=jav hb;exact⟨zh (by kernel_rfl),_,_,js7 u4 u1 i _ (jai ho)⟩
 ·cases h
def sp_82_ok {sp:jaa} (h:jab Tryz.prog sp):jab Tryz.prog (sp_82 sp):=jag js8 h
end Go.Sh
end

section
namespace Go.Sh
open Go Go.Proofs Go.RowKit Go.Sx
open Go.IntKind (wrap)
def y241:List SV:=[.a [.d,.x (.st zS [])]]
def y97 (u4:zY) (u1:List (List NC)) (x0:Int):Option (Int ⊕ ((Int × Int) ⊕ Unit)) :=
 if x0<(↑u1.length:Int)then
  ze (jqh u4 u1 x0) fun r1 =>
  if(r1 != 0)=true then
  some (.inr ((.inl (x0,r1))))
  else
  some (.inl (wrap .i64 (x0+1)))
 else some (.inr ((.inr ())))
def jlH (u5:Int × Int):Option (Int × Int) :=some (u5.1,u5.2)
def jlI (u10:Unit):Option (Int × Int) :=some (((0:Int),0))
def jgm:((Int × Int) ⊕ Unit)->Option (Int × Int) :=(qz (jlH) (jlI))
def y87 (u4:zY) (u1:List (List NC)):Option (Int × Int) :=
 ze (jiD u4) fun r0 =>
 if(!r0)=true then some (((0:Int),4))
 else if(↑u1.length:Int)>24 then some (((0:Int),8))
  else
  ze (jae (y97 u4 u1) big (0:Int)) (jgm)
def y242:List Lf->Option GT|[.d (.s u4),.x (.st [.s,.i .i64,.ints .i64,.ints .i64,.ints .i64,.i .i64,.recs 5,.i .i64] u1)]=>some (.leaf (ok (y87 u4 u1)) [.c (.d (.i .i64 ((val (y87 u4 u1)).1))),.c (.d (.i .i64 ((val (y87 u4 u1)).2)))])|_=>none
abbrev sp_21:jaa->jaa:=jap 21 true (jah y241 y242)
abbrev jgn (u4:zY) (u1:List (List NC)) (r:Int × Int):Lp (Int × Nat) Int (((Int × Int) ⊕ Unit)) (Int × Int) (Int × Int) :=⟨fun z=>z.1,fun z=>z.2,fun z x n=>(x,n),fun z=>y97 u4 u1,fun z=>jgm,fun z=>top r,fun z=>0,[.c fun _=>0,.c fun vv=>vv.1,.c fun _=>u4,.c fun _=>u1]⟩
def jqi (u4:zY) (u1:List (List NC)) (r:Int × Int):Sk (top r) (y87 u4 u1) :=.call (.brB
 (.obT (.obT (.rc)))
 (.br
 (.obT (.obT (.rc)))
 (.loop (jgn u4 u1 r) (fun kk=>((0:Int),big)) fun z0 =>
 .br
 (.call (.brB
 (.exit (.obT (.obT (.rc))))
 (.next)))
 (.exit (.obT (.obT (.rc)))))))
def joz (u4:zY) (u1:List (List NC)) (r:Int × Int) (h:ze (y87 u4 u1) some=some r):jaR Tryz.f21 ((sp_81 (sp_82 sp0))) (fun gs id _=>match id with
 |0=>some ⟨Int × Nat,fun z=>⟨[(1,.w (.c (.p 1 0 1 0))),(4,.w (.c (.d (.i .i64 z.1))))],[(1,.box 24 [.d (.s u4),.o 0]),(0,.xext (XC.st zS u1))],2⟩,fun z=>(jgn u4 u1 r).inv z,fun z=>z.2⟩
 |_=>none) (jaK y241 [.d (.s u4),.x (.st zS u1)]) [.c (.d (.i .i64 r.1)),.c (.d (.i .i64 r.2))] :=
 Sk.vc (jqi u4 u1 r) (by kernel_rfl) h
def joA:jaf Tryz.prog 21 true (jah y241 y242):=by
 refine jan (sp:=(sp_81 (sp_82 sp0))) (fn:=Tryz.f21) (body:=bodyOf Tryz.f21) mixed (sp_81_ok (sp_82_ok jaj)) Tryz.func21 (by kernel_rfl) (by kernel_rfl) fun ls t h ho b hb=>?_;unfold y242 at h;split at h
 ·rename_i u4 u1;cases h;obtain rfl:=jav hb;exact⟨zh (by kernel_rfl),_,_,joz u4 u1 _ (jai ho)⟩
 ·cases h
def sp_21_ok {sp:jaa} (h:jab Tryz.prog sp):jab Tryz.prog (sp_21 sp):=jag joA h
def jiE:List SV:=[.a [.d,.d,.r (.ints .i64 []),.r (.ints .i64 []),.r (.ints .i64 []),.d,.r (.recs 5 []),.d],.c (.d)]
def jds (u28:zY) (u24:Int) (u27 u26 u21:List Int) (u25:Int) (u29:List (List Int)) (u30 u60:Int):Option Bool :=
 ze (jft u27 u60) fun r0 =>
 if(r0)=true then some true
 else some (u30==u60)
def jiF:List Lf->Option GT|[.d (.s u28),.d (.i .i64 u24),.r (.ints .i64 u27),.r (.ints .i64 u26),.r (.ints .i64 u21),.d (.i .i64 u25),.r (.recs 5 u29),.d (.i .i64 u30),.d (.i .i64 u60)]=>some (.leaf (ok (jds u28 u24 u27 u26 u21 u25 u29 u30 u60)) [.c (.d (.b ((val (jds u28 u24 u27 u26 u21 u25 u29 u30 u60)))))])|_=>none
abbrev sp_87:jaa->jaa:=jap 87 true (jah jiE jiF)
def jy1 (u28:zY) (u24:Int) (u27 u26 u21:List Int) (u25:Int) (u29:List (List Int)) (u30 u60:Int) (r:Bool):Sk (top r) (jds u28 u24 u27 u26 u21 u25 u29 u30 u60) :=.call (.brB
 (.obT (.rc))
 (.obT (.rc)))
def jxc (u28:zY) (u24:Int) (u27 u26 u21:List Int) (u25:Int) (u29:List (List Int)) (u30 u60:Int) (r:Bool) (h:ze (jds u28 u24 u27 u26 u21 u25 u29 u30 u60) some=some r):jaR Tryz.f87 ((sp_48 sp0)) (fun _ _ _=>none) (jaK jiE [.d (.s u28),.d (.i .i64 u24),.r (.ints .i64 u27),.r (.ints .i64 u26),.r (.ints .i64 u21),.d (.i .i64 u25),.r (.recs 5 u29),.d (.i .i64 u30),.d (.i .i64 u60)]) [.c (.d (.b r))] :=Sk.vc (jy1 u28 u24 u27 u26 u21 u25 u29 u30 u60 r) (by kernel_rfl) h
def jxd:jaf Tryz.prog 87 true (jah jiE jiF):=by
 refine jan (sp:=(sp_48 sp0)) (fn:=Tryz.f87) (body:=bodyOf Tryz.f87) mixed (sp_48_ok jaj) Tryz.func87 (by kernel_rfl) (by kernel_rfl) fun ls t h ho b hb=>?_;unfold jiF at h;split at h
 ·rename_i u28 u24 u27 u26 u21 u25 u29 u30 u60;cases h;obtain rfl:=jav hb;exact⟨zh (by kernel_rfl),_,_,jxc u28 u24 u27 u26 u21 u25 u29 u30 u60 _ (jai ho)⟩
 ·cases h
def sp_87_ok {sp:jaa} (h:jab Tryz.prog sp):jab Tryz.prog (sp_87 sp):=jag jxd h
def jiG:List SV:=[.a [.d,.x (.st zS [])],.c (.r (.ints .i64 [])),.c (.d)]
def js9 (u1:List (List NC)) (u57:List Int) (u43 x0:Int):Option (Int ⊕ (Unit ⊕ Unit)) :=
 if x0<(↑u1.length:Int)then if 0<=u43∧u43<(↑u1.length:Int)then
  if zf u43<zb u1 then
   ze (jds (nS u1 u43.toNat (0:Nat)) (nI u1 u43.toNat (1:Nat)) (nL u1 u43.toNat (2:Nat)) (nL u1 u43.toNat (3:Nat)) (nL u1 u43.toNat (4:Nat)) (nI u1 u43.toNat (5:Nat)) (nR u1 u43.toNat (6:Nat)) (nI u1 u43.toNat (7:Nat)) x0) fun r0 =>
   if(r0)=true then
   ze (jft u57 x0) fun r1 =>
   if(!r1)=true then some (.inr ((.inl ())))
   else some (.inl (wrap .i64 (x0+1)))
   else
   some (.inl (wrap .i64 (x0+1)))
  else none
  else none
 else some (.inr ((.inr ())))
def jta (u5:Unit):Option Bool :=some false
def jtb (u10:Unit):Option Bool :=some true
def jmT:(Unit ⊕ Unit)->Option Bool :=(qz (jta) (jtb))
def jdt (u4:zY) (u1:List (List NC)) (u57:List Int) (u43:Int):Option Bool :=ze (jae (js9 u1 u57 u43) big (0:Int)) (jmT)
def jiH:List Lf->Option GT|[.d (.s u4),.x (.st [.s,.i .i64,.ints .i64,.ints .i64,.ints .i64,.i .i64,.recs 5,.i .i64] u1),.r (.ints .i64 u57),.d (.i .i64 u43)]=>some (.leaf (ok (jdt u4 u1 u57 u43)) [.c (.d (.b ((val (jdt u4 u1 u57 u43)))))])|_=>none
abbrev sp_83:jaa->jaa:=jap 83 true (jah jiG jiH)
abbrev jmU (u4:zY) (u1:List (List NC)) (u57:List Int) (u43:Int) (r:Bool):Lp (Int × Nat) Int (Unit ⊕ Unit) Bool Bool :=⟨fun z=>z.1,fun z=>z.2,fun z x n=>(x,n),fun z=>js9 u1 u57 u43,fun z=>jmT,fun z=>top r,fun z=>0,[.c fun _=>u43,.c fun _=>0,.c fun vv=>vv.1,.c fun _=>u57,.c fun _=>u4,.c fun _=>u1]⟩
def jy2 (u4:zY) (u1:List (List NC)) (u57:List Int) (u43:Int) (r:Bool):Sk (top r) (jdt u4 u1 u57 u43) :=
 .loop (jmU u4 u1 u57 u43 r) (fun kk=>((0:Int),big)) fun z0 =>
 .br
 (.ob (.ob (.call (.brB
 (.call (.brB
 (.exit (.obT (.rc)))
 (.next)))
 (.next)))))
 (.exit (.obT (.rc)))
def jxe (u4:zY) (u1:List (List NC)) (u57:List Int) (u43:Int) (r:Bool) (h:ze (jdt u4 u1 u57 u43) some=some r):jaR Tryz.f83 ((sp_87 (sp_48 sp0))) (fun gs id _=>match id with
 |0=>some ⟨Int × Nat,fun z=>⟨[(1,.w (.c (.o 1))),(2,.w (.c (.d (.i .i64 u43)))),(3,.w (.c (.p 2 0 1 0))),(7,.w (.c (.d (.i .i64 z.1))))],[(1,.ext (.ints .i64 u57)),(2,.box 24 [.d (.s u4),.o 0]),(0,.xext (XC.st zS u1))],3⟩,fun z=>(jmU u4 u1 u57 u43 r).inv z,fun z=>z.2⟩
 |_=>none) (jaK jiG [.d (.s u4),.x (.st zS u1),.r (.ints .i64 u57),.d (.i .i64 u43)]) [.c (.d (.b r))] :=
 Sk.vc (jy2 u4 u1 u57 u43 r) (by kernel_rfl) h
def jxf:jaf Tryz.prog 83 true (jah jiG jiH):=by
 refine jan (sp:=(sp_87 (sp_48 sp0))) (fn:=Tryz.f83) (body:=bodyOf Tryz.f83) mixed (sp_87_ok (sp_48_ok jaj)) Tryz.func83 (by kernel_rfl) (by kernel_rfl) fun ls t h ho b hb=>?_;unfold jiH at h;split at h
 ·rename_i u4 u1 u57 u43;cases h;obtain rfl:=jav hb;exact⟨zh (by kernel_rfl),_,_,jxe u4 u1 u57 u43 _ (jai ho)⟩
 ·cases h
def sp_83_ok {sp:jaa} (h:jab Tryz.prog sp):jab Tryz.prog (sp_83 sp):=jag jxf h
def jiI:List SV:=[.a [.d,.x (.st zS [])]]
def jqj (u4:zY) (u1:List (List NC)) (x0:List Int) (x1:(Int × Int)):Option ((Int × Int) ⊕ Int) :=
 if x1.2>=0 then
  ze (jft x0 x1.2) fun r0 =>
  if(!r0)=true then
  ze (jdt u4 u1 x0 x1.2) fun r1 =>
  if(r1)=true then some (.inl ((x1.2,wrap .i64 (x1.2-1))))
  else some (.inl ((x1.1,wrap .i64 (x1.2-1))))
  else
  some (.inl ((x1.1,wrap .i64 (x1.2-1))))
 else some (.inr x1.1)
def jg9 (x0:List Int) (u19:Int):Option ((List Int) ⊕ (Unit ⊕ (List Int))) :=
 if u19<0 then some (.inr ((.inl ())))
 else if(zb x0+zb [u19])*8<=140737488355328∧zb x0+zb [u19]<=9223372036854775807 then some (.inl (x0++[u19]))
  else none
def jtc (u4:zY) (u1:List (List NC)) (x0:(List Int)):Option ((List Int) ⊕ (Unit ⊕ (List Int))) :=
 if(↑x0.length:Int)<(↑u1.length:Int)then ze (jae (jqj u4 u1 x0) big (((-1:Int),wrap .i64 ((↑u1.length:Int)-1)))) (jg9 x0)
 else some (.inr (.inr x0))
def jtd (u5:Unit):Option (List Int × Bool) :=some ([],false)
def jte (u10:List Int):Option (List Int × Bool) :=some (u10,true)
def jha:(Unit ⊕ (List Int))->Option (List Int × Bool) :=(qz (jtd) (jte))
def jiJ (u4:zY) (u1:List (List NC)):Option (List Int × Bool) :=ze (jae (jtc u4 u1) big []) (jha)
def jiK:List Lf->Option GT|[.d (.s u4),.x (.st [.s,.i .i64,.ints .i64,.ints .i64,.ints .i64,.i .i64,.recs 5,.i .i64] u1)]=>some (.leaf (ok (jiJ u4 u1)) [.c (.row 3 (.ints .i64 ((val (jiJ u4 u1)).1))),.c (.d (.b ((val (jiJ u4 u1)).2)))])|_=>none
abbrev sp_23:jaa->jaa:=jap 23 true (jah jiI jiK)
abbrev jhb (u4:zY) (u1:List (List NC)) (r:List Int × Bool):Lp (List Int × Nat) (List Int) ((Unit ⊕ (List Int))) (List Int × Bool) (List Int × Bool) :=⟨fun z=>z.1,fun z=>z.2,fun z x n=>(x,n),fun z=>jtc u4 u1,fun z=>jha,fun z=>top r,fun z=>0,[.c fun _=>0,.c fun _=>u4,.c fun vv=>vv.1,.c fun _=>u1]⟩
abbrev jmV (u4:zY) (u1:List (List NC)) (r:List Int × Bool) (m1:Nat):Lp (List Int × Nat × (Int × Int) × Nat) (Int × Int) Int (((List Int) ⊕ (Unit ⊕ (List Int)))) (List Int × Bool) :=⟨fun z=>z.2.2.1,fun z=>z.2.2.2,fun z x n=>(z.1,z.2.1,x,n),fun z=>jqj u4 u1 z.1,fun z=>jg9 z.1,fun z=>(jhb u4 u1 r).cx (z.1,m1),fun z=>z.2.1,[.c fun _=>0,.c fun vv=>vv.2.2.1.1,.c fun vv=>vv.2.2.1.2,.c fun _=>u4,.c fun vv=>vv.1,.c fun _=>u1]⟩
def jxg (u4:zY) (u1:List (List NC)) (r:List Int × Bool):Sk (top r) (ze (jae (jtc u4 u1) big []) (jha)) :=
 .loopQ (jhb u4 u1 r) [.c fun _=>0,.c fun _=>u4,.p fun vv=>zb vv.1=(0:Nat),.c fun _=>u1] (fun kk=>([],big)) (fun z0 =>
 .br
 (.loop (jmV u4 u1 r z0.2) (fun kk=>(z0.1,kk,((-1:Int),wrap .i64 ((↑u1.length:Int)-1)),big)) fun z1 =>
 .br
 (.call (.brB
 (.call (.brB
 (.next)
 (.next)))
 (.next)))
 (.exit (.br
 (.exit (.obT (.obT (.ret (fun r=>(Ob (zb r.1=(0:Nat)) ∧
 (Ob (false=r.2) ∧
 True))) ⟨⟨rfl⟩,⟨⟨rfl⟩,trivial⟩⟩))))
 (.ob (.next)))))
 (.exit (.obT (.obT (.rc))))) (fun _=>⟨rfl,trivial⟩)
def jy3 (u4:zY) (u1:List (List NC)) (r:List Int × Bool):Sk (top r) (jiJ u4 u1) :=jxg u4 u1 r
def jxh (u4:zY) (u1:List (List NC)) (r:List Int × Bool) (h:ze (jiJ u4 u1) some=some r):jaR Tryz.f23 ((sp_48 (sp_83 sp0))) (fun gs id _=>match id with
 |0=>some ⟨List Int × Nat,fun z=>⟨[(1,.w (.c (.p 1 0 1 0))),(4,.w (.c (.o 2)))],[(1,.box 24 [.d (.s u4),.o 0]),(2,.row 3 (.ints .i64 z.1)),(0,.xext (XC.st zS u1))],3⟩,fun z=>(jhb u4 u1 r).inv z,fun z=>z.2⟩
 |2=>some ⟨List Int × Nat × (Int × Int) × Nat,fun z=>⟨[(1,.w (.c (.p 1 0 1 0))),(4,.w (.c (.o 2))),(5,.w (.c (.d (.i .i64 z.2.2.1.1)))),(6,.w (.c (.d (.i .i64 z.2.2.1.2))))],[(1,.box 24 [.d (.s u4),.o 0]),(2,.row 3 (.ints .i64 z.1)),(0,.xext (XC.st zS u1))],3⟩,fun z=>(jmV u4 u1 r (gs.getD 0 0)).inv z,fun z=>z.2.2.2⟩
 |_=>none) (jaK jiI [.d (.s u4),.x (.st zS u1)]) [.c (.row 3 (.ints .i64 r.1)),.c (.d (.b r.2))] :=
 Sk.vc (jy3 u4 u1 r) (by kernel_rfl) h
def jxi:jaf Tryz.prog 23 true (jah jiI jiK):=by
 refine jan (sp:=(sp_48 (sp_83 sp0))) (fn:=Tryz.f23) (body:=bodyOf Tryz.f23) mixed (sp_48_ok (sp_83_ok jaj)) Tryz.func23 (by kernel_rfl) (by kernel_rfl) fun ls t h ho b hb=>?_;unfold jiK at h;split at h
 ·rename_i u4 u1;cases h;obtain rfl:=jav hb;exact⟨zh (by kernel_rfl),_,_,jxh u4 u1 _ (jai ho)⟩
 ·cases h
def sp_23_ok {sp:jaa} (h:jab Tryz.prog sp):jab Tryz.prog (sp_23 sp):=jag jxi h
def jeS:List SV:=[.a [.d,.x (.st zS [])]]
def jmW (u4:zY) (u1:List (List NC)):Option Int :=
 ze (y87 u4 u1) fun r0 =>
 if(r0.2 != 0)=true then some r0.2
 else
  ze (jiJ u4 u1) fun r1 =>
  if(!r1.2)=true then
  some (19:Int)
  else
  some (0:Int)
def jeT:List Lf->Option GT|[.d (.s u4),.x (.st [.s,.i .i64,.ints .i64,.ints .i64,.ints .i64,.i .i64,.recs 5,.i .i64] u1)]=>some (.leaf (ok (jmW u4 u1)) [.c (.d (.i .i64 ((val (jmW u4 u1)))))])|_=>none
abbrev sp_22:jaa->jaa:=jap 22 true (jah jeS jeT)
def jtf (u4:zY) (u1:List (List NC)) (r:Int):Sk (top r) (jmW u4 u1) :=.call (.brB
 (.obT (.rc))
 (.call (.brB
 (.obT (.rc))
 (.obT (.rc)))))
def jrM (u4:zY) (u1:List (List NC)) (r:Int) (h:ze (jmW u4 u1) some=some r):jaR Tryz.f22 ((sp_21 (sp_23 sp0))) (fun _ _ _=>none) (jaK jeS [.d (.s u4),.x (.st zS u1)]) [.c (.d (.i .i64 r))] :=Sk.vc (jtf u4 u1 r) (by kernel_rfl) h
def jrN:jaf Tryz.prog 22 true (jah jeS jeT):=by
 refine jan (sp:=(sp_21 (sp_23 sp0))) (fn:=Tryz.f22) (body:=bodyOf Tryz.f22) mixed (sp_21_ok (sp_23_ok jaj)) Tryz.func22 (by kernel_rfl) (by kernel_rfl) fun ls t h ho b hb=>?_;unfold jeT at h;split at h
 ·rename_i u4 u1;cases h;obtain rfl:=jav hb;exact⟨zh (by kernel_rfl),_,_,jrM u4 u1 _ (jai ho)⟩
 ·cases h
def sp_22_ok {sp:jaa} (h:jab Tryz.prog sp):jab Tryz.prog (sp_22 sp):=jag jrN h
end Go.Sh
end

section
namespace Go.Sh
open Go Go.Proofs Go.RowKit Go.Sx
open Go.IntKind (wrap)
def juF:List (Option Cont):=[some (.ints .i64 [])]
def jtg (l:List Int) (x0:Int):Option (Int ⊕ (Int ⊕ Unit)) :=
 if x0<(↑l.length:Int)then if 0<=x0∧x0<(↑l.length:Int)then
  if zf x0<zb l then if(za l x0.toNat (0:Int)!=0)=true then some (.inr ((.inl (za l x0.toNat (0:Int)))))
   else
   some (.inl (wrap .i64 (x0+1)))
  else none
  else none
 else some (.inr ((.inr ())))
def jxj (u5:Int):Option Int :=some u5
def jxk (u10:Unit):Option Int :=some (0:Int)
def jrO:(Int ⊕ Unit)->Option Int :=(qz (jxj) (jxk))
def jeU (l:List Int):Option Int :=ze (jae (jtg l) big (0:Int)) (jrO)
def jmX:List A->Option (Prop × List RV)|[.r (.ints .i64 l)]=>some (ok (jeU l),[.d (.i .i64 ((val (jeU l))))])|_=>none
abbrev sp_76:jaa->jaa:=jap 76 true (jat juF jmX)
abbrev jrP (l:List Int) (r:Int):Lp (Int × Nat) Int (Int ⊕ Unit) Int Int :=⟨fun z=>z.1,fun z=>z.2,fun z x n=>(x,n),fun z=>jtg l,fun z=>jrO,fun z=>top r,fun z=>0,[.c fun _=>(↑l.length:Int),.c fun vv=>vv.1,.c fun _=>l]⟩
def jCX (l:List Int) (r:Int):Sk (top r) (jeU l) :=
 .loop (jrP l r) (fun kk=>((0:Int),big)) fun z0 =>
 .br
 (.ob (.ob (.brB
 (.exit (.obT (.rc)))
 (.next))))
 (.exit (.obT (.rc)))
def jBd (l:List Int) (r:Int) (h:ze (jeU l) some=some r):ja4 Tryz.f76 (sp0) (fun gs id _=>match id with
 |0=>some ⟨Int × Nat,fun z=>⟨[(5,.w (.c (.o 0))),(6,.w (.c (.d (.i .i64 ((↑l.length:Int)))))),(7,.w (.c (.d (.i .i64 z.1))))],[(0,.ext (.ints .i64 l))],1⟩,fun z=>(jrP l r).inv z,fun z=>z.2⟩
 |_=>none) [.r (.ints .i64 l)] [.d (.i .i64 r)] :=
 Sk.vc (jCX l r) (by kernel_rfl) h
def jBe:jaf Tryz.prog 76 true (jat juF jmX):=by
 refine jaA (sp:=sp0) (fn:=Tryz.f76) (body:=bodyOf Tryz.f76) mixed jaj Tryz.func76 (by kernel_rfl) (by kernel_rfl) fun as_ ob rs h ho=>?_;unfold jmX at h;split at h
 ·rename_i l;cases h;exact⟨zh rfl,_,_,jBd l _ (jai ho)⟩
 ·cases h
def sp_76_ok {sp:jaa} (h:jab Tryz.prog sp):jab Tryz.prog (sp_76 sp):=jag jBe h
def jrQ:List (Option Cont):=[none]
def jqk (s:zY) (x0:Int):Option (Int ⊕ (Unit ⊕ Unit)) :=
 if x0<(↑(xU s):Int)then if 0<=x0∧x0<(↑(xU s):Int)then
  if(↑(qC (qJ (qe s) x0.toNat (0:UInt8))):Int)>=97 then if(↑(qC (qJ (qe s) x0.toNat (0:UInt8))):Int)<=122 then some (.inl (wrap .i64 (x0+1)))
   else
   if(↑(qC (qJ (qe s) x0.toNat (0:UInt8))):Int)>=65 then if(!decide ((↑(qC (qJ (qe s) x0.toNat (0:UInt8))):Int)<=90))=true then
    if(x0==0)=true then some (.inr ((.inl ())))
    else if((↑(qC (qJ (qe s) x0.toNat (0:UInt8))):Int)!=45)=true then
     if(↑(qC (qJ (qe s) x0.toNat (0:UInt8))):Int)<48 then some (.inr ((.inl ())))
     else if(↑(qC (qJ (qe s) x0.toNat (0:UInt8))):Int)>57 then some (.inr ((.inl ())))
      else
      some (.inl (wrap .i64 (x0+1)))
     else
     some (.inl (wrap .i64 (x0+1)))
    else
    some (.inl (wrap .i64 (x0+1)))
   else if(x0==0)=true then some (.inr ((.inl ())))
    else
    if((↑(qC (qJ (qe s) x0.toNat (0:UInt8))):Int)!=45)=true then if(↑(qC (qJ (qe s) x0.toNat (0:UInt8))):Int)<48 then some (.inr ((.inl ())))
     else
     if(↑(qC (qJ (qe s) x0.toNat (0:UInt8))):Int)>57 then some (.inr ((.inl ())))
     else some (.inl (wrap .i64 (x0+1)))
    else some (.inl (wrap .i64 (x0+1)))
  else if(↑(qC (qJ (qe s) x0.toNat (0:UInt8))):Int)>=65 then
   if(!decide ((↑(qC (qJ (qe s) x0.toNat (0:UInt8))):Int)<=90))=true then if(x0==0)=true then some (.inr ((.inl ())))
    else
    if((↑(qC (qJ (qe s) x0.toNat (0:UInt8))):Int)!=45)=true then if(↑(qC (qJ (qe s) x0.toNat (0:UInt8))):Int)<48 then some (.inr ((.inl ())))
     else
     if(↑(qC (qJ (qe s) x0.toNat (0:UInt8))):Int)>57 then some (.inr ((.inl ())))
     else some (.inl (wrap .i64 (x0+1)))
    else some (.inl (wrap .i64 (x0+1)))
   else some (.inl (wrap .i64 (x0+1)))
   else
   if(x0==0)=true then some (.inr ((.inl ())))
   else if((↑(qC (qJ (qe s) x0.toNat (0:UInt8))):Int)!=45)=true then
    if(↑(qC (qJ (qe s) x0.toNat (0:UInt8))):Int)<48 then some (.inr ((.inl ())))
    else if(↑(qC (qJ (qe s) x0.toNat (0:UInt8))):Int)>57 then some (.inr ((.inl ())))
     else
     some (.inl (wrap .i64 (x0+1)))
    else
    some (.inl (wrap .i64 (x0+1)))
  else none
 else some (.inr ((.inr ())))
def jvf (s:zY) (u5:Unit):Option Bool :=some false
def jvg (s:zY) (u10:Unit):Option Bool :=
 if(s != qA #[])=true then some (decide ((↑(xU s):Int)<=12))
 else some false
def jiL (s:zY):(Unit ⊕ Unit)->Option Bool :=(qz (jvf s) (jvg s))
def jhc (s:zY):Option Bool :=ze (jae (jqk s) big (0:Int)) (jiL s)
def jkH:List A->Option (Prop × List RV)|[.d (.s s)]=>some (ok (jhc s),[.d (.b ((val (jhc s))))])|_=>none
abbrev sp_78:jaa->jaa:=jap 78 true (jat jrQ jkH)
abbrev jpp (s:zY) (r:Bool):Lp (Int × Nat) Int (Unit ⊕ Unit) Bool Bool :=⟨fun z=>z.1,fun z=>z.2,fun z x n=>(x,n),fun z=>jqk s,fun z=>jiL s,fun z=>top r,fun z=>0,[.c fun _=>s,.c fun _=>(↑(xU s):Int),.c fun vv=>vv.1]⟩
def jy4 (s:zY) (r:Bool):Sk (top r) (ze (jae (jqk s) big (0:Int)) (jiL s)) :=
 .loop (jpp s r) (fun kk=>((0:Int),big)) fun z0 =>
 .br
 (.ob (.br
 (.br
 (.next)
 (.br
 (.brB
 (.brB
 (.exit (.obT (.rc)))
 (.brB
 (.br
 (.exit (.obT (.rc)))
 (.br
 (.exit (.obT (.rc)))
 (.next)))
 (.next)))
 (.next))
 (.brB
 (.exit (.obT (.rc)))
 (.brB
 (.br
 (.exit (.obT (.rc)))
 (.br
 (.exit (.obT (.rc)))
 (.next)))
 (.next)))))
 (.br
 (.brB
 (.brB
 (.exit (.obT (.rc)))
 (.brB
 (.br
 (.exit (.obT (.rc)))
 (.br
 (.exit (.obT (.rc)))
 (.next)))
 (.next)))
 (.next))
 (.brB
 (.exit (.obT (.rc)))
 (.brB
 (.br
 (.exit (.obT (.rc)))
 (.br
 (.exit (.obT (.rc)))
 (.next)))
 (.next))))))
 (.exit (.brB
 (.obT (.rc))
 (.obT (.rc))))
def jBf (s:zY) (r:Bool):Sk (top r) (jhc s) :=jy4 s r
def jy5 (s:zY) (r:Bool) (h:ze (jhc s) some=some r):ja4 Tryz.f78 (sp0) (fun gs id _=>match id with
 |0=>some ⟨Int × Nat,fun z=>⟨[(0,.w (.c (.d (.s s)))),(7,.w (.c (.d (.i .i64 ((↑(xU s):Int)))))),(8,.w (.c (.d (.i .i64 z.1))))],[],1⟩,fun z=>(jpp s r).inv z,fun z=>z.2⟩
 |_=>none) [.d (.s s)] [.d (.b r)] :=
 Sk.vc (jBf s r) (by kernel_rfl) h
def jy6:jaf Tryz.prog 78 true (jat jrQ jkH):=by
 refine jaA (sp:=sp0) (fn:=Tryz.f78) (body:=bodyOf Tryz.f78) mixed jaj Tryz.func78 (by kernel_rfl) (by kernel_rfl) fun as_ ob rs h ho=>?_;unfold jkH at h;split at h
 ·rename_i s;cases h;exact⟨zh rfl,_,_,jy5 s _ (jai ho)⟩
 ·cases h
def sp_78_ok {sp:jaa} (h:jab Tryz.prog sp):jab Tryz.prog (sp_78 sp):=jag jy6 h
def jfV:List SV:=[.c (.d),.c (.p [.d,.x (.st zS [])])]
def jkI (n:Int) (u51:zY) (u61:List (List NC)):Option Bool :=
 ze (y54 n (0:Int) (wrap .i64 ((↑u61.length:Int)-1))) fun r0 =>
 some r0
def jfW:List Lf->Option GT|[.d (.i .i64 n),.d (.s u51),.x (.st [.s,.i .i64,.ints .i64,.ints .i64,.ints .i64,.i .i64,.recs 5,.i .i64] u61)]=>some (.leaf (ok (jkI n u51 u61)) [.c (.d (.b ((val (jkI n u51 u61)))))])|_=>none
abbrev sp_122:jaa->jaa:=jap 122 true (jah jfV jfW)
def jvh (n:Int) (u51:zY) (u61:List (List NC)) (r:Bool):Sk (top r) (jkI n u51 u61) :=.obT (.call (.obT (.rc)))
def jth (n:Int) (u51:zY) (u61:List (List NC)) (r:Bool) (h:ze (jkI n u51 u61) some=some r):jaR Tryz.f122 ((sp_84 sp0)) (fun _ _ _=>none) (jaK jfV [.d (.i .i64 n),.d (.s u51),.x (.st zS u61)]) [.c (.d (.b r))] :=Sk.vc (jvh n u51 u61 r) (by kernel_rfl) h
def jti:jaf Tryz.prog 122 true (jah jfV jfW):=by
 refine jan (sp:=(sp_84 sp0)) (fn:=Tryz.f122) (body:=bodyOf Tryz.f122) mixed (sp_84_ok jaj) Tryz.func122 (by kernel_rfl) (by kernel_rfl) fun ls t h ho b hb=>?_;unfold jfW at h;split at h
 ·rename_i n u51 u61;cases h;obtain rfl:=jav hb;exact⟨zh (by kernel_rfl),_,_,jth n u51 u61 _ (jai ho)⟩
 ·cases h
def sp_122_ok {sp:jaa} (h:jab Tryz.prog sp):jab Tryz.prog (sp_122 sp):=jag jti h
def jfX:List SV:=[.c (.d),.c (.p [.f 122 [.p [.d,.x (.st zS [])]]])]
def jql (n:Int) (u62:zY) (u63:List (List NC)):Option Bool :=
 ze (jkI n u62 u63) fun r0 =>
 some !r0
def jfY:List Lf->Option GT|[.d (.i .i64 n),.d (.s u62),.x (.st [.s,.i .i64,.ints .i64,.ints .i64,.ints .i64,.i .i64,.recs 5,.i .i64] u63)]=>some (.leaf (ok (jql n u62 u63)) [.c (.d (.b ((val (jql n u62 u63)))))])|_=>none
abbrev sp_124:jaa->jaa:=jap 124 true (jah jfX jfY)
def jvi (n:Int) (u62:zY) (u63:List (List NC)) (r:Bool):Sk (top r) (jql n u62 u63) :=.obT (.call (.obT (.rc)))
def jtj (n:Int) (u62:zY) (u63:List (List NC)) (r:Bool) (h:ze (jql n u62 u63) some=some r):jaR Tryz.f124 ((sp_122 sp0)) (fun _ _ _=>none) (jaK jfX [.d (.i .i64 n),.d (.s u62),.x (.st zS u63)]) [.c (.d (.b r))] :=Sk.vc (jvi n u62 u63 r) (by kernel_rfl) h
def jtk:jaf Tryz.prog 124 true (jah jfX jfY):=by
 refine jan (sp:=(sp_122 sp0)) (fn:=Tryz.f124) (body:=bodyOf Tryz.f124) mixed (sp_122_ok jaj) Tryz.func124 (by kernel_rfl) (by kernel_rfl) fun ls t h ho b hb=>?_;unfold jfY at h;split at h
 ·rename_i n u62 u63;cases h;obtain rfl:=jav hb;exact⟨zh (by kernel_rfl),_,_,jtj n u62 u63 _ (jai ho)⟩
 ·cases h
def sp_124_ok {sp:jaa} (h:jab Tryz.prog sp):jab Tryz.prog (sp_124 sp):=jag jtk h
def y123:List SV:=[.c (.r (.ints .i64 [])),.c (.f 124 [.p [.f 122 [.p [.d,.x (.st zS [])]]]])]
def y37 (s:List Int) (u45:zY) (u46:List (List NC)) (x0:Int):Option (Int ⊕ (Int ⊕ Unit)) :=
 if x0<(↑s.length:Int)then if 0<=x0∧x0<(↑s.length:Int)then
  if zf x0<zb s then
   ze (jql (za s x0.toNat (0:Int)) u45 u46) fun r0 =>
   if(r0)=true then
   some (.inr (.inl x0))
   else
   some (.inl (wrap .i64 (x0+1)))
  else none
  else none
 else some (.inr ((.inr ())))
def y276 (u5:Int):Option Int :=some u5
def y277 (u10:Unit):Option Int :=some (-1:Int)
def y161:(Int ⊕ Unit)->Option Int :=(qz (y276) (y277))
def y35 (s:List Int) (u45:zY) (u46:List (List NC)):Option Int :=ze (jae (y37 s u45 u46) big (0:Int)) (y161)
def y124:List Lf->Option GT|[.r (.ints .i64 s),.d (.s u45),.x (.st [.s,.i .i64,.ints .i64,.ints .i64,.ints .i64,.i .i64,.recs 5,.i .i64] u46)]=>some (.leaf (ok (y35 s u45 u46)) [.c (.d (.i .i64 ((val (y35 s u45 u46)))))])|_=>none
abbrev sp_156_124:jaa->jaa:=jap 156 true (jah y123 y124)
abbrev y162 (s:List Int) (u45:zY) (u46:List (List NC)) (r:Int):Lp (Int × Nat) Int (Int ⊕ Unit) Int Int :=⟨fun z=>z.1,fun z=>z.2,fun z x n=>(x,n),fun z=>y37 s u45 u46,fun z=>y161,fun z=>top r,fun z=>0,[.c fun _=>(↑s.length:Int),.c fun vv=>vv.1,.c fun _=>s,.c fun _=>u45,.c fun _=>u46]⟩
def y300 (s:List Int) (u45:zY) (u46:List (List NC)) (r:Int):Sk (top r) (y35 s u45 u46) :=
 .loop (y162 s u45 u46 r) (fun kk=>((0:Int),big)) fun z0 =>
 .br
 (.ob (.ob (.call (.brB
 (.exit (.obT (.rc)))
 (.next)))))
 (.exit (.obT (.rc)))
def y292 (s:List Int) (u45:zY) (u46:List (List NC)) (r:Int) (h:ze (y35 s u45 u46) some=some r):jaR Tryz.f156 ((sp_124 (sp_122 sp0))) (fun gs id _=>match id with
 |0=>some ⟨Int × Nat,fun z=>⟨[(0,.w (.c (.o 0))),(1,.w (.c (.fn 124 [3]))),(7,.w (.c (.d (.i .i64 ((↑s.length:Int)))))),(8,.w (.c (.d (.i .i64 z.1))))],[(0,.ext (.ints .i64 s)),(3,.ebox [.fn 122 [2]]),(2,.ebox [.d (.s u45),.o 1]),(1,.xext (XC.st zS u46))],4⟩,fun z=>(y162 s u45 u46 r).inv z,fun z=>z.2⟩
 |_=>none) (jaK y123 [.r (.ints .i64 s),.d (.s u45),.x (.st zS u46)]) [.c (.d (.i .i64 r))] :=
 Sk.vc (y300 s u45 u46 r) (by kernel_rfl) h
def y293:jaf Tryz.prog 156 true (jah y123 y124):=by
 refine jan (sp:=(sp_124 (sp_122 sp0))) (fn:=Tryz.f156) (body:=bodyOf Tryz.f156) mixed (sp_124_ok (sp_122_ok jaj)) Tryz.func156 (by kernel_rfl) (by kernel_rfl) fun ls t h ho b hb=>?_;unfold y124 at h;split at h
 ·rename_i s u45 u46;cases h;obtain rfl:=jav hb;exact⟨zh (by kernel_rfl),_,_,y292 s u45 u46 _ (jai ho)⟩
 ·cases h
def sp_156_124_ok {sp:jaa} (h:jab Tryz.prog sp):jab Tryz.prog (sp_156_124 sp):=jag y293 h
def y101:List SV:=[.c (.r (.ints .i64 [])),.c (.f 124 [.p [.f 122 [.p [.d,.x (.st zS [])]]]])]
def y15 (s:List Int) (u45:zY) (u46:List (List NC)):Option Bool :=
 ze (y35 s u45 u46) fun r0 =>
 some (decide (r0>=0))
def y102:List Lf->Option GT|[.r (.ints .i64 s),.d (.s u45),.x (.st [.s,.i .i64,.ints .i64,.ints .i64,.ints .i64,.i .i64,.recs 5,.i .i64] u46)]=>some (.leaf (ok (y15 s u45 u46)) [.c (.d (.b ((val (y15 s u45 u46)))))])|_=>none
abbrev sp_123_124:jaa->jaa:=jap 123 true (jah y101 y102)
def y278 (s:List Int) (u45:zY) (u46:List (List NC)) (r:Bool):Sk (top r) (y15 s u45 u46) :=.call (.obT (.rc))
def y254 (s:List Int) (u45:zY) (u46:List (List NC)) (r:Bool) (h:ze (y15 s u45 u46) some=some r):jaR Tryz.f123 ((sp_156_124 (sp_124 (sp_122 sp0)))) (fun _ _ _=>none) (jaK y101 [.r (.ints .i64 s),.d (.s u45),.x (.st zS u46)]) [.c (.d (.b r))] :=Sk.vc (y278 s u45 u46 r) (by kernel_rfl) h
def y255:jaf Tryz.prog 123 true (jah y101 y102):=by
 refine jan (sp:=(sp_156_124 (sp_124 (sp_122 sp0)))) (fn:=Tryz.f123) (body:=bodyOf Tryz.f123) mixed (sp_156_124_ok (sp_124_ok (sp_122_ok jaj))) Tryz.func123 (by kernel_rfl) (by kernel_rfl) fun ls t h ho b hb=>?_;unfold y102 at h;split at h
 ·rename_i s u45 u46;cases h;obtain rfl:=jav hb;exact⟨zh (by kernel_rfl),_,_,y254 s u45 u46 _ (jai ho)⟩
 ·cases h
def sp_123_124_ok {sp:jaa} (h:jab Tryz.prog sp):jab Tryz.prog (sp_123_124 sp):=jag y255 h
def jfZ:List SV:=[.a [.d,.d,.r (.ints .i64 []),.r (.ints .i64 []),.r (.ints .i64 []),.d,.r (.recs 5 []),.d],.c (.p [.d,.d,.r (.ints .i64 []),.r (.ints .i64 []),.r (.ints .i64 []),.d,.r (.recs 5 []),.d])]
def jqm (u64:zY) (u65:Int) (u66 u67 u68:List Int) (u69:Int) (u70:List (List Int)) (u71:Int) (u51:zY) (u72:Int) (u73 u74 u75:List Int) (u76:Int) (u77:List (List Int)) (u78:Int):Option Bool :=some (u64==u51)
def jf0:List Lf->Option GT|[.d (.s u64),.d (.i .i64 u65),.r (.ints .i64 u66),.r (.ints .i64 u67),.r (.ints .i64 u68),.d (.i .i64 u69),.r (.recs 5 u70),.d (.i .i64 u71),.d (.s u51),.d (.i .i64 u72),.r (.ints .i64 u73),.r (.ints .i64 u74),.r (.ints .i64 u75),.d (.i .i64 u76),.r (.recs 5 u77),.d (.i .i64 u78)]=>some (.leaf (ok (jqm u64 u65 u66 u67 u68 u69 u70 u71 u51 u72 u73 u74 u75 u76 u77 u78)) [.c (.d (.b ((val (jqm u64 u65 u66 u67 u68 u69 u70 u71 u51 u72 u73 u74 u75 u76 u77 u78)))))])|_=>none
abbrev sp_126:jaa->jaa:=jap 126 true (jah jfZ jf0)
def jvj (u64:zY) (u65:Int) (u66 u67 u68:List Int) (u69:Int) (u70:List (List Int)) (u71:Int) (u51:zY) (u72:Int) (u73 u74 u75:List Int) (u76:Int) (u77:List (List Int)) (u78:Int) (r:Bool):Sk (top r) (jqm u64 u65 u66 u67 u68 u69 u70 u71 u51 u72 u73 u74 u75 u76 u77 u78) :=.obT (.obT (.rc))
def jtl (u64:zY) (u65:Int) (u66 u67 u68:List Int) (u69:Int) (u70:List (List Int)) (u71:Int) (u51:zY) (u72:Int) (u73 u74 u75:List Int) (u76:Int) (u77:List (List Int)) (u78:Int) (r:Bool) (h:ze (jqm u64 u65 u66 u67 u68 u69 u70 u71 u51 u72 u73 u74 u75 u76 u77 u78) some=some r):jaR Tryz.f126 (sp0) (fun _ _ _=>none) (jaK jfZ [.d (.s u64),.d (.i .i64 u65),.r (.ints .i64 u66),.r (.ints .i64 u67),.r (.ints .i64 u68),.d (.i .i64 u69),.r (.recs 5 u70),.d (.i .i64 u71),.d (.s u51),.d (.i .i64 u72),.r (.ints .i64 u73),.r (.ints .i64 u74),.r (.ints .i64 u75),.d (.i .i64 u76),.r (.recs 5 u77),.d (.i .i64 u78)]) [.c (.d (.b r))] :=Sk.vc (jvj u64 u65 u66 u67 u68 u69 u70 u71 u51 u72 u73 u74 u75 u76 u77 u78 r) (by kernel_rfl) h
def jtm:jaf Tryz.prog 126 true (jah jfZ jf0):=by
 refine jan (sp:=sp0) (fn:=Tryz.f126) (body:=bodyOf Tryz.f126) mixed jaj Tryz.func126 (by kernel_rfl) (by kernel_rfl) fun ls t h ho b hb=>?_;unfold jf0 at h;split at h
 ·rename_i u64 u65 u66 u67 u68 u69 u70 u71 u51 u72 u73 u74 u75 u76 u77 u78;cases h;obtain rfl:=jav hb;exact⟨zh (by kernel_rfl),_,_,jtl u64 u65 u66 u67 u68 u69 u70 u71 u51 u72 u73 u74 u75 u76 u77 u78 _ (jai ho)⟩
 ·cases h
def sp_126_ok {sp:jaa} (h:jab Tryz.prog sp):jab Tryz.prog (sp_126 sp):=jag jtm h
def y73:List SV:=[.c (.x (.st zS [])),.c (.f 126 [.p [.d,.d,.r (.ints .i64 []),.r (.ints .i64 []),.r (.ints .i64 []),.d,.r (.recs 5 []),.d]])]
def y13 (s:List (List NC)) (u34:zY) (u35:Int) (u36 u37 u38:List Int) (u39:Int) (u40:List (List Int)) (u41 x0:Int):Option (Int ⊕ (Int ⊕ Unit)) :=
 if x0<(↑s.length:Int)then if 0<=x0∧x0<(↑s.length:Int)then
  if zf x0<zb s then
   ze (jqm (nS s x0.toNat (0:Nat)) (nI s x0.toNat (1:Nat)) (nL s x0.toNat (2:Nat)) (nL s x0.toNat (3:Nat)) (nL s x0.toNat (4:Nat)) (nI s x0.toNat (5:Nat)) (nR s x0.toNat (6:Nat)) (nI s x0.toNat (7:Nat)) u34 u35 u36 u37 u38 u39 u40 u41) fun r0 =>
   if(r0)=true then
   some (.inr (.inl x0))
   else
   some (.inl (wrap .i64 (x0+1)))
  else none
  else none
 else some (.inr ((.inr ())))
def y195 (u5:Int):Option Int :=some u5
def y196 (u10:Unit):Option Int :=some (-1:Int)
def y66:(Int ⊕ Unit)->Option Int :=(qz (y195) (y196))
def y19 (s:List (List NC)) (u34:zY) (u35:Int) (u36 u37 u38:List Int) (u39:Int) (u40:List (List Int)) (u41:Int):Option Int :=ze (jae (y13 s u34 u35 u36 u37 u38 u39 u40 u41) big (0:Int)) (y66)
def y74:List Lf->Option GT|[.x (.st [.s,.i .i64,.ints .i64,.ints .i64,.ints .i64,.i .i64,.recs 5,.i .i64] s),.d (.s u34),.d (.i .i64 u35),.r (.ints .i64 u36),.r (.ints .i64 u37),.r (.ints .i64 u38),.d (.i .i64 u39),.r (.recs 5 u40),.d (.i .i64 u41)]=>some (.leaf (ok (y19 s u34 u35 u36 u37 u38 u39 u40 u41)) [.c (.d (.i .i64 ((val (y19 s u34 u35 u36 u37 u38 u39 u40 u41)))))])|_=>none
abbrev sp_157_126:jaa->jaa:=jap 157 true (jah y73 y74)
abbrev y126 (s:List (List NC)) (u34:zY) (u35:Int) (u36 u37 u38:List Int) (u39:Int) (u40:List (List Int)) (u41 r:Int):Lp (Int × Nat) Int (Int ⊕ Unit) Int Int :=⟨fun z=>z.1,fun z=>z.2,fun z x n=>(x,n),fun z=>y13 s u34 u35 u36 u37 u38 u39 u40 u41,fun z=>y66,fun z=>top r,fun z=>0,[.c fun _=>(↑s.length:Int),.c fun vv=>vv.1,.c fun _=>s,.c fun _=>u34,.c fun _=>u35,.c fun _=>u39,.c fun _=>u41,.c fun _=>u36,.c fun _=>u37,.c fun _=>u38,.c fun _=>u40]⟩
def y221 (s:List (List NC)) (u34:zY) (u35:Int) (u36 u37 u38:List Int) (u39:Int) (u40:List (List Int)) (u41 r:Int):Sk (top r) (ze (jae (y13 s u34 u35 u36 u37 u38 u39 u40 u41) big (0:Int)) (y66)) :=
 .loop (y126 s u34 u35 u36 u37 u38 u39 u40 u41 r) (fun kk=>((0:Int),big)) fun z0 =>
 .br
 (.ob (.ob (.call (.brB
 (.exit (.obT (.rc)))
 (.next)))))
 (.exit (.obT (.rc)))
def y235 (s:List (List NC)) (u34:zY) (u35:Int) (u36 u37 u38:List Int) (u39:Int) (u40:List (List Int)) (u41 r:Int):Sk (top r) (y19 s u34 u35 u36 u37 u38 u39 u40 u41) :=y221 s u34 u35 u36 u37 u38 u39 u40 u41 r
def y222 (s:List (List NC)) (u34:zY) (u35:Int) (u36 u37 u38:List Int) (u39:Int) (u40:List (List Int)) (u41 r:Int) (h:ze (y19 s u34 u35 u36 u37 u38 u39 u40 u41) some=some r):jaR Tryz.f157 ((sp_126 sp0)) (fun gs id _=>match id with
 |0=>some ⟨Int × Nat,fun z=>⟨[(0,.w (.c (.o 0))),(1,.w (.c (.fn 126 [5]))),(7,.w (.c (.d (.i .i64 ((↑s.length:Int)))))),(8,.w (.c (.d (.i .i64 z.1))))],[(0,.xext (XC.st zS s)),(5,.ebox [.d (.s u34),.d (.i .i64 u35),.o 1,.o 2,.o 3,.d (.i .i64 u39),.o 4,.d (.i .i64 u41)]),(1,.ext (.ints .i64 u36)),(2,.ext (.ints .i64 u37)),(3,.ext (.ints .i64 u38)),(4,.ext (.recs 5 u40))],6⟩,fun z=>(y126 s u34 u35 u36 u37 u38 u39 u40 u41 r).inv z,fun z=>z.2⟩
 |_=>none) (jaK y73 [.x (.st zS s),.d (.s u34),.d (.i .i64 u35),.r (.ints .i64 u36),.r (.ints .i64 u37),.r (.ints .i64 u38),.d (.i .i64 u39),.r (.recs 5 u40),.d (.i .i64 u41)]) [.c (.d (.i .i64 r))] :=
 Sk.vc (y235 s u34 u35 u36 u37 u38 u39 u40 u41 r) (by kernel_rfl) h
def y223:jaf Tryz.prog 157 true (jah y73 y74):=by
 refine jan (sp:=(sp_126 sp0)) (fn:=Tryz.f157) (body:=bodyOf Tryz.f157) mixed (sp_126_ok jaj) Tryz.func157 (by kernel_rfl) (by kernel_rfl) fun ls t h ho b hb=>?_;unfold y74 at h;split at h
 ·rename_i s u34 u35 u36 u37 u38 u39 u40 u41;cases h;obtain rfl:=jav hb;exact⟨zh (by kernel_rfl),_,_,y222 s u34 u35 u36 u37 u38 u39 u40 u41 _ (jai ho)⟩
 ·cases h
def sp_157_126_ok {sp:jaa} (h:jab Tryz.prog sp):jab Tryz.prog (sp_157_126 sp):=jag y223 h
def y56:List SV:=[.c (.x (.st zS [])),.c (.f 126 [.p [.d,.d,.r (.ints .i64 []),.r (.ints .i64 []),.r (.ints .i64 []),.d,.r (.recs 5 []),.d]])]
def y8 (s:List (List NC)) (u34:zY) (u35:Int) (u36 u37 u38:List Int) (u39:Int) (u40:List (List Int)) (u41:Int):Option Bool :=
 ze (y19 s u34 u35 u36 u37 u38 u39 u40 u41) fun r0 =>
 some (decide (r0>=0))
def y57:List Lf->Option GT|[.x (.st [.s,.i .i64,.ints .i64,.ints .i64,.ints .i64,.i .i64,.recs 5,.i .i64] s),.d (.s u34),.d (.i .i64 u35),.r (.ints .i64 u36),.r (.ints .i64 u37),.r (.ints .i64 u38),.d (.i .i64 u39),.r (.recs 5 u40),.d (.i .i64 u41)]=>some (.leaf (ok (y8 s u34 u35 u36 u37 u38 u39 u40 u41)) [.c (.d (.b ((val (y8 s u34 u35 u36 u37 u38 u39 u40 u41)))))])|_=>none
abbrev sp_125_126:jaa->jaa:=jap 125 true (jah y56 y57)
def y197 (s:List (List NC)) (u34:zY) (u35:Int) (u36 u37 u38:List Int) (u39:Int) (u40:List (List Int)) (u41:Int) (r:Bool):Sk (top r) (y8 s u34 u35 u36 u37 u38 u39 u40 u41) :=.call (.obT (.rc))
def y188 (s:List (List NC)) (u34:zY) (u35:Int) (u36 u37 u38:List Int) (u39:Int) (u40:List (List Int)) (u41:Int) (r:Bool) (h:ze (y8 s u34 u35 u36 u37 u38 u39 u40 u41) some=some r):jaR Tryz.f125 ((sp_157_126 (sp_126 sp0))) (fun _ _ _=>none) (jaK y56 [.x (.st zS s),.d (.s u34),.d (.i .i64 u35),.r (.ints .i64 u36),.r (.ints .i64 u37),.r (.ints .i64 u38),.d (.i .i64 u39),.r (.recs 5 u40),.d (.i .i64 u41)]) [.c (.d (.b r))] :=Sk.vc (y197 s u34 u35 u36 u37 u38 u39 u40 u41 r) (by kernel_rfl) h
def y189:jaf Tryz.prog 125 true (jah y56 y57):=by
 refine jan (sp:=(sp_157_126 (sp_126 sp0))) (fn:=Tryz.f125) (body:=bodyOf Tryz.f125) mixed (sp_157_126_ok (sp_126_ok jaj)) Tryz.func125 (by kernel_rfl) (by kernel_rfl) fun ls t h ho b hb=>?_;unfold y57 at h;split at h
 ·rename_i s u34 u35 u36 u37 u38 u39 u40 u41;cases h;obtain rfl:=jav hb;exact⟨zh (by kernel_rfl),_,_,y188 s u34 u35 u36 u37 u38 u39 u40 u41 _ (jai ho)⟩
 ·cases h
def sp_125_126_ok {sp:jaa} (h:jab Tryz.prog sp):jab Tryz.prog (sp_125_126 sp):=jag y189 h
def y294:List (Option Cont):=[some (.ints .i64 []),none]
def y24 (s:List Int) (v x0:Int):Option (Int ⊕ (Int ⊕ Unit)) :=
 if x0<(↑s.length:Int)then if 0<=x0∧x0<(↑s.length:Int)then
  if zf x0<zb s then if(v==za s x0.toNat (0:Int))=true then some (.inr (.inl x0))
   else
   some (.inl (wrap .i64 (x0+1)))
  else none
  else none
 else some (.inr ((.inr ())))
def jjH (u5:Int):Option Int :=some u5
def jjI (u10:Unit):Option Int :=some (-1:Int)
def y283:(Int ⊕ Unit)->Option Int :=(qz (jjH) (jjI))
def y39 (s:List Int) (v:Int):Option Int :=ze (jae (y24 s v) big (0:Int)) (y283)
def y198:List A->Option (Prop × List RV)|[.r (.ints .i64 s),.d (.i .i64 v)]=>some (ok (y39 s v),[.d (.i .i64 ((val (y39 s v))))])|_=>none
abbrev sp_134:jaa->jaa:=jap 134 true (jat y294 y198)
abbrev y284 (s:List Int) (v r:Int):Lp (Int × Nat) Int (Int ⊕ Unit) Int Int :=⟨fun z=>z.1,fun z=>z.2,fun z x n=>(x,n),fun z=>y24 s v,fun z=>y283,fun z=>top r,fun z=>0,[.c fun _=>v,.c fun _=>(↑s.length:Int),.c fun vv=>vv.1,.c fun _=>s]⟩
def jmY (s:List Int) (v r:Int):Sk (top r) (y39 s v) :=
 .loop (y284 s v r) (fun kk=>((0:Int),big)) fun z0 =>
 .br
 (.ob (.ob (.brB
 (.exit (.obT (.rc)))
 (.next))))
 (.exit (.obT (.rc)))
def jlJ (s:List Int) (v r:Int) (h:ze (y39 s v) some=some r):ja4 Tryz.f134 (sp0) (fun gs id _=>match id with
 |0=>some ⟨Int × Nat,fun z=>⟨[(0,.w (.c (.o 0))),(1,.w (.c (.d (.i .i64 v)))),(7,.w (.c (.d (.i .i64 ((↑s.length:Int)))))),(8,.w (.c (.d (.i .i64 z.1))))],[(0,.ext (.ints .i64 s))],2⟩,fun z=>(y284 s v r).inv z,fun z=>z.2⟩
 |_=>none) [.r (.ints .i64 s),.d (.i .i64 v)] [.d (.i .i64 r)] :=
 Sk.vc (jmY s v r) (by kernel_rfl) h
def jlK:jaf Tryz.prog 134 true (jat y294 y198):=by
 refine jaA (sp:=sp0) (fn:=Tryz.f134) (body:=bodyOf Tryz.f134) mixed jaj Tryz.func134 (by kernel_rfl) (by kernel_rfl) fun as_ ob rs h ho=>?_;unfold y198 at h;split at h
 ·rename_i s v;cases h;exact⟨zh rfl,_,_,jlJ s v _ (jai ho)⟩
 ·cases h
def sp_134_ok {sp:jaa} (h:jab Tryz.prog sp):jab Tryz.prog (sp_134 sp):=jag jlK h
def y251:List (Option Cont):=[some (.ints .i64 []),none]
def y46 (s:List Int) (v:Int):Option Bool :=
 ze (y39 s v) fun r0 =>
 some (decide (r0>=0))
def y156:List A->Option (Prop × List RV)|[.r (.ints .i64 s),.d (.i .i64 v)]=>some (ok (y46 s v),[.d (.b ((val (y46 s v))))])|_=>none
abbrev sp_158:jaa->jaa:=jap 158 true (jat y251 y156)
def jjJ (s:List Int) (v:Int) (r:Bool):Sk (top r) (y46 s v) :=.call (.obT (.rc))
def jiM (s:List Int) (v:Int) (r:Bool) (h:ze (y46 s v) some=some r):ja4 Tryz.f158 ((sp_134 sp0)) (fun _ _ _=>none) [.r (.ints .i64 s),.d (.i .i64 v)] [.d (.b r)] :=Sk.vc (jjJ s v r) (by kernel_rfl) h
def jiN:jaf Tryz.prog 158 true (jat y251 y156):=by
 refine jaA (sp:=(sp_134 sp0)) (fn:=Tryz.f158) (body:=bodyOf Tryz.f158) mixed (sp_134_ok jaj) Tryz.func158 (by kernel_rfl) (by kernel_rfl) fun as_ ob rs h ho=>?_;unfold y156 at h;split at h
 ·rename_i s v;cases h;exact⟨zh rfl,_,_,jiM s v _ (jai ho)⟩
 ·cases h
def sp_158_ok {sp:jaa} (h:jab Tryz.prog sp):jab Tryz.prog (sp_158 sp):=jag jiN h
def jpq:List (Option Cont):=[some (.ints .i64 [])]
def jtn (l:List Int) (x0:Int):Option (Int ⊕ (Unit ⊕ Unit)) :=
 if x0<(↑l.length:Int)then if 0<=x0∧x0<(↑l.length:Int)then
  if zf x0<zb l then if 0<=z5 none (0:Int)∧z5 none 0<=z5 (some x0) (↑l.length:Int)∧z5 (some x0) (↑l.length:Int)<=(↑l.length:Int)then
   ze (y46 (yS (zf (z5 (some x0) (↑l.length:Int))-0) (yT (0:Nat) l)) (za l x0.toNat (0:Int))) fun r0 =>
   if(r0)=true then some (.inr ((.inl ())))
   else some (.inl (wrap .i64 (x0+1)))
   else none
  else none
  else none
 else some (.inr ((.inr ())))
def jto (u5:Unit):Option Bool :=some true
def jtp (u10:Unit):Option Bool :=some false
def jmZ:(Unit ⊕ Unit)->Option Bool :=(qz (jto) (jtp))
def jm0 (l:List Int):Option Bool :=ze (jae (jtn l) big (0:Int)) (jmZ)
def jiO:List A->Option (Prop × List RV)|[.r (.ints .i64 l)]=>some (ok (jm0 l),[.d (.b ((val (jm0 l))))])|_=>none
abbrev sp_128:jaa->jaa:=jap 128 true (jat jpq jiO)
abbrev jm1 (l:List Int) (r:Bool):Lp (Int × Nat) Int (Unit ⊕ Unit) Bool Bool :=⟨fun z=>z.1,fun z=>z.2,fun z x n=>(x,n),fun z=>jtn l,fun z=>jmZ,fun z=>top r,fun z=>0,[.c fun _=>(↑l.length:Int),.c fun vv=>vv.1,.c fun _=>l]⟩
def jy7 (l:List Int) (r:Bool):Sk (top r) (jm0 l) :=
 .loop (jm1 l r) (fun kk=>((0:Int),big)) fun z0 =>
 .br
 (.ob (.ob (.ob (.call (.brB
 (.exit (.obT (.rc)))
 (.next))))))
 (.exit (.obT (.rc)))
def jxl (l:List Int) (r:Bool) (h:ze (jm0 l) some=some r):ja4 Tryz.f128 ((sp_158 sp0)) (fun gs id _=>match id with
 |0=>some ⟨Int × Nat,fun z=>⟨[(0,.w (.c (.o 0))),(5,.w (.c (.o 0))),(6,.w (.c (.d (.i .i64 ((↑l.length:Int)))))),(7,.w (.c (.d (.i .i64 z.1))))],[(0,.ext (.ints .i64 l))],1⟩,fun z=>(jm1 l r).inv z,fun z=>z.2⟩
 |_=>none) [.r (.ints .i64 l)] [.d (.b r)] :=
 Sk.vc (jy7 l r) (by kernel_rfl) h
def jxm:jaf Tryz.prog 128 true (jat jpq jiO):=by
 refine jaA (sp:=(sp_158 sp0)) (fn:=Tryz.f128) (body:=bodyOf Tryz.f128) mixed (sp_158_ok jaj) Tryz.func128 (by kernel_rfl) (by kernel_rfl) fun as_ ob rs h ho=>?_;unfold jiO at h;split at h
 ·rename_i l;cases h;exact⟨zh rfl,_,_,jxl l _ (jai ho)⟩
 ·cases h
def sp_128_ok {sp:jaa} (h:jab Tryz.prog sp):jab Tryz.prog (sp_128 sp):=jag jxm h
def jm2:List (Option Cont):=[none]
def jkJ (n:Int):Option Bool :=
 ze (y54 n (0:Int) (64:Int)) fun r0 =>
 some r0
def jhd:List A->Option (Prop × List RV)|[.d (.i .i64 n)]=>some (ok (jkJ n),[.d (.b ((val (jkJ n))))])|_=>none
abbrev sp_159:jaa->jaa:=jap 159 true (jat jm2 jhd)
def jxn (n:Int) (r:Bool):Sk (top r) (jkJ n) :=.call (.obT (.rc))
def jvk (n:Int) (r:Bool) (h:ze (jkJ n) some=some r):ja4 Tryz.f159 ((sp_84 sp0)) (fun _ _ _=>none) [.d (.i .i64 n)] [.d (.b r)] :=Sk.vc (jxn n r) (by kernel_rfl) h
def jvl:jaf Tryz.prog 159 true (jat jm2 jhd):=by
 refine jaA (sp:=(sp_84 sp0)) (fn:=Tryz.f159) (body:=bodyOf Tryz.f159) mixed (sp_84_ok jaj) Tryz.func159 (by kernel_rfl) (by kernel_rfl) fun as_ ob rs h ho=>?_;unfold jhd at h;split at h
 ·rename_i n;cases h;exact⟨zh rfl,_,_,jvk n _ (jai ho)⟩
 ·cases h
def sp_159_ok {sp:jaa} (h:jab Tryz.prog sp):jab Tryz.prog (sp_159 sp):=jag jvl h
def jkK:List SV:=[.a [.d,.d,.r (.ints .i64 []),.r (.ints .i64 []),.r (.ints .i64 []),.d,.r (.recs 5 []),.d]]
def jqn (u26:List Int) (x0:Int):Option (Int ⊕ (Unit ⊕ Unit)) :=
 if x0<(↑u26.length:Int)then if 0<=x0∧x0<(↑u26.length:Int)then
  if zf x0<zb u26 then
   ze (jkJ (za u26 x0.toNat (0:Int))) fun r0 =>
   if(!r0)=true then
   some (.inr ((.inl ())))
   else
   some (.inl (wrap .i64 (x0+1)))
  else none
  else none
 else some (.inr ((.inr ())))
def jvm (u24:Int) (u21:List Int) (u25:Int) (u5:Unit):Option Bool :=some false
def jm3 (u21:List Int) (x1:Int):Option (Int ⊕ (Unit ⊕ Unit)) :=
 if x1<(↑u21.length:Int)then if 0<=x1∧x1<(↑u21.length:Int)then
  if zf x1<zb u21 then
   ze (jef (za u21 x1.toNat (0:Int)) (4000:Int)) fun r1 =>
   if(!r1)=true then
   some (.inr ((.inl ())))
   else
   some (.inl (wrap .i64 (x1+1)))
  else none
  else none
 else some (.inr ((.inr ())))
def jvn (u24 u25:Int) (u19:Unit):Option Bool :=some false
def jvo (u24 u25:Int) (u33:Unit):Option Bool :=
 ze (jkJ u25) fun r2 =>
 if(r2)=true then if(u24==2)=true then some true
  else
  some (u25==0)
 else some false
def jfu (u24 u25:Int):(Unit ⊕ Unit)->Option Bool :=(qz (jvn u24 u25) (jvo u24 u25))
def jvp (u24:Int) (u21:List Int) (u25:Int) (u10:Unit):Option Bool :=ze (jae (jm3 u21) big (0:Int)) (jfu u24 u25)
def jiP (u24:Int) (u21:List Int) (u25:Int):(Unit ⊕ Unit)->Option Bool :=(qz (jvm u24 u21 u25) (jvp u24 u21 u25))
def jdu (u28:zY) (u24:Int) (u27 u26 u21:List Int) (u25:Int) (u29:List (List Int)) (u30:Int):Option Bool :=ze (jae (jqn u26) big (0:Int)) (jiP u24 u21 u25)
def jkL:List Lf->Option GT|[.d (.s u28),.d (.i .i64 u24),.r (.ints .i64 u27),.r (.ints .i64 u26),.r (.ints .i64 u21),.d (.i .i64 u25),.r (.recs 5 u29),.d (.i .i64 u30)]=>some (.leaf (ok (jdu u28 u24 u27 u26 u21 u25 u29 u30)) [.c (.d (.b ((val (jdu u28 u24 u27 u26 u21 u25 u29 u30)))))])|_=>none
abbrev sp_129:jaa->jaa:=jap 129 true (jah jkK jkL)
abbrev jpr (u28:zY) (u24:Int) (u27 u26 u21:List Int) (u25:Int) (u29:List (List Int)) (u30:Int) (r:Bool):Lp (Int × Nat) Int (Unit ⊕ Unit) Bool Bool :=⟨fun z=>z.1,fun z=>z.2,fun z x n=>(x,n),fun z=>jqn u26,fun z=>jiP u24 u21 u25,fun z=>top r,fun z=>0,[.c fun _=>0,.c fun _=>(↑u26.length:Int),.c fun vv=>vv.1,.c fun _=>u28,.c fun _=>u24,.c fun _=>u25,.c fun _=>u30,.c fun _=>u26,.c fun _=>u27,.c fun _=>u21,.c fun _=>u29]⟩
abbrev jps (u28:zY) (u24:Int) (u27 u26 u21:List Int) (u25:Int) (u29:List (List Int)) (u30:Int) (r:Bool):Lp (Unit × Int × Nat) Int (Unit ⊕ Unit) Bool Bool :=⟨fun z=>z.2.1,fun z=>z.2.2,fun z x n=>((),x,n),fun z=>jm3 u21,fun z=>jfu u24 u25,fun z=>top r,fun z=>0,[.c fun _=>0,.c fun _=>(↑u21.length:Int),.c fun vv=>vv.2.1,.c fun _=>u28,.c fun _=>u24,.c fun _=>u25,.c fun _=>u30,.c fun _=>u21,.c fun _=>u27,.c fun _=>u26,.c fun _=>u29]⟩
def jy8 (u28:zY) (u24:Int) (u27 u26 u21:List Int) (u25:Int) (u29:List (List Int)) (u30:Int) (r:Bool):Sk (top r) (ze (jae (jm3 u21) big (0:Int)) (jfu u24 u25)) :=
 .loop (jps u28 u24 u27 u26 u21 u25 u29 u30 r) (fun kk=>((),0,big)) fun z0 =>
 .br
 (.ob (.ob (.call (.brB
 (.exit (.obT (.rc)))
 (.next)))))
 (.exit (.call (.brB
 (.brB
 (.obT (.rc))
 (.obT (.rc)))
 (.obT (.rc)))))
def jy9 (u28:zY) (u24:Int) (u27 u26 u21:List Int) (u25:Int) (u29:List (List Int)) (u30:Int) (r:Bool):Sk (top r) (ze (jae (jqn u26) big (0:Int)) (jiP u24 u21 u25)) :=
 .loop (jpr u28 u24 u27 u26 u21 u25 u29 u30 r) (fun kk=>((0:Int),big)) fun z0 =>
 .br
 (.ob (.ob (.call (.brB
 (.exit (.obT (.rc)))
 (.next)))))
 (.exit (jy8 u28 u24 u27 u26 u21 u25 u29 u30 r))
def jBg (u28:zY) (u24:Int) (u27 u26 u21:List Int) (u25:Int) (u29:List (List Int)) (u30:Int) (r:Bool):Sk (top r) (jdu u28 u24 u27 u26 u21 u25 u29 u30) :=jy9 u28 u24 u27 u26 u21 u25 u29 u30 r
def jza (u28:zY) (u24:Int) (u27 u26 u21:List Int) (u25:Int) (u29:List (List Int)) (u30:Int) (r:Bool) (h:ze (jdu u28 u24 u27 u26 u21 u25 u29 u30) some=some r):jaR Tryz.f129 ((sp_159 (sp_160 sp0))) (fun gs id _=>match id with
 |0=>some ⟨Int × Nat,fun z=>⟨[(1,.w (.c (.p 4 0 1 0))),(3,.w (.c (.fn 159 []))),(9,.w (.c (.o 1))),(10,.w (.c (.d (.i .i64 ((↑u26.length:Int)))))),(11,.w (.c (.d (.i .i64 z.1))))],[(4,.box 118 [.d (.s u28),.d (.i .i64 u24),.o 0,.o 1,.o 2,.d (.i .i64 u25),.o 3,.d (.i .i64 u30)]),(1,.ext (.ints .i64 u26)),(0,.ext (.ints .i64 u27)),(2,.ext (.ints .i64 u21)),(3,.ext (.recs 5 u29))],5⟩,fun z=>(jpr u28 u24 u27 u26 u21 u25 u29 u30 r).inv z,fun z=>z.2⟩
 |2=>some ⟨Unit × Int × Nat,fun z=>⟨[(1,.w (.c (.p 4 0 1 0))),(3,.w (.c (.fn 159 []))),(21,.w (.c (.o 2))),(22,.w (.c (.d (.i .i64 ((↑u21.length:Int)))))),(23,.w (.c (.d (.i .i64 z.2.1))))],[(4,.box 118 [.d (.s u28),.d (.i .i64 u24),.o 0,.o 1,.o 2,.d (.i .i64 u25),.o 3,.d (.i .i64 u30)]),(2,.ext (.ints .i64 u21)),(0,.ext (.ints .i64 u27)),(1,.ext (.ints .i64 u26)),(3,.ext (.recs 5 u29))],5⟩,fun z=>(jps u28 u24 u27 u26 u21 u25 u29 u30 r).inv z,fun z=>z.2.2⟩
 |_=>none) (jaK jkK [.d (.s u28),.d (.i .i64 u24),.r (.ints .i64 u27),.r (.ints .i64 u26),.r (.ints .i64 u21),.d (.i .i64 u25),.r (.recs 5 u29),.d (.i .i64 u30)]) [.c (.d (.b r))] :=
 Sk.vc (jBg u28 u24 u27 u26 u21 u25 u29 u30 r) (by kernel_rfl) h
def jzb:jaf Tryz.prog 129 true (jah jkK jkL):=by
 refine jan (sp:=(sp_159 (sp_160 sp0))) (fn:=Tryz.f129) (body:=bodyOf Tryz.f129) mixed (sp_159_ok (sp_160_ok jaj)) Tryz.func129 (by kernel_rfl) (by kernel_rfl) fun ls t h ho b hb=>?_;unfold jkL at h;split at h
 ·rename_i u28 u24 u27 u26 u21 u25 u29 u30;cases h;obtain rfl:=jav hb;exact⟨zh (by kernel_rfl),_,_,jza u28 u24 u27 u26 u21 u25 u29 u30 _ (jai ho)⟩
 ·cases h
def sp_129_ok {sp:jaa} (h:jab Tryz.prog sp):jab Tryz.prog (sp_129 sp):=jag jzb h
def jkM:List SV:=[.a [.d,.d,.r (.ints .i64 []),.r (.ints .i64 []),.r (.ints .i64 []),.d,.r (.recs 5 []),.d]]
def jc0 (u28:zY) (u24:Int) (u27 u26 u21:List Int) (u25:Int) (u29:List (List Int)) (u30:Int):Option Bool :=
 if(u24==0)=true then
  ze (y54 (↑u27.length:Int) (0:Int) (0:Int)) fun r0 =>
  if(r0)=true then
  if((↑u26.length:Int)==(↑u27.length:Int))=true then some ((↑u21.length:Int)==0)
  else some false
  else
  some false
 else if(u24==1)=true then
  ze (y54 (↑u27.length:Int) (1:Int) (6:Int)) fun r1 =>
  if(r1)=true then if((↑u26.length:Int)==(↑u27.length:Int))=true then some ((↑u21.length:Int)==(↑u27.length:Int))
   else
   some false
  else some false
  else
  ze (y54 (↑u27.length:Int) (1:Int) (1:Int)) fun r2 =>
  if(r2)=true then if((↑u26.length:Int)==(↑u27.length:Int))=true then some ((↑u21.length:Int)==0)
   else
   some false
  else some false
def jkN:List Lf->Option GT|[.d (.s u28),.d (.i .i64 u24),.r (.ints .i64 u27),.r (.ints .i64 u26),.r (.ints .i64 u21),.d (.i .i64 u25),.r (.recs 5 u29),.d (.i .i64 u30)]=>some (.leaf (ok (jc0 u28 u24 u27 u26 u21 u25 u29 u30)) [.c (.d (.b ((val (jc0 u28 u24 u27 u26 u21 u25 u29 u30)))))])|_=>none
abbrev sp_127:jaa->jaa:=jap 127 true (jah jkM jkN)
def jBh (u28:zY) (u24:Int) (u27 u26 u21:List Int) (u25:Int) (u29:List (List Int)) (u30:Int) (r:Bool):Sk (top r) (jc0 u28 u24 u27 u26 u21 u25 u29 u30) :=.brB
 (.call (.brB
 (.brB
 (.obT (.rc))
 (.obT (.rc)))
 (.obT (.rc))))
 (.brB
 (.call (.brB
 (.brB
 (.obT (.rc))
 (.obT (.rc)))
 (.obT (.rc))))
 (.call (.brB
 (.brB
 (.obT (.rc))
 (.obT (.rc)))
 (.obT (.rc)))))
def jzc (u28:zY) (u24:Int) (u27 u26 u21:List Int) (u25:Int) (u29:List (List Int)) (u30:Int) (r:Bool) (h:ze (jc0 u28 u24 u27 u26 u21 u25 u29 u30) some=some r):jaR Tryz.f127 ((sp_84 sp0)) (fun _ _ _=>none) (jaK jkM [.d (.s u28),.d (.i .i64 u24),.r (.ints .i64 u27),.r (.ints .i64 u26),.r (.ints .i64 u21),.d (.i .i64 u25),.r (.recs 5 u29),.d (.i .i64 u30)]) [.c (.d (.b r))] :=Sk.vc (jBh u28 u24 u27 u26 u21 u25 u29 u30 r) (by kernel_rfl) h
def jzd:jaf Tryz.prog 127 true (jah jkM jkN):=by
 refine jan (sp:=(sp_84 sp0)) (fn:=Tryz.f127) (body:=bodyOf Tryz.f127) mixed (sp_84_ok jaj) Tryz.func127 (by kernel_rfl) (by kernel_rfl) fun ls t h ho b hb=>?_;unfold jkN at h;split at h
 ·rename_i u28 u24 u27 u26 u21 u25 u29 u30;cases h;obtain rfl:=jav hb;exact⟨zh (by kernel_rfl),_,_,jzc u28 u24 u27 u26 u21 u25 u29 u30 _ (jai ho)⟩
 ·cases h
def sp_127_ok {sp:jaa} (h:jab Tryz.prog sp):jab Tryz.prog (sp_127 sp):=jag jzd h
end Go.Sh
end

section
namespace Go.Sh
open Go Go.Proofs Go.RowKit Go.Sx
open Go.IntKind (wrap)
def jrR:List (Option Cont):=[none,none,none]
def jdv (n lo hi:Int):Option Bool :=
 if lo<=n then some (decide (n<=hi))
 else some false
def jkO:List A->Option (Prop × List RV)|[.d (.i .i64 n),.d (.i .i64 lo),.d (.i .i64 hi)]=>some (ok (jdv n lo hi),[.d (.b ((val (jdv n lo hi))))])|_=>none
abbrev sp_180:jaa->jaa:=jap 180 true (jat jrR jkO)
def jBi (n lo hi:Int) (r:Bool):Sk (top r) (jdv n lo hi) :=.br
 (.obT (.rc))
 (.obT (.rc))
def jze (n lo hi:Int) (r:Bool) (h:ze (jdv n lo hi) some=some r):ja4 Tryz.f180 (sp0) (fun _ _ _=>none) [.d (.i .i64 n),.d (.i .i64 lo),.d (.i .i64 hi)] [.d (.b r)] :=Sk.vc (jBi n lo hi r) (by kernel_rfl) h
def jzf:jaf Tryz.prog 180 true (jat jrR jkO):=by
 refine jaA (sp:=sp0) (fn:=Tryz.f180) (body:=bodyOf Tryz.f180) mixed jaj Tryz.func180 (by kernel_rfl) (by kernel_rfl) fun as_ ob rs h ho=>?_;unfold jkO at h;split at h
 ·rename_i n lo hi;cases h;exact⟨zh rfl,_,_,jze n lo hi _ (jai ho)⟩
 ·cases h
def sp_180_ok {sp:jaa} (h:jab Tryz.prog sp):jab Tryz.prog (sp_180 sp):=jag jzf h
def juG:List (Option Cont):=[none,none]
def jcM (n u50:Int):Option Bool :=
 ze (jdv n (wrap .i64 (0-u50)) u50) fun r0 =>
 some r0
def jm4:List A->Option (Prop × List RV)|[.d (.i .i64 n),.d (.i .i64 u50)]=>some (ok (jcM n u50),[.d (.b ((val (jcM n u50))))])|_=>none
abbrev sp_177:jaa->jaa:=jap 177 true (jat juG jm4)
def jCY (n u50:Int) (r:Bool):Sk (top r) (jcM n u50) :=.call (.obT (.rc))
def jBj (n u50:Int) (r:Bool) (h:ze (jcM n u50) some=some r):ja4 Tryz.f177 ((sp_180 sp0)) (fun _ _ _=>none) [.d (.i .i64 n),.d (.i .i64 u50)] [.d (.b r)] :=Sk.vc (jCY n u50 r) (by kernel_rfl) h
def jBk:jaf Tryz.prog 177 true (jat juG jm4):=by
 refine jaA (sp:=(sp_180 sp0)) (fn:=Tryz.f177) (body:=bodyOf Tryz.f177) mixed (sp_180_ok jaj) Tryz.func177 (by kernel_rfl) (by kernel_rfl) fun as_ ob rs h ho=>?_;unfold jm4 at h;split at h
 ·rename_i n u50;cases h;exact⟨zh rfl,_,_,jBj n u50 _ (jai ho)⟩
 ·cases h
def sp_177_ok {sp:jaa} (h:jab Tryz.prog sp):jab Tryz.prog (sp_177 sp):=jag jBk h
def jBl:List (Option Cont):=[none]
def jdZ (n:Int):Option Bool :=
 ze (jcM n (32768:Int)) fun r0 =>
 some r0
def jrS:List A->Option (Prop × List RV)|[.d (.i .i64 n)]=>some (ok (jdZ n),[.d (.b ((val (jdZ n))))])|_=>none
def jBm (n:Int) (r:Bool):Sk (top r) (jdZ n) :=.call (.obT (.rc))
def jzg (n:Int) (r:Bool) (h:ze (jdZ n) some=some r):ja4 Tryz.f183 ((sp_177 sp0)) (fun _ _ _=>none) [.d (.i .i64 n)] [.d (.b r)] :=Sk.vc (jBm n r) (by kernel_rfl) h
def jzh:jaf Tryz.prog 183 true (jat jBl jrS):=by
 refine jaA (sp:=(sp_177 sp0)) (fn:=Tryz.f183) (body:=bodyOf Tryz.f183) mixed (sp_177_ok jaj) Tryz.func183 (by kernel_rfl) (by kernel_rfl) fun as_ ob rs h ho=>?_;unfold jrS at h;split at h
 ·rename_i n;cases h;exact⟨zh rfl,_,_,jzg n _ (jai ho)⟩
 ·cases h
def juH:List (Option Cont):=[some (.ints .i64 [])]
def jtq (l:List Int) (x0:Int):Option (Int ⊕ (Int ⊕ Unit)) :=
 if x0<(↑l.length:Int)then if 0<=x0∧x0<(↑l.length:Int)then
  if zf x0<zb l then if(za l x0.toNat (0:Int)!=0)=true then some (.inr ((.inl (za l x0.toNat (0:Int)))))
   else
   some (.inl (wrap .i64 (x0+1)))
  else none
  else none
 else some (.inr ((.inr ())))
def jhe (u5:Int):Option Int :=some u5
def jm5 (u10:Unit):Option Int :=some (0:Int)
def jev:(Int ⊕ Unit)->Option Int :=(qz (jhe) (jm5))
def jde (l:List Int):Option Int :=ze (jae (jtq l) big (0:Int)) (jev)
def jm6:List A->Option (Prop × List RV)|[.r (.ints .i64 l)]=>some (ok (jde l),[.d (.i .i64 ((val (jde l))))])|_=>none
abbrev sp_165:jaa->jaa:=jap 165 true (jat juH jm6)
abbrev jrT (l:List Int) (r:Int):Lp (Int × Nat) Int (Int ⊕ Unit) Int Int :=⟨fun z=>z.1,fun z=>z.2,fun z x n=>(x,n),fun z=>jtq l,fun z=>jev,fun z=>top r,fun z=>0,[.c fun _=>(↑l.length:Int),.c fun vv=>vv.1,.c fun _=>l]⟩
def jCZ (l:List Int) (r:Int):Sk (top r) (jde l) :=
 .loop (jrT l r) (fun kk=>((0:Int),big)) fun z0 =>
 .br
 (.ob (.ob (.brB
 (.exit (.obT (.rc)))
 (.next))))
 (.exit (.obT (.rc)))
def jBn (l:List Int) (r:Int) (h:ze (jde l) some=some r):ja4 Tryz.f165 (sp0) (fun gs id _=>match id with
 |0=>some ⟨Int × Nat,fun z=>⟨[(5,.w (.c (.o 0))),(6,.w (.c (.d (.i .i64 ((↑l.length:Int)))))),(7,.w (.c (.d (.i .i64 z.1))))],[(0,.ext (.ints .i64 l))],1⟩,fun z=>(jrT l r).inv z,fun z=>z.2⟩
 |_=>none) [.r (.ints .i64 l)] [.d (.i .i64 r)] :=
 Sk.vc (jCZ l r) (by kernel_rfl) h
def jBo:jaf Tryz.prog 165 true (jat juH jm6):=by
 refine jaA (sp:=sp0) (fn:=Tryz.f165) (body:=bodyOf Tryz.f165) mixed jaj Tryz.func165 (by kernel_rfl) (by kernel_rfl) fun as_ ob rs h ho=>?_;unfold jm6 at h;split at h
 ·rename_i l;cases h;exact⟨zh rfl,_,_,jBn l _ (jai ho)⟩
 ·cases h
def sp_165_ok {sp:jaa} (h:jab Tryz.prog sp):jab Tryz.prog (sp_165 sp):=jag jBo h
def jrU:List (Option Cont):=[none,none]
def jc1 (is:Bool) (e:Int):Option Int :=
 if(is)=true then some (0:Int)
 else some e
def jkP:List A->Option (Prop × List RV)|[.d (.b is),.d (.i .i64 e)]=>some (ok (jc1 is e),[.d (.i .i64 ((val (jc1 is e))))])|_=>none
abbrev sp_176:jaa->jaa:=jap 176 true (jat jrU jkP)
def jBp (is:Bool) (e r:Int):Sk (top r) (jc1 is e) :=.brB
 (.obT (.rc))
 (.obT (.rc))
def jzi (is:Bool) (e r:Int) (h:ze (jc1 is e) some=some r):ja4 Tryz.f176 (sp0) (fun _ _ _=>none) [.d (.b is),.d (.i .i64 e)] [.d (.i .i64 r)] :=Sk.vc (jBp is e r) (by kernel_rfl) h
def jzj:jaf Tryz.prog 176 true (jat jrU jkP):=by
 refine jaA (sp:=sp0) (fn:=Tryz.f176) (body:=bodyOf Tryz.f176) mixed jaj Tryz.func176 (by kernel_rfl) (by kernel_rfl) fun as_ ob rs h ho=>?_;unfold jkP at h;split at h
 ·rename_i is e;cases h;exact⟨zh rfl,_,_,jzi is e _ (jai ho)⟩
 ·cases h
def sp_176_ok {sp:jaa} (h:jab Tryz.prog sp):jab Tryz.prog (sp_176 sp):=jag jzj h
end Go.Sh
end

section
namespace Go.Sx09
open Go Go.Proofs Go.RowKit Go.Shelf Go.Sx
attribute [local go_sem] jB
def jfv {B:Kd} {w:zs}:jbD B w:=⟨fun _ _ h=>(by cases h),jl6 (fun _=>rfl) B w⟩
def jfH {I:Env} {B:Kd} {N n0:Nat} {st:St} {a:Act} {w:zs} {t:Nat} {v:zt} (h:Rel I B N n0 st a w) (ht:jaT st.tm t=none) (hlt:t<N):Rel I B N n0 st (a.put (some t) v) w:=by
 refine⟨fun x u hx=>?_,by rw[jbv];exact h.size,by rw[jb6];exact h.defers,h.heap,h.le,h.n0⟩;have hne:x≠t:=fun e=>by subst e;rw[ht]at hx;cases hx
 rw[jbH (fun y hy=>by cases hy;rw[h.size];exact hlt),if_neg (fun e=>hne (ye e).symm)];exact h.tm x u hx
structure KpC (n1:Nat) (A C:zs):Prop where
 size:A.heap.size<=C.heap.size
 same:∀k o,n1<=k->A.heap[k]?=some o->o.isCells=true->C.heap[k]?=some o
def stL (y:zt) (L:List Int) (k:Nat):St :=⟨[(11,vi .i64 k),(10,vi .i64 5),(9,.w (.c (.o 0))),(0,.w (.c (.d (.v y))))],[(0,.ext (.ints .i64 L))],1⟩
def stB (y:zt) (b0 b1 b2 a0 a1:Int):St :=⟨[(11,vi .i64 0),(10,vi .i64 5),(9,.w (.c (.o 1))),(0,.w (.c (.d (.v y))))],[(1,.row 3 (.ints .i64 [b0,b1,b2,a0,a1])),(0,.box 148 [.d (.i .i64 b0),.d (.i .i64 b1),.d (.i .i64 b2),.d (.i .i64 a0),.d (.i .i64 a1)])],2⟩
structure Bet (Far:zs->Nat->Prop) (y:zt) (L:List Int) (k:Nat) (a:Act) (w:zs):Prop where
 rel:∃I,Rel I (kd fun x=>x<w.heap.size) 22 1 (stL y L k) a w∧∀ad n cap,I 0=.slice (some ad) n cap->Far w ad.block
def jBq {v:zt} {c:Cont} {A C:zs} (h:jaQ A v c) (he:0<c.e) (hv:∀ad n cap,v=.slice (some ad) n cap->∀o,A.heap[ad.block]?=some o->o.isCells=true->C.heap[ad.block]?=some o):jaQ C v c:=by
 obtain⟨a,cap,rfl,hc,hcells⟩:=h;refine⟨a,cap,rfl,hc,fun hn=>?_⟩;obtain⟨b,off,rfl,hx⟩:=hcells hn;refine⟨b,off,rfl,fun j x hj=>?_⟩;have h1:=hx j x hj;obtain⟨o,ho,hoc⟩:=cells_of_cell h1;have h2:=hv _ _ _ rfl o ho hoc;have ho':A.heap[b]?=some o:=ho;exact(qX (w:=A) (w':=C) (a:=⟨b,off+j,none⟩) (h2.trans ho'.symm)).trans h1
def jkQ {c:Code} {N n0:Nat} {st st2:St} {I:Env} {a:Act} {w:zs} (hr:Rel I (kd fun x=>x<w.heap.size) N n0 st a w)
  (h:sx Tryz.prog (fun _=>none) N n0 0 (fun _ _ _=>none) (fun _ _ _=>False) c 0 [] st (fun e st'=>match e with | .normal=>Le n0 st' st2|_=>False)) :
  c.wp Tryz.prog (fun e a' w'=>e=.normal∧w.grownBy w' none∧∃I',Rel I' (kd fun x=>x<w.heap.size) N n0 st2 a' w'∧jak n0 I I') a w:=by
 refine x7 (ja6 (fun _ _ _ h=>by cases h) (fun _ _ _ _ _ _ _ _ _ h=>h.elim) c 0 [] st _ I a w h hr (jak.refl _ _) (Bel.refl _ _)) ?_;rintro e a' w' ⟨ex,I',st',rfl,hk,hr',hag,hbl⟩;cases ex with
 |normal =>
  obtain⟨I2,hr2,hag2⟩:=Le.rel hk hr';exact⟨rfl,⟨hbl.os,hbl.tape,hbl.output,hbl.size,fun k hk _=>hbl.block k hk⟩,I2,hr2,fun x hx=>(hag2 x hx).trans (hag x hx)⟩
 |exit j=>exact hk.elim
 |ret=>exact hk.elim
def prs (L:List Int) (k:Nat):List (Nat × Int):=(List.range k).map fun j=>(j,L.getD j 0)
def jxo (L:List Int) (k:Nat):prs L (k+1)=prs L k++[(k,L.getD k 0)]:=by simp[prs,List.range_succ]
def jrV (L:List Int) (k:Nat):(prs L k).length=k:=by simp[prs]
def sub:List Nat->Code->Code|[],c=>c|0::p,.seq x _=>sub p x|_::p,.seq _ y=>sub p y|0::p,.cond _ x _=>sub p x|_::p,.cond _ _ y=>sub p y|_::p,.block _ c=>sub p c|_::p,.loop c=>sub p c|_,c=>c
def bodyOf (f:Func):Code:=f.body.getD .skip
abbrev pc (c:Code) (st st2:St):Prop:=sx Tryz.prog (fun _=>none) 22 1 0 (fun _ _ _=>none) (fun _ _ _=>False) c 0 [] st (fun e st'=>match e with | .normal=>Le 1 st' st2|_=>False)
def stC (y:zt) (L:List Int) (k:Nat):St:=⟨(12,vb (decide ((k:Int)<5)))::(stL y L k).tm,(stL y L k).hp,1⟩
def stD (y:zt) (L:List Int) (k:Nat):St:=⟨(4,vi .i64 (L.getD k 0))::(3,vi .i64 k)::(stL y L k).tm,(stL y L k).hp,1⟩
def pc1 (y:zt) (L:List Int) (k:Nat):pc (sub [1,0,0,0] (bodyOf Tryz.f185)) (stL y L k) (stC y L k):=by
 refine jK (by kernel_rfl:(Ob ((decide ((k:Int)<5))=decide ((k:Int)<5))∧Ob ((k:Int)=k)∧Ob ((5:Int)=5)∧Ob (y=y)∧Ob (L=L)∧True)=_) ?_;exact⟨⟨rfl⟩,⟨rfl⟩,⟨rfl⟩,⟨rfl⟩,⟨rfl⟩,trivial⟩
def pc2 (y:zt) (L:List Int) (k:Nat) (hk:k<L.length):pc (sub [1,0,0,1,1,0,0,0] (bodyOf Tryz.f185)) (stC y L k) (stD y L k):=by
 refine jK (by kernel_rfl:(Ob (0<=(k:Int)∧(k:Int)<(L.length:Int))∧Ob ((k:Int).toNat<L.length)∧Ob (L.getD (k:Int).toNat 0=L.getD k 0)∧Ob ((k:Int)=k)∧Ob ((k:Int)=k)∧Ob ((5:Int)=5)∧Ob (y=y)∧Ob (L=L)∧True)=_) ?_;exact⟨⟨by omega⟩,⟨by omega⟩,⟨rfl⟩,⟨rfl⟩,⟨rfl⟩,⟨rfl⟩,⟨rfl⟩,⟨rfl⟩,trivial⟩
def pc3 (y:zt) (L:List Int) (k:Nat) (hk:k<5):pc (sub [1,0,0,1,1,1] (bodyOf Tryz.f185)) (stL y L k) (stL y L (k+1)):=by
 refine jK (by kernel_rfl:(Ob (xd.wrap ((k:Int)+1)=((k+1:Nat):Int))∧Ob ((5:Int)=5)∧Ob (y=y)∧Ob (L=L)∧True)=_) ?_;refine⟨⟨?_⟩,⟨rfl⟩,⟨rfl⟩,⟨rfl⟩,trivial⟩;rw[fj _ (by omega)];omega
def jxp {I:Env} {B:Kd} {N n0:Nat} {st:St} {a:Act} {w:zs} {c:Cont} (h:Rel I B N n0 st a w) (hs:st.hp=[(0,.ext c)]) (he:0<c.e):Rel I (kd fun x=>x<w.heap.size) N n0 st a w:=by
 obtain⟨B',_,hh⟩:=h.heap;refine⟨h.tm,h.size,h.defers,⟨kd fun x=>x<w.heap.size,Grow.refl _ _ _ _,⟨fun x o hf=>?_,fun x o x' o' b hf hf' hne hb=>?_,jfv⟩⟩,fun k hk=>jbL.1 hk,h.n0⟩
 ·have h1:=hh.ok x o hf;refine⟨h1.1,h1.2.1,?_⟩;rw[hs]at hf;simp only[find]at hf;split at hf
  ·cases hf;exact⟨h1.2.2.1,h1.2.2.1.lt he⟩
  ·cases hf
 ·rw[hs]at hf;simp only[find]at hf;split at hf
  ·cases hf;cases hb
  ·cases hf
def jm7 {o:qx} {x:Operand} {n:Nat} {a:Act} {w:zs} {K:Act->zs->Prop} {Q:Exit->Act->zs->Prop} (ho:o.op=.move x) (h:K (a.put o.dst (a.eval x)) w):o.wpIn xG n Tryz.prog a w K Q:=by
 refine⟨fun _ _=>trivial,?_⟩
 have:((o.semAt xG.round a.eval).run Tryz.prog w)=.ok (.value (a.eval x)) w:=by
  rw[jq,jC];unfold qS;simp only[ho,zu]
 rw[this];exact h
def jd0 {y:zt} {L:List Int} {k t:Nat} (h:t≠11∧t≠10∧t≠9∧t≠0):jaT (stL y L k).tm t=none:=by
 simp only[stL,jaT];rw[if_neg (yQ h.1),if_neg (yQ h.2.1),if_neg (yQ h.2.2.1),if_neg (yQ h.2.2.2)]
set_option maxHeartbeats 2000000 in
def jC0 (n l:Nat) (Kp:zs->zs->Prop) (Far:zs->Nat->Prop)
  (hKF:∀{A C:zs} {k:Nat},Kp A C->Far A k->Far C k∧∀o,A.heap[k]?=some o->o.isCells=true->C.heap[k]?=some o)
  (hFg:∀{A B:zs} {k:Nat},A.grownBy B none->Far A k->Far B k) (L:List Int) (hL:L.length=5) (J Jx:List (Nat × Int)->zs->Prop)
  (hY:∀pre x W,J pre W->pre.length<5->x=(pre.length,L.getD pre.length 0)->YieldAt xG (n-1) Tryz.prog l #[.int .i64 (x.1:Int),.int .i64 x.2] W fun e W' =>
   (e=.returned (.bool true)∧J (pre++[x]) W'∧Kp W W')∨(e=.returned (.bool false)∧Jx (pre++[x]) W'))
  (hJ:∀A B pre,J pre A->A.grownBy B none->J pre B) (a:Act) (w:zs) (hb:Bet Far (.func (.yield l) #[] #[]) L 0 a w) (hj0:J (prs L 0) w) :
  (sub [1] (bodyOf Tryz.f185)).wpIn xG n Tryz.prog (bodyPost Tryz.prog Tryz.f185 fun e W'=>(∃v,e=.returned v) ∧
   ((∃ys,ys=prs L 5∧J ys W')∨(∃pre,(∃k,k<=5∧pre=prs L k)∧Jx pre W'))) a w:=by
 refine fA (wpIn_loop (fun a w=>∃k,k<=5∧Bet Far (.func (.yield l) #[] #[]) L k a w∧J (prs L k) w) (fun a _=>5-(f8 (a.tmps.getD 11 zX)).toNat) ⟨0,by omega,hb,hj0⟩ ?_);rintro a w ⟨k,hk,⟨I,hr,hge⟩,hj⟩
 have hmu:(f8 (a.tmps.getD 11 zX)).toNat=k:=by
  rw[(hr.tm 11 _ rfl).2];simp[f8]
 rw[hmu];refine yx (wpIn_wide.2 (x7 (jkQ hr (pc1 _ L k)) ?_));rintro e a1 w1 ⟨rfl,hg1,I1,hr1,hag1⟩;have hj1:=hJ _ _ _ hj hg1;have hc:a1.eval (.tmp 12)=.bool (decide ((k:Int)<5)):=(hr1.tm 12 _ rfl).2
 by_cases hlt:k<5
 ·refine yx (jR (by rw[hc,decide_eq_true (by omega)]) (fm ?_));refine yx (fA (yx (wpIn_wide.2 (x7 (jkQ (jxp hr1 rfl (zp 0)) (pc2 _ L k (by omega))) ?_))));rintro e a2 w2 ⟨rfl,hg2,I2,hr2,hag2⟩;have hj2:=hJ _ _ _ hj1 hg2;obtain⟨fn,tmps,assign,body,hy,hR⟩:=hY (prs L k) (k,L.getD k 0) w2 hj2 (by rw[jrV];exact hlt) (by rw[jrV])
  have hr2L:Rel I2 (kd fun x=>x<w2.heap.size) 22 1 (stL (.func (.yield l) #[] #[]) L k) a2 w2:=by
   have:=jxp hr2 (c:=.ints .i64 L) rfl (zp 0);refine⟨fun t v hv=>this.tm t v ?_,this.size,this.defers,this.heap,this.le,this.n0⟩;have hne:t≠4∧t≠3:=⟨(fun e=>by subst e;rw[jd0 (by decide)]at hv;cases hv),(fun e=>by subst e;rw[jd0 (by decide)]at hv;cases hv)⟩
   show jaT ((4,_)::(3,_)::_) t=some v
   simp only[jaT];rw[if_neg (yQ hne.1),if_neg (yQ hne.2)];exact hv
  have e3:a2.tmps.getD 3 zX=.int .i64 k:=(hr2.tm 3 _ rfl).2;have e4:a2.tmps.getD 4 zX=.int .i64 (L.getD k 0):=(hr2.tm 4 _ rfl).2;have e0:a2.tmps.getD 0 zX=.func (.yield l) #[] #[]:=(hr2.tm 0 _ rfl).2;have hge2:∀ad n cap,I2 0=.slice (some ad) n cap->Far w2 ad.block:=fun ad n cap h=>hFg hg2 (hFg hg1 (hge ad n cap (by rw[<-hag1 0 (zp 0),<-hag2 0 (zp 0)];exact h)));refine yx (gL ?_);refine xx rfl fun K hK=>jm7 rfl (hK _ _ ?_);refine xx rfl fun K hK=>jm7 rfl (hK _ _ ?_);refine xx rfl fun K hK=>jm7 rfl (hK _ _ ?_);have hsz:a2.tmps.size=22:=hr2L.size;obtain⟨a3,ha3⟩:∃a3,a3=((a2.put (some 16) (a2.eval (.tmp 0))).put (some 17) ((a2.put (some 16) (a2.eval (.tmp 0))).eval (.tmp 3))).put (some 18) (((a2.put (some 16) (a2.eval (.tmp 0))).put (some 17) ((a2.put (some 16) (a2.eval (.tmp 0))).eval (.tmp 3))).eval (.tmp 4)):=⟨_,rfl⟩
  have hr3:Rel I2 (kd fun x=>x<w2.heap.size) 22 1 (stL (.func (.yield l) #[] #[]) L k) a3 w2:=by
   rw[ha3];exact jfH (jfH (jfH hr2L (jd0 (by decide)) (by decide)) (jd0 (by decide)) (by decide)) (jd0 (by decide)) (by decide)
  have g16:a3.eval (.tmp 16)=.func (.yield l) #[] #[]:=by
   rw[ha3]
   show(jA _ (some 18) _).tmps.getD 16 zX=_
   rw[jbH (fun x hx=>by cases hx;simp[jbv,hsz]),if_neg (by decide),jbH (fun x hx=>by cases hx;simp[jbv,hsz]),if_neg (by decide),jbH (fun x hx=>by cases hx;simp[hsz]),if_pos rfl];exact e0
  have g17:a3.eval (.tmp 17)=.int .i64 k:=by
   rw[ha3]
   show(jA _ (some 18) _).tmps.getD 17 zX=_
   rw[jbH (fun x hx=>by cases hx;simp[jbv,hsz]),if_neg (by decide),jbH (fun x hx=>by cases hx;simp[jbv,hsz]),if_pos rfl]
   show(jA _ (some 16) _).tmps.getD 3 zX=_
   rw[jbH (fun x hx=>by cases hx;simp[hsz]),if_neg (by decide)];exact e3
  have g18:a3.eval (.tmp 18)=.int .i64 (L.getD k 0):=by
   rw[ha3]
   show(jA _ (some 18) _).tmps.getD 18 zX=_
   rw[jbH (fun x hx=>by cases hx;simp[jbv,hsz]),if_pos rfl]
   show(jA _ (some 17) _).tmps.getD 4 zX=_
   rw[jbH (fun x hx=>by cases hx;simp[jbv,hsz]),if_neg (by decide),jbH (fun x hx=>by cases hx;simp[hsz]),if_neg (by decide)];exact e4
  have hsz3:a3.tmps.size=22:=hr3.size;rw[<-ha3];clear ha3;refine xx rfl fun K hK=>⟨fun _ _=>trivial,?_⟩
  have hcall:∀o:qx,o.op=.call { callee:=.value (.tmp 16),args:=#[.tmp 17,.tmp 18],argTypes:=#[3,3] }->((o.semAt xG.round a3.eval).run Tryz.prog w2)=.ok (.round l fn tmps assign body) w2:=by
   intro o ho;rw[jq,jC];unfold qS;simp only[ho,resolve,g16,gJ,zr,zu,zn,invoke,x5,zJ,xb,g17,g18];exact hy
  rw[hcall _ rfl];refine⟨(fun h=>by cases h),hR.mono ?_⟩
  have hnot:∀(o:qx) (b:Bool) (w3:zs),o.op=.unOp .not 4 (.tmp 19)->((o.semAt xG.round (a3.put (some 19) (.bool b)).eval).run Tryz.prog w3)=.ok (.value (.bool !b)) w3:=by
   intro o b w3 ho
   have h19:(a3.put (some 19) (.bool b)).eval (.tmp 19)=.bool b:=by
    show(jA _ (some 19) _).tmps.getD 19 zX=_
    rw[jbH (fun x hx=>by cases hx;simp[hsz3]),if_pos rfl]
   rw[jq,jC];unfold qS;simp only[ho,h19];rfl
  have h20:∀b,((a3.put (some 19) (.bool b)).put (some 20) (.bool !b)).eval (.tmp 20)=.bool !b:=fun b=>by
   show(jA _ (some 20) _).tmps.getD 20 zX=_
   rw[jbH (fun x hx=>by cases hx;simp[jbv,hsz3]),if_pos rfl]
  have hr5:∀b,Rel I2 (kd fun x=>x<w2.heap.size) 22 1 (stL (.func (.yield l) #[] #[]) L k) ((a3.put (some 19) (.bool b)).put (some 20) (.bool !b)) w2:=fun b =>
   jfH (jfH hr3 (jd0 (by decide)) (by decide)) (jd0 (by decide)) (by decide)
  rintro e w3 (⟨rfl,hj3,hk3⟩|⟨rfl,hj3⟩)
  ·refine hK _ _ (xx rfl fun K hK=>⟨fun _ _=>trivial,?_⟩);rw[hnot _ true w3 rfl];refine hK _ _ (jS ?_);refine jD (h20 true) (fm ?_);have h5:=hr5 true;obtain⟨B2,_,hh2⟩:=hr2L.heap;have hrow3:jaQ w3 (I2 0) (.ints .i64 L):=jBq (hh2.ok 0 _ rfl).2.2.1 (zp 0) fun ad n cap h=>(hKF hk3 (hge2 ad n cap h)).2
   have h6:Rel I2 (kd fun x=>x<w3.heap.size) 22 1 (stL (.func (.yield l) #[] #[]) L k) ((a3.put (some 19) (.bool true)).put (some 20) (.bool !true)) w3:=by
    refine⟨h5.tm,h5.size,h5.defers,⟨kd fun x=>x<w3.heap.size,Grow.refl _ _ _ _,⟨fun x o hf=>?_,fun x o x' o' b hf hf' hne hb=>?_,jfv⟩⟩,fun k hk=>jbL.1 hk,h5.n0⟩
    ·simp only[stL,find]at hf;split at hf
     ·rename_i e;subst e;cases hf;exact⟨zp 0,trivial,hrow3,hrow3.lt (zp 0)⟩
     ·cases hf
    ·simp only[stL,find]at hf;split at hf
     ·cases hf;cases hb
     ·cases hf
   refine wpIn_wide.2 (x7 (jkQ h6 (pc3 _ L k hlt)) ?_);rintro e a7 w7 ⟨rfl,hg7,I7,hr7,hag7⟩;refine⟨⟨k+1,by omega,⟨I7,jxp hr7 (c:=.ints .i64 L) rfl (zp 0),fun ad n cap h=>hFg hg7 (hKF hk3 (hge2 ad n cap (by rw[<-hag7 0 (zp 0)];exact h))).1⟩,?_⟩,?_⟩
   ·rw[jxo];exact hJ _ _ _ hj3 hg7
   ·rw[(hr7.tm 11 _ rfl).2];simp[f8];omega
  ·refine hK _ _ (xx rfl fun K hK=>⟨fun _ _=>trivial,?_⟩);rw[hnot _ false w3 rfl];refine hK _ _ (jS ?_);refine jR (h20 false) (wpIn_ret ?_);refine⟨(hr5 false).defers,.tuple #[],jT rfl _ _ _,⟨_,rfl⟩,.inr ⟨_,⟨k+1,by omega,rfl⟩,?_⟩⟩;rw[jxo];exact hj3
 ·have hk5:k=5:=by omega
  subst hk5;refine yx (jD (by rw[hc,decide_eq_false (by omega)]) (wpIn_exit ?_));refine⟨hr1.defers,.tuple #[],?_,⟨_,rfl⟩,.inl ⟨_,rfl,hj1⟩⟩;exact jT rfl _ _ _
set_option maxHeartbeats 2000000 in
def jEM (n l Bs:Nat) (Kp:zs->zs->Prop) (Far:zs->Nat->Prop)
  (hKF:∀{A C:zs} {k:Nat},Kp A C->Far A k->Far C k∧∀o,A.heap[k]?=some o->o.isCells=true->C.heap[k]?=some o)
  (hFg:∀{A B:zs} {k:Nat},A.grownBy B none->Far A k->Far B k) (b0 b1 b2 a0 a1:Int) (J Jx:List (Nat × Int)->zs->Prop)
  (hY:∀pre x W,J pre W->pre.length<5->x=(pre.length,[b0,b1,b2,a0,a1].getD pre.length 0)->YieldAt xG (n-1) Tryz.prog l #[.int .i64 (x.1:Int),.int .i64 x.2] W fun e W' =>
   (e=.returned (.bool true)∧J (pre++[x]) W'∧Kp W W')∨(e=.returned (.bool false)∧Jx (pre++[x]) W'))
  (W:zs) (hF0:∀B g,W.grownBy B none->W.heap.size<=g->g<B.heap.size->Far B g) (hJ:AbidesFrom W.heap.size J) (hBs:W.heap[Bs]?=some (.cells #[.int .i64 b0,.int .i64 b1,.int .i64 b2,.int .i64 a0,.int .i64 a1] 148 (0,0))) (h0:J [] W) :
  fF xG n Tryz.prog 185 #[.func (.yield l) #[] #[],.pointer (some ⟨Bs,0,none⟩)] W fun e W'=>(∃v,e=.returned v) ∧
   ((∃ys,ys=prs [b0,b1,b2,a0,a1] 5∧J ys W')∨(∃pre,(∃k,k<=5∧pre=prs [b0,b1,b2,a0,a1] k)∧Jx pre W')):=by
 refine gC Tryz.func185 rfl trivial ?_ rfl;refine yx (wpIn_wide.2 ?_);have hBlt:Bs<W.heap.size:=(zH.1 hBs).1
 let I:Env:=fun _=>.pointer (some ⟨Bs,0,none⟩)
 let y:zt:=.func (.yield l) #[] #[]
 have hsp:jab Tryz.prog (fun _=>none):=fun _ _ _ h=>by cases h
 refine jb1 (N:=22) (n0:=1) (B:=kd fun k=>k<W.heap.size∧k≠Bs) (I0:=I) (w0:=W) (st:=⟨[(0,.w (.c (.d (.v y)))),(1,.w (.c (.p 0 0 1 0)))],[(0,.box 148 [.d (.i .i64 b0),.d (.i .i64 b1),.d (.i .i64 b2),.d (.i .i64 a0),.d (.i .i64 a1)])],1⟩)
  (k:=fun st=>Le 1 st (stB y b0 b1 b2 a0 a1)) (by kernel_rfl) hsp (ds:=[]) _ _ I _ _ _ ?vc ?rel (jak.refl _ _) (Bel.refl _ _) ?next
 case vc =>
  refine jK (by kernel_rfl:(Ob True∧Ob True∧Ob (0<3∧0<2∧(3+2)*8<=140737488355328∧3+2<=9223372036854775807) ∧
   Le 1 ⟨[(11,vi .i64 0),(10,vi .i64 5),(9,.w (.c (.o 3))),(8,.w (.c (.o 2))),(7,.w (.c (.p 0 0 1 3))),(6,.w (.c (.o 1))),(5,.w (.c (.p 0 0 1 0))),(0,.w (.c (.d (.v y)))),(1,.w (.c (.p 0 0 1 0)))],[(3,.row 3 (.ints .i64 [b0,b1,b2,a0,a1])),(2,.view 0 (.ints .i64 [a0,a1]) true),(1,.view 0 (.ints .i64 [b0,b1,b2]) true),(0,.box 148 [.d (.i .i64 b0),.d (.i .i64 b1),.d (.i .i64 b2),.d (.i .i64 a0),.d (.i .i64 a1)])],4⟩ (stB y b0 b1 b2 a0 a1))=_) ?_
  refine⟨⟨trivial⟩,⟨trivial⟩,⟨by decide⟩,?_⟩;refine jK (by kernel_rfl:((Ob ((0:Int)=0)∧Ob ((5:Int)=5)∧Ob (y=y)∧Ob ([b0,b1,b2,a0,a1]=[b0,b1,b2,a0,a1])∧Ob (b0=b0)∧Ob (b1=b1)∧Ob (b2=b2)∧Ob (a0=a0)∧Ob (a1=a1)∧True))=_) ?_;exact⟨⟨rfl⟩,⟨rfl⟩,⟨rfl⟩,⟨rfl⟩,⟨rfl⟩,⟨rfl⟩,⟨rfl⟩,⟨rfl⟩,⟨rfl⟩,trivial⟩
 case rel =>
  refine jfF (N:=22) (n0:=1) (args:=[.w (.c (.d (.v y))),.w (.c (.p 0 0 1 0))]) (zh rfl) (fun x hx=>?_) (zq _) I W ⟨fun x o hf=>?_,fun x o x' o' b hf hf' hne hb=>?_,jfv⟩ (fun k hk=>(jbL.1 hk).1)
  ·simp only[qu,gM,or_false]at hx;rcases hx with rfl|rfl
   ·trivial
   ·exact zp 0
  ·simp only[find]at hf;split at hf
   ·rename_i e;subst e;cases hf;exact⟨zp 0,(fun c hc=>by simp at hc;rcases hc with rfl|rfl|rfl|rfl|rfl<;>trivial),Bs,rfl,fun h=>(jbL.1 h).2 rfl,hBs⟩
   ·cases hf
  ·simp only[find]at hf hf';split at hf
   ·rename_i e;subst e;rw[if_neg hne]at hf';cases hf'
   ·cases hf
 case next =>
  rintro I1 st1 a1' w1 hr1 hag1 hbl1 hle;obtain⟨I2,hr2,hag2⟩:=hle.rel hr1;obtain⟨B',g',hh2⟩:=hr2.heap;have hbk:I2 0=.pointer (some ⟨Bs,0,none⟩):=(hag2 0 (zp 0)).trans (hag1 0 (zp 0))
  have hgr:W.grownBy w1 none:=by
   refine⟨hbl1.os,hbl1.tape,hbl1.output,hbl1.size,fun k hk _=>?_⟩
   by_cases e:k=Bs
   ·subst e;obtain⟨_,_,g,hg,_,hheap⟩:=hh2.ok 0 _ rfl;rw[hbk]at hg
    have e:g=k:=by
     have:some (⟨k,0,none⟩:Addr)=some ⟨g,0,none⟩:=kB hg;cases this;rfl
    subst e;rw[hheap,hBs];rfl
   ·exact hbl1.block k ⟨hk,e⟩
  have hJ1:J (prs [b0,b1,b2,a0,a1] 0) w1:=hJ [] W w1 none h0 hgr (fun r e=>by cases e)
  have hge:∀g,(I2 1).ownBlock=some g->Far w1 g:=fun g hg=>by
   refine hF0 _ _ hgr ?_ (O.blk_lt (hh2.ok 1 _ rfl).2.2 hg).1;have h3:=(hh2.ok 1 _ rfl).2.2.2 g hg;have hne:g≠Bs:=fun e=>hh2.apart 1 _ 0 _ g rfl rfl (by decide) hg (by rw[hbk,e];rfl);have:¬g<W.heap.size:=fun hl=>h3 (.inl (g'.le.kp g ⟨hl,hne⟩));omega
  have hrow:jaQ w1 (I2 1) (.ints .i64 [b0,b1,b2,a0,a1]):=jcc (hh2.ok 1 _ rfl).2.2 rfl
  have hbet:Bet Far y [b0,b1,b2,a0,a1] 0 a1' w1:=by
   refine⟨fun _=>I2 1,⟨fun t v hv=>?_,hr2.size,hr2.defers,⟨kd fun x=>x<w1.heap.size,Grow.refl _ _ _ _,⟨fun x o hf=>?_,fun x o x' o' b hf hf' hne hb=>?_,jfv⟩⟩,fun k hk=>jbL.1 hk,zq _⟩,fun ad n cap hv=>hge _ (by have hv':I2 1=_:=hv;rw[hv'];rfl)⟩
   ·simp only[stL,jaT]at hv;split at hv
    ·rename_i e;subst e;cases hv;exact⟨trivial,(hr2.tm 11 _ rfl).2⟩
    ·split at hv
     ·rename_i e;subst e;cases hv;exact⟨trivial,(hr2.tm 10 _ rfl).2⟩
     ·split at hv
      ·rename_i e;subst e;cases hv;exact⟨zp 0,(hr2.tm 9 _ rfl).2⟩
      ·split at hv
       ·rename_i e;subst e;cases hv;exact⟨trivial,(hr2.tm 0 _ rfl).2⟩
       ·cases hv
   ·simp only[stL,find]at hf;split at hf
    ·rename_i e;subst e;cases hf;exact⟨zp 0,trivial,hrow,hrow.lt (zp 0)⟩
    ·cases hf
   ·simp only[stL,find]at hf;split at hf
    ·cases hf;cases hb
    ·cases hf
  clear hr2 hr1 hbk hge hrow;have hge1:1<=1:=zq 1;exact jC0 n l Kp Far hKF hFg [b0,b1,b2,a0,a1] rfl J Jx hY (fun A B pre hj hg=>hJ pre A B none hj hg (fun r e=>by cases e)) a1' w1 hbet hJ1
end Go.Sx09
end

section
namespace Go.Sx09
open Go Go.Proofs Go.RowKit Go.Shelf Go.Sx Go.Sh
open Go.IntKind (wrap)
attribute [local go_sem] jB
def partB (n:Int):Bool:=decide (-32768<=n)&&decide (n<=32768)
def chkS (b0 b1 b2 a0 a1:Int):Int:=if[b0,b1,b2,a0,a1].all partB=true then 0 else 2
abbrev jd1 (b0 b1 b2 a0 a1:Int):Array zt:=#[.int .i64 b0,.int .i64 b1,.int .i64 b2,.int .i64 a0,.int .i64 a1]
set_option maxHeartbeats 2000000 in
def jEN (n:Nat) (b0 b1 b2 a0 a1:Int) (w:zs) :
  fF xG n Tryz.prog 182 #[.agg (jd1 b0 b1 b2 a0 a1)] w fun e w'=>e=.returned (.func (.func 185) #[] #[.pointer (some ⟨w.heap.size,0,none⟩)])∧w'=w.alloc (.cells (jd1 b0 b1 b2 a0 a1) 148):=by
 refine gC Tryz.func182 rfl trivial ?_ rfl;simp only[Tryz.ntmps182,xr,zC,qa,gD,gE,jh,ji,jU,jv,qT,qq]
 gi_wp2
 go_ret
 exact⟨rfl,rfl⟩
def juI (n:Int):jdZ n=some (partB n):=by
 have e:wrap xd ((0:Int)-32768)=-32768:=by decide
 unfold jdZ jcM jdv partB;simp only[e]
 by_cases h:-32768<=n
 ·simp[h]
 ·simp[h]
def jxq (n:Int) (w:zs):Calls Tryz.prog 183 #[.int .i64 n] w fun e w'=>e=.returned (.bool (partB n))∧x8 w.heap.size w w':=by
 have h:=(jzh.sound Tryz.func183 (rfl:Tryz.f183.body=some (Tryz.f183.body.getD .skip)) (by kernel_rfl)).sound (fun _=>zX) (kd fun k=>k<w.heap.size) w [.w (.c (.d (.i .i64 n)))] [] 0 _ rfl (jGz (juI n)) (fun x hx=>by
  simp only[zZ]at hx;subst hx;trivial) ⟨(fun _ _ h=>by cases h),(fun _ _ _ _ _ h=>by cases h),jfv⟩ (fun _ h=>jbL.1 h)
 refine h.mono ?_;rintro e w' ⟨I',rfl,hl⟩;refine⟨?_,hl.mono rfl⟩
 show Ending.returned (.bool (val (jdZ n)))=_
 rw[juI];rfl
def jC1 (W:zs) (v:zt) (t:TypeId):(W.alloc (.cells #[v] t)).cell? ⟨W.heap.size,0,none⟩=some v∧(W.alloc (.cells #[v] t)).frozen? ⟨W.heap.size,0,none⟩=false:=by
 have h:(W.alloc (.cells #[v] t)).heap[W.heap.size]?=some (.cells #[v] t (0,0)):=World.alloc_heap_new W (.cells #[v] t);constructor
 ·unfold fk;dsimp only;rw[h];rfl
 ·unfold ke;dsimp only;rw[h];rfl
def jzk {W:zs} {a:Addr} {v:zt} (o:Obj) (h:W.cell? a=some v):(W.alloc o).cell? a=some v:=cell_kept h (fq W o none) (fun r e=>by cases e)
def jvq {W:zs} {a:Addr} {v:zt} (o:Obj) (h:W.cell? a=some v) (hf:W.frozen? a=false):(W.alloc o).frozen? a=false:=(frozen_kept h (fq W o none) (fun r e=>by cases e)).trans hf
def kpc_t {n1:Nat} {A B C:zs} (h:KpC n1 A B) (k:KpC n1 B C):KpC n1 A C:=⟨qN h.size k.size,fun x o hx ho hc=>k.same x o hx (h.same x o hx ho hc) hc⟩
def kpc_b {n1:Nat} {w:zs} (W:zs) (l:Nat) (o o':Obj) (_:w.heap.size<=l) (h:W.heap[l]?=some o) (hc:o.isCells=false) (_:o.isWalk=false):KpC n1 W (W.putObj l o') :=
 ⟨by simp,fun k u _ hk hu=>by
  have hne:l≠k:=fun e=>by subst e;rw[h]at hk;cases hk;rw[hc]at hu;cases hu
  exact(World.putObj_heap_other (fun e=>hne e.symm)).trans hk⟩
def jC2 {n1:Nat} {A B:zs} (h:x8 A.heap.size A B):KpC n1 A B:=⟨h.size,fun k o _ hk _=>(h.block k (zH.1 hk).1).trans hk⟩
def jpt {A B:zs} (h:x8 A.heap.size A B):KeepsOthers A B:=⟨h.size,fun k o hk _=>(h.block k (zH.1 hk).1).trans hk⟩
def jAa {b0 b1 b2 a0 a1:Int}:(prs [b0,b1,b2,a0,a1] 5).map (·.2)=[b0,b1,b2,a0,a1]:=rfl
def jGV {b0 b1 b2 a0 a1:Int} {k:Nat} (hk:k<=5) {x:Nat × Int} (hx:x∈prs [b0,b1,b2,a0,a1] k):x.2∈[b0,b1,b2,a0,a1]:=by
 have h1:x∈prs [b0,b1,b2,a0,a1] 5:=by
  simp only[prs,qm,List.mem_range]at hx ⊢;obtain⟨j,hj,e⟩:=hx;exact⟨j,by omega,e⟩
 rw[<-jAa];exact List.mem_map_of_mem h1
set_option maxHeartbeats 4000000 in
def jHU (b0 b1 b2 a0 a1:Int) (w:zs) :
  fF xG 9 Tryz.prog 179 #[.agg (jd1 b0 b1 b2 a0 a1)] w fun e w'=>e=.returned (.int .i64 (chkS b0 b1 b2 a0 a1))∧x8 w.heap.size w w':=by
 have h1:1<=9:=by omega
 have hro:xG.round=none:=rfl;refine callsIn_of_wp_marks Tryz.func179 rfl trivial ?_ hro;simp only[Tryz.ntmps179,xr,zC,qa,gD,gE,jh,ji,jU,jv,qT,qq]
 gi_wp2_with (refine⟨trivial,?_⟩;gi_at_call 182;refine(jEN _ b0 b1 b2 a0 a1 _).mono ?_;rintro e w' ⟨rfl,rfl⟩)
 have c0:(w.alloc (.cells (jd1 b0 b1 b2 a0 a1) 148)).heap.size=w.heap.size+1:=fO _ _;have c1:=jC1 (w.alloc (.cells (jd1 b0 b1 b2 a0 a1) 148)) (.int .i64 0) 27;rw[c0]at c1;have hB0:x8 w.heap.size w (((w.alloc (.cells (jd1 b0 b1 b2 a0 a1) 148)).alloc (.cells #[.int .i64 0] 27)).alloc (.cells (jd1 b0 b1 b2 a0 a1) 148)):=(((xz _ w).alloc (zq _) _).alloc (by simp) _).alloc (by simp;omega) _;obtain⟨w2,hw2⟩:∃w2,((w.alloc (.cells (jd1 b0 b1 b2 a0 a1) 148)).alloc (.cells #[.int .i64 0] 27)).alloc (.cells (jd1 b0 b1 b2 a0 a1) 148)=w2:=⟨_,rfl⟩
 have hs2:w2.heap.size=w.heap.size+3:=by rw[<-hw2];simp
 have hc2:w2.cell? ⟨w.heap.size+1,0,none⟩=some (.int .i64 0):=by rw[<-hw2];exact jzk _ c1.1
 have hf2:w2.frozen? ⟨w.heap.size+1,0,none⟩=false:=by rw[<-hw2];exact jvq _ c1.1 c1.2
 have hh2:w2.heap[w.heap.size+1+1]?=some (.cells (jd1 b0 b1 b2 a0 a1) 148 (0,0)):=by
  rw[<-hw2];have:=World.alloc_heap_new ((w.alloc (.cells (jd1 b0 b1 b2 a0 a1) 148)).alloc (.cells #[.int .i64 0] 27)) (.cells (jd1 b0 b1 b2 a0 a1) 148);rw[fO,c0]at this;exact this
 rw[hw2]at hB0 ⊢
 refine wpIn_rangeFunc_ownF hro h1 (gf:=185) (lb:=#[.pointer (some ⟨w.heap.size+1+1,0,none⟩)]) rfl trivial (enters_of Tryz.func185 (by kernel_rfl) rfl)
  (α:=Nat × Int) (encs:=fun x=>#[.int .i64 (x.1:Int),.int .i64 x.2]) (Kp:=KpC w2.heap.size) (S:=fun ys=>ys=prs [b0,b1,b2,a0,a1] 5) (Sp:=fun pre=>∃k,k<=5∧pre=prs [b0,b1,b2,a0,a1] k) (N:=5) (w0:=w2)
  (fun l J Jx W hW hJ hJx hY h0=>jEM _ l (w.heap.size+1+1) (KpC w2.heap.size) (fun _ k=>w2.heap.size<=k) (fun h hk=>⟨hk,fun o ho hc=>h.same _ o hk ho hc⟩) (fun _ h=>h) b0 b1 b2 a0 a1 J Jx (fun pre x W hp hl _=>hY pre x W hp hl) W (fun _ g _ hg _=>qN hW.size hg) hJ ((hW.block _ (by omega)).trans hh2) h0) kpc_t kpc_b (xz _ _) (fun _=>rfl)
  (fun pre W=>((∀y∈pre,partB y.2=true)∧W.cell? ⟨w.heap.size+1,0,none⟩=some (.int .i64 0)∧W.frozen? ⟨w.heap.size+1,0,none⟩=false)∧x8 w.heap.size w W)
  (fun c pre W=>(c=.ret∧(∃y∈pre,partB y.2=false)∧W.cell? ⟨w.heap.size+1,0,none⟩=some (.int .i64 2))∧x8 w.heap.size w W)
  (OwnFrom.and (Own.from (fun s A B row hs hg hr=>⟨hs.1,cell_kept hs.2.1 hg hr,(frozen_kept hs.2.1 hg hr).trans hs.2.2⟩) _) (ownFrom_below (zq _) (by omega)))
  (fun c=>OwnFrom.and (Own.from (fun s A B row hs hg hr=>⟨hs.1,hs.2.1,cell_kept hs.2.2 hg hr⟩) _) (ownFrom_below (zq _) (by omega)))
  ⟨⟨by simp,hc2,hf2⟩,hB0⟩
  (fun x=>{ tmps:=#[kD (jd1 b0 b1 b2 a0 a1),xf (some { block:=w.heap.size,off:=0 }),xf (some { block:=w.heap.size+1,off:=0 }),zX,.int .i64 x.2,kD (jd1 b0 b1 b2 a0 a1),.func (.func 185) #[] #[.pointer (some ⟨w.heap.size+1+1,0,none⟩)],.int .i64 (x.1:Int),.int .i64 x.2,zX,zX,zX],defers:=[] }) ?assign ?body ?done ?stop
 case assign =>
  intro l x W K hK
  gi_wp2
  exact hK
 case body =>
  rintro l pre x W ⟨⟨hp,hcr,hfr⟩,hB⟩ _;have hlt:w.heap.size+1<W.heap.size:=qP W ⟨w.heap.size+1,0,none⟩ hcr
  gi_wp2_with (refine⟨trivial,?_⟩;gi_at_call 183;refine(CallsIn.inRound l (fG.2 (jxq x.2 W))).mono ?_;rintro e w' ⟨rfl,hBw⟩;have hcw:=(hBw.cell (p:=⟨w.heap.size+1,0,none⟩) hlt).trans hcr;have hfw:=(hBw.frozen (p:=⟨w.heap.size+1,0,none⟩) hlt).trans hfr)
  ·rename_i hx;have hB':x8 w.heap.size w w':=hB.trans (hBw.mono (by omega));exact⟨(jpt hBw).trans (KeepsOthers.setCell _ _ _),⟨rfl,⟨x,qK.2 (.inr (by simp)),by simpa using hx⟩,yF _ _ _ (by rw[hcw];rfl)⟩,hB'.setCell (p:=⟨w.heap.size+1,0,none⟩) (by simp) _⟩
  ·rename_i hx;have hB':x8 w.heap.size w w':=hB.trans (hBw.mono (by omega));exact⟨jpt hBw,jC2 hBw,⟨fun y hy=>(qK.1 hy).elim (hp y) (fun e=>by simp at e;subst e;simpa using hx),hcw,hfw⟩,hB'⟩
 case done =>
  rintro D ys W hD rfl ⟨⟨hne,hcr,hfr⟩,hB⟩ hK
  gi_wp2
  have hK':=(KeepsOthers.setCell W ⟨w.heap.size+1,0,none⟩ (.int .i64 0)).same D _ hK rfl;refine⟨by simp,.inl ⟨_,_,rfl,run_takeDeferred hK',?_⟩⟩;have hc5:=cell_kept (yF W ⟨w.heap.size+1,0,none⟩ (.int .i64 0) (by rw[hcr];rfl)) (grownBy_putObj' _ D (.deferred none)) (fun r e=>by cases e;exact⟨_,hK',rfl⟩)
  have hall:chkS b0 b1 b2 a0 a1=0:=by
   unfold chkS;rw[if_pos];rw[<-jAa,List.all_map];exact zx.2 fun y hy=>hne y hy
  refine⟨.int .i64 0,?_,by rw[hall],(hB.setCell (p:=⟨w.heap.size+1,0,none⟩) (by simp) _).trans (belowK_b (w:=w) (zq _) _ D _ _ (by omega) hK' rfl rfl)⟩;simp[results,Tryz.f179,go_sem,hc5]
 case stop =>
  rintro D c pre W hD ⟨k,hk,rfl⟩ ⟨⟨rfl,⟨y,hy,hpy⟩,hcr⟩,hB⟩ hK
  gi_wp2
  refine⟨by simp,.inl ⟨_,_,rfl,run_takeDeferred hK,?_⟩⟩;have hc5:=cell_kept hcr (grownBy_putObj' _ D (.deferred none)) (fun r e=>by cases e;exact⟨_,hK,rfl⟩)
  have hall:chkS b0 b1 b2 a0 a1=2:=by
   unfold chkS;rw[if_neg];intro h;have:=zx.1 h y.2 (jGV hk hy);rw[hpy]at this;cases this
  refine⟨.int .i64 2,?_,by rw[hall],hB.trans (belowK_b (w:=w) (zq _) W D _ _ (by omega) hK rfl rfl)⟩;simp[results,Tryz.f179,go_sem,hc5]
def toAs0 {I:Env} (w:zs) {args:List V} {as_:List A} (has:jiw [] args=some as_):(jdE 0 as_).map (V.val fun i=>(args[i]?.map (V.val I)).getD zX)=args.map (V.val I) :=(juz (I:=I) (B:=kd fun _=>False) (nx:=0) (hp:=[]) (w:=w) ⟨(fun _ _ h=>by cases h),(fun _ _ _ _ _ h=>by cases h),jfv⟩ args _ 0 (fun i=>(args[i]?.map (V.val I)).getD zX) has (fun i v hv=>by simp[hv])).1
def gCheckSection:List A->Option (Prop × List RV)|[.s [.i .i64 b0,.i .i64 b1,.i .i64 b2,.i .i64 a0,.i .i64 a1]]=>some (True,[.d (.i .i64 (chkS b0 b1 b2 a0 a1))])|_=>none
def jvr {f:Nat} {fn:Func} {body:Code} {g:List A->Option (Prop × List RV)} (hf:Tryz.prog.funcs[f]?=some fn) (hb:fn.body=some body) (hn:(fn.name == "runtime.NumGoroutine")=false)
  (h:∀(args:List V) (as_:List A) ob rs (I:Env) (w:zs),jiw [] args=some as_->g as_=some (ob,rs)->ob->Calls Tryz.prog f (args.map (V.val I)).toArray w fun e w'=>e=.returned ((jb8 (rvW 0 rs)).val I)∧x8 w.heap.size w w')
  (hd:∀as_ ob rs,g as_=some (ob,rs)->(∀a∈as_,∀c,a≠.r c)∧∀r∈rs,∀t c,r≠.row t c):jaf Tryz.prog f true (jvX g):=by
 refine .inl ⟨jdr hf hb hn,fun I B w args hp nx r hS hob hlt hh hB=>?_⟩;unfold jvX at hS;split at hS
 ·rename_i as_ has;split at hS
  ·rename_i ob rs hg;cases hS;obtain⟨h1,h2⟩:=hd as_ ob rs hg
   have has':∀(args:List V) (as_:List A),jiw hp args=some as_->(∀a∈as_,∀c,a≠.r c)->jiw [] args=some as_:=by
    intro args
    induction args with
    |nil=>intro as_ h _;exact h
    |cons v vs ih =>
     intro as_ h hno;simp only[jiw]at h ⊢;split at h
     ·rename_i a r ha hr;cases h
      have e1:toA [] v=some a:=by
       unfold toA at ha ⊢;split at ha
       ·exact ha
       ·exact ha
       ·exact ha
       ·split at ha
        ·split at ha
         ·cases ha
         ·cases ha;exact absurd rfl (hno _ zy _)
        ·cases ha
       ·cases ha
      rw[e1,ih r hr (fun a ha=>hno a (zw _ ha))]
     ·cases h
   have hrv:∀(rs:List RV) (n m:Nat) (hp:Hp),(∀r∈rs,∀t c,r≠.row t c)->rvW n rs=rvW m rs∧jix n rs hp=hp∧jer n rs=n∧∀x∈rvW n rs,W.lt n x:=by
    intro rs
    induction rs with
    |nil=>exact fun n m hp _=>⟨rfl,rfl,rfl,fun _ h=>by cases h⟩
    |cons r rs ih =>
     intro n m hp hno;have ih:=ih n m hp (fun r hr=>hno r (zw _ hr));cases r with
     |d x=>exact⟨by simp only[rvW,ih.1],ih.2.1,ih.2.2.1,fun u hu=>by
       rcases qu.1 hu with rfl|hu
       ·trivial
       ·exact ih.2.2.2 u hu⟩
     |s l=>exact⟨by simp only[rvW,ih.1],ih.2.1,ih.2.2.1,fun u hu=>by
       rcases qu.1 hu with rfl|hu
       ·intro y hy;obtain⟨z,_,rfl⟩:=qm.1 hy;trivial
       ·exact ih.2.2.2 u hu⟩
     |row t c=>exact absurd rfl (hno _ zy t c)
   refine(h args as_ ob rs I w (has' args as_ has h1) hg hob).mono ?_;rintro e w' ⟨rfl,hbl⟩;obtain⟨e1,e2,e3,e4⟩:=hrv rs nx 0 hp h2;refine⟨I,by rw[<-e1];rfl,jak.refl _ _,(?_:V.lt (jer nx rs) (jb8 (rvW nx rs))),(?_:nx<=jer nx rs),⟨B,Grow.refl _ _ _ _,(?_:HRel I B (jix nx rs hp) (jer nx rs) w')⟩,jc5 hbl hB,fun _=>hbl,fun _ h o k hle hf _=>?_⟩
   ·rw[e3];exact jgI e4
   ·rw[e3];exact zq _
   ·rw[e2,e3];exact hh.below hbl hB
   ·have hf:find (jix nx rs hp) h=some o:=hf;rw[e2]at hf;have:=(hh.ok h o hf).1;omega
  ·cases hS
 ·cases hS
def checkSection_ok:jaf Tryz.prog 179 true (jvX gCheckSection):=by
 refine jvr (fn:=Tryz.f179) (body:=bodyOf Tryz.f179) Tryz.func179 (by kernel_rfl) (by kernel_rfl) ?_ ?_
 ·intro args as_ ob rs I w has hg ho;unfold gCheckSection at hg;split at hg
  ·rename_i b0 b1 b2 a0 a1;cases hg
   have e:(args.map (V.val I)).toArray=#[.agg (jd1 b0 b1 b2 a0 a1)]:=by
    have hto:=toAs0 (I:=I) w has;rw[<-hto];rfl
   rw[e];refine(fG.1 (jHU b0 b1 b2 a0 a1 w)).mono ?_;rintro e w' ⟨rfl,h⟩;exact⟨rfl,h⟩
  ·cases hg
 ·intro as_ ob rs hg;unfold gCheckSection at hg;split at hg
  ·cases hg;refine⟨fun a ha c=>?_,fun r hr t c=>?_⟩
   ·simp only[zZ]at ha;subst ha;exact fun h=>by cases h
   ·simp only[zZ]at hr;subst hr;exact fun h=>by cases h
  ·cases hg
end Go.Sx09
namespace Go.Sh
open Go Go.Proofs Go.RowKit Go.Sx
abbrev sp_179:jaa->jaa:=jap 179 true (jvX Sx09.gCheckSection)
def sp_179_ok {sp:jaa} (h:jab Tryz.prog sp):jab Tryz.prog (sp_179 sp):=jag Sx09.checkSection_ok h
end Go.Sh
end

section
namespace Go.Sh
open Go Go.Proofs Go.RowKit Go.Sx
abbrev sp_123:jaa->jaa:=sp_123_124
def sp_123_ok {sp:jaa} (h:jab Tryz.prog sp):jab Tryz.prog (sp_123 sp):=sp_123_124_ok h
abbrev sp_125:jaa->jaa:=sp_125_126
def sp_125_ok {sp:jaa} (h:jab Tryz.prog sp):jab Tryz.prog (sp_125 sp):=sp_125_126_ok h
open Go.IntKind (wrap)
def jhf:List (Option Cont):=[some (.recs 5 [])]
def y98 (c:List (List Int)) (x0:Int):Option (Int ⊕ ((Int × Int) ⊕ Unit)) :=
 if x0<(↑c.length:Int)then if 0<=x0∧x0<(↑c.length:Int)then
  if zf x0<zb c then if(Sx09.chkS (za (za c x0.toNat []) 0 (0:Int)) (za (za c x0.toNat []) 1 (0:Int)) (za (za c x0.toNat []) 2 (0:Int)) (za (za c x0.toNat []) 3 (0:Int)) (za (za c x0.toNat []) 4 (0:Int))!=0)=true then some (.inr ((.inl ((x0,Sx09.chkS (za (za c x0.toNat []) 0 (0:Int)) (za (za c x0.toNat []) 1 (0:Int)) (za (za c x0.toNat []) 2 (0:Int)) (za (za c x0.toNat []) 3 (0:Int)) (za (za c x0.toNat []) 4 (0:Int)))))))
   else
   some (.inl (wrap .i64 (x0+1)))
  else none
  else none
 else some (.inr ((.inr ())))
def jlL (u5:Int × Int):Option (Int × Int) :=some (u5.1,u5.2)
def jlM (u10:Unit):Option (Int × Int) :=some (((0:Int),0))
def jgo:((Int × Int) ⊕ Unit)->Option (Int × Int) :=(qz (jlL) (jlM))
def jqo (c:List (List Int)):Option (Int × Int) :=
 if(↑c.length:Int)>6 then some (((0:Int),8))
 else ze (jae (y98 c) big (0:Int)) (jgo)
def y243:List A->Option (Prop × List RV)|[.r (.recs 5 c)]=>some (ok (jqo c),[.d (.i .i64 ((val (jqo c)).1)),.d (.i .i64 ((val (jqo c)).2))])|_=>none
abbrev sp_174:jaa->jaa:=jap 174 true (jat jhf y243)
abbrev jgp (c:List (List Int)) (r:Int × Int):Lp (Int × Nat) Int (((Int × Int) ⊕ Unit)) (Int × Int) (Int × Int) :=⟨fun z=>z.1,fun z=>z.2,fun z x n=>(x,n),fun z=>y98 c,fun z=>jgo,fun z=>top r,fun z=>0,[.c fun _=>(↑c.length:Int),.c fun vv=>vv.1,.c fun _=>c]⟩
def jqp (c:List (List Int)) (r:Int × Int):Sk (top r) (jqo c) :=.br
 (.obT (.obT (.rc)))
 (.loop (jgp c r) (fun kk=>((0:Int),big)) fun z0 =>
 .br
 (.ob (.ob (.obT (.brB
 (.exit (.obT (.obT (.rc))))
 (.next)))))
 (.exit (.obT (.obT (.rc)))))
def joB (c:List (List Int)) (r:Int × Int) (h:ze (jqo c) some=some r):ja4 Tryz.f174 ((sp_179 sp0)) (fun gs id _=>match id with
 |0=>some ⟨Int × Nat,fun z=>⟨[(10,.w (.c (.o 0))),(11,.w (.c (.d (.i .i64 ((↑c.length:Int)))))),(12,.w (.c (.d (.i .i64 z.1))))],[(0,.ext (.recs 5 c))],1⟩,fun z=>(jgp c r).inv z,fun z=>z.2⟩
 |_=>none) [.r (.recs 5 c)] [.d (.i .i64 r.1),.d (.i .i64 r.2)] :=
 Sk.vc (jqp c r) (by kernel_rfl) h
def joC:jaf Tryz.prog 174 true (jat jhf y243):=by
 refine jaA (sp:=(sp_179 sp0)) (fn:=Tryz.f174) (body:=bodyOf Tryz.f174) mixed (sp_179_ok jaj) Tryz.func174 (by kernel_rfl) (by kernel_rfl) fun as_ ob rs h ho=>?_;unfold y243 at h;split at h
 ·rename_i c;cases h;exact⟨zh rfl,_,_,joB c _ (jai ho)⟩
 ·cases h
def sp_174_ok {sp:jaa} (h:jab Tryz.prog sp):jab Tryz.prog (sp_174 sp):=jag joC h
def jjK:List (Option Cont):=[some (.recs 5 [])]
def y43 (c:List (List Int)):Option Int :=
 ze (jqo c) fun r0 =>
 some r0.2
def jeV:List A->Option (Prop × List RV)|[.r (.recs 5 c)]=>some (ok (y43 c),[.d (.i .i64 ((val (y43 c))))])|_=>none
abbrev sp_161:jaa->jaa:=jap 161 true (jat jjK jeV)
def jtr (c:List (List Int)) (r:Int):Sk (top r) (y43 c) :=.call (.obT (.rc))
def jrW (c:List (List Int)) (r:Int) (h:ze (y43 c) some=some r):ja4 Tryz.f161 ((sp_174 sp0)) (fun _ _ _=>none) [.r (.recs 5 c)] [.d (.i .i64 r)] :=Sk.vc (jtr c r) (by kernel_rfl) h
def jrX:jaf Tryz.prog 161 true (jat jjK jeV):=by
 refine jaA (sp:=(sp_174 sp0)) (fn:=Tryz.f161) (body:=bodyOf Tryz.f161) mixed (sp_174_ok jaj) Tryz.func161 (by kernel_rfl) (by kernel_rfl) fun as_ ob rs h ho=>?_;unfold jeV at h;split at h
 ·rename_i c;cases h;exact⟨zh rfl,_,_,jrW c _ (jai ho)⟩
 ·cases h
def sp_161_ok {sp:jaa} (h:jab Tryz.prog sp):jab Tryz.prog (sp_161 sp):=jag jrX h
def jm8:List (Option Cont):=[some (.recs 5 [])]
def y28 (c:List (List Int)):Option (List (List Int) × Int) :=
 ze (y43 c) fun r0 =>
 if(r0 != 0)=true then some ([],r0)
 else if 0<=(↑c.length:Int)∧(↑c.length:Int)=(↑c.length:Int)∧(↑(32:Nat):Int)*(↑c.length:Int)<=281474976710656∧(↑c.length:Int)<=9223372036854775807 then some ((zi (zf (↑c.length:Int)) [(0:Int),0,0,0],0))
  else none
def jhg:List A->Option (Prop × List RV)|[.r (.recs 5 c)]=>some (ok (y28 c),[.row 174 (.recs 4 ((val (y28 c)).1)),.d (.i .i64 ((val (y28 c)).2))])|_=>none
abbrev sp_130:jaa->jaa:=jap 130 true (jat jm8 jhg)
def jxr (c:List (List Int)) (r:List (List Int) × Int):Sk (top r) (y28 c) :=.call (.brB
 (.obT (.obT (.ret (fun r=>(Ob (zb r.1=(0:Nat)) ∧
 (Ob (val (y43 c)=r.2) ∧
 True))) ⟨⟨rfl⟩,⟨⟨rfl⟩,trivial⟩⟩)))
 (.ob (.obT (.obT (.rc)))))
def jvs (c:List (List Int)) (r:List (List Int) × Int) (h:ze (y28 c) some=some r):ja4 Tryz.f130 ((sp_161 sp0)) (fun _ _ _=>none) [.r (.recs 5 c)] [.row 174 (.recs 4 r.1),.d (.i .i64 r.2)] :=Sk.vc (jxr c r) (by kernel_rfl) h
def jvt:jaf Tryz.prog 130 true (jat jm8 jhg):=by
 refine jaA (sp:=(sp_161 sp0)) (fn:=Tryz.f130) (body:=bodyOf Tryz.f130) mixed (sp_161_ok jaj) Tryz.func130 (by kernel_rfl) (by kernel_rfl) fun as_ ob rs h ho=>?_;unfold jhg at h;split at h
 ·rename_i c;cases h;exact⟨zh rfl,_,_,jvs c _ (jai ho)⟩
 ·cases h
def sp_130_ok {sp:jaa} (h:jab Tryz.prog sp):jab Tryz.prog (sp_130 sp):=jag jvt h
def jiQ:List SV:=[.a [.d,.x (.st zS [])],.c (.d)]
def jdw (u4:zY) (u1:List (List NC)) (i:Int):Option Int :=
 if 0<=i∧i<(↑u1.length:Int)then if zf i<zb u1 then
  ze (jkI (nI u1 i.toNat (7:Nat)) u4 u1) fun r0 =>
  if(!r0)=true then if(nI u1 i.toNat (7:Nat)!=(-1:Int))=true then
   ze (jhc (nS u1 i.toNat (0:Nat))) fun r1 =>
   if(!r1)=true then some (4:Int)
   else if(nS u1 i.toNat (0:Nat)==qA #[(115:UInt8),(116:UInt8),(97:UInt8),(110:UInt8),(100:UInt8)])=true then some (4:Int)
    else
    if 0<=z5 none (0:Int)∧z5 none 0<=z5 (some i) (↑u1.length:Int)∧z5 (some i) (↑u1.length:Int)<=(↑u1.length:Int)then
     ze (y8 (yS (zf (z5 (some i) (↑u1.length:Int))-0) (yT (0:Nat) u1)) (nS u1 i.toNat (0:Nat)) (nI u1 i.toNat (1:Nat)) (nL u1 i.toNat (2:Nat)) (nL u1 i.toNat (3:Nat)) (nL u1 i.toNat (4:Nat)) (nI u1 i.toNat (5:Nat)) (nR u1 i.toNat (6:Nat)) (nI u1 i.toNat (7:Nat))) fun r2 =>
     if(r2)=true then
     some (5:Int)
     else
     ze (y54 (nI u1 i.toNat (1:Nat)) (0:Int) (4:Int)) fun r3 =>
     if(!r3)=true then some (15:Int)
     else
      ze (jc0 (nS u1 i.toNat (0:Nat)) (nI u1 i.toNat (1:Nat)) (nL u1 i.toNat (2:Nat)) (nL u1 i.toNat (3:Nat)) (nL u1 i.toNat (4:Nat)) (nI u1 i.toNat (5:Nat)) (nR u1 i.toNat (6:Nat)) (nI u1 i.toNat (7:Nat))) fun r4 =>
      if(!r4)=true then
      some (10:Int)
      else
      some (6:Int)
    else none
   else
   ze (y15 (nL u1 i.toNat (2:Nat)) u4 u1) fun r5 =>
   ze (jhc (nS u1 i.toNat (0:Nat))) fun r1 =>
   if(!r1)=true then some (4:Int)
   else if(nS u1 i.toNat (0:Nat)==qA #[(115:UInt8),(116:UInt8),(97:UInt8),(110:UInt8),(100:UInt8)])=true then some (4:Int)
    else
    if 0<=z5 none (0:Int)∧z5 none 0<=z5 (some i) (↑u1.length:Int)∧z5 (some i) (↑u1.length:Int)<=(↑u1.length:Int)then
     ze (y8 (yS (zf (z5 (some i) (↑u1.length:Int))-0) (yT (0:Nat) u1)) (nS u1 i.toNat (0:Nat)) (nI u1 i.toNat (1:Nat)) (nL u1 i.toNat (2:Nat)) (nL u1 i.toNat (3:Nat)) (nL u1 i.toNat (4:Nat)) (nI u1 i.toNat (5:Nat)) (nR u1 i.toNat (6:Nat)) (nI u1 i.toNat (7:Nat))) fun r2 =>
     if(r2)=true then
     some (5:Int)
     else
     ze (y54 (nI u1 i.toNat (1:Nat)) (0:Int) (4:Int)) fun r3 =>
     if(!r3)=true then some (15:Int)
     else
      ze (jc0 (nS u1 i.toNat (0:Nat)) (nI u1 i.toNat (1:Nat)) (nL u1 i.toNat (2:Nat)) (nL u1 i.toNat (3:Nat)) (nL u1 i.toNat (4:Nat)) (nI u1 i.toNat (5:Nat)) (nR u1 i.toNat (6:Nat)) (nI u1 i.toNat (7:Nat))) fun r4 =>
      if(!r4)=true then
      some (10:Int)
      else
      if(r5)=true then some (6:Int)
      else
       ze (jm0 (nL u1 i.toNat (2:Nat))) fun r6 =>
       if(r6)=true then
       some (26:Int)
       else
       ze (jdu (nS u1 i.toNat (0:Nat)) (nI u1 i.toNat (1:Nat)) (nL u1 i.toNat (2:Nat)) (nL u1 i.toNat (3:Nat)) (nL u1 i.toNat (4:Nat)) (nI u1 i.toNat (5:Nat)) (nR u1 i.toNat (6:Nat)) (nI u1 i.toNat (7:Nat))) fun r7 =>
       if(!r7)=true then some (2:Int)
       else if(nI u1 i.toNat (1:Nat)!=3)=true then
        ze (jg4 ((↑(zb (nR u1 i.toNat (6:Nat))):Int)==0) (10:Int)) fun r8 =>
        some r8
        else
        ze (y28 (nR u1 i.toNat (6:Nat))) fun r9 =>
        some r9.2
    else none
  else
   ze (y15 (nL u1 i.toNat (2:Nat)) u4 u1) fun r5 =>
   ze (jhc (nS u1 i.toNat (0:Nat))) fun r1 =>
   if(!r1)=true then
   some (4:Int)
   else
   if(nS u1 i.toNat (0:Nat)==qA #[(115:UInt8),(116:UInt8),(97:UInt8),(110:UInt8),(100:UInt8)])=true then some (4:Int)
   else if 0<=z5 none (0:Int)∧z5 none 0<=z5 (some i) (↑u1.length:Int)∧z5 (some i) (↑u1.length:Int)<=(↑u1.length:Int)then
    ze (y8 (yS (zf (z5 (some i) (↑u1.length:Int))-0) (yT (0:Nat) u1)) (nS u1 i.toNat (0:Nat)) (nI u1 i.toNat (1:Nat)) (nL u1 i.toNat (2:Nat)) (nL u1 i.toNat (3:Nat)) (nL u1 i.toNat (4:Nat)) (nI u1 i.toNat (5:Nat)) (nR u1 i.toNat (6:Nat)) (nI u1 i.toNat (7:Nat))) fun r2 =>
    if(r2)=true then some (5:Int)
    else
     ze (y54 (nI u1 i.toNat (1:Nat)) (0:Int) (4:Int)) fun r3 =>
     if(!r3)=true then
     some (15:Int)
     else
     ze (jc0 (nS u1 i.toNat (0:Nat)) (nI u1 i.toNat (1:Nat)) (nL u1 i.toNat (2:Nat)) (nL u1 i.toNat (3:Nat)) (nL u1 i.toNat (4:Nat)) (nI u1 i.toNat (5:Nat)) (nR u1 i.toNat (6:Nat)) (nI u1 i.toNat (7:Nat))) fun r4 =>
     if(!r4)=true then some (10:Int)
     else if(r5)=true then some (6:Int)
      else
      ze (jm0 (nL u1 i.toNat (2:Nat))) fun r6 =>
      if(r6)=true then some (26:Int)
      else
       ze (jdu (nS u1 i.toNat (0:Nat)) (nI u1 i.toNat (1:Nat)) (nL u1 i.toNat (2:Nat)) (nL u1 i.toNat (3:Nat)) (nL u1 i.toNat (4:Nat)) (nI u1 i.toNat (5:Nat)) (nR u1 i.toNat (6:Nat)) (nI u1 i.toNat (7:Nat))) fun r7 =>
       if(!r7)=true then
       some (2:Int)
       else
       if(nI u1 i.toNat (1:Nat)!=3)=true then
        ze (jg4 ((↑(zb (nR u1 i.toNat (6:Nat))):Int)==0) (10:Int)) fun r8 =>
        some r8
       else
        ze (y28 (nR u1 i.toNat (6:Nat))) fun r9 =>
        some r9.2
    else none
  else none
 else none
def jiR:List Lf->Option GT|[.d (.s u4),.x (.st [.s,.i .i64,.ints .i64,.ints .i64,.ints .i64,.i .i64,.recs 5,.i .i64] u1),.d (.i .i64 i)]=>some (.leaf (ok (jdw u4 u1 i)) [.c (.d (.i .i64 ((val (jdw u4 u1 i)))))])|_=>none
abbrev sp_79:jaa->jaa:=jap 79 true (jah jiQ jiR)
def jzl (u4:zY) (u1:List (List NC)) (i r:Int):Sk (top r) (jdw u4 u1 i) :=.ob (.ob (.call (.brB
 (.brB
 (.call (.brB
 (.obT (.rc))
 (.brB
 (.obT (.rc))
 (.ob (.call (.brB
 (.obT (.rc))
 (.call (.brB
 (.obT (.rc))
 (.call (.brB
 (.obT (.rc))
 (.obT (.rc))))))))))))
 (.call (.call (.brB
 (.obT (.rc))
 (.brB
 (.obT (.rc))
 (.ob (.call (.brB
 (.obT (.rc))
 (.call (.brB
 (.obT (.rc))
 (.call (.brB
 (.obT (.rc))
 (.brB
 (.obT (.rc))
 (.call (.brB
 (.obT (.rc))
 (.call (.brB
 (.obT (.rc))
 (.brB
 (.call (.obT (.rc)))
 (.call (.obT (.rc)))))))))))))))))))))
 (.call (.call (.brB
 (.obT (.rc))
 (.brB
 (.obT (.rc))
 (.ob (.call (.brB
 (.obT (.rc))
 (.call (.brB
 (.obT (.rc))
 (.call (.brB
 (.obT (.rc))
 (.brB
 (.obT (.rc))
 (.call (.brB
 (.obT (.rc))
 (.call (.brB
 (.obT (.rc))
 (.brB
 (.call (.obT (.rc)))
 (.call (.obT (.rc)))))))))))))))))))))))
def jxs (u4:zY) (u1:List (List NC)) (i r:Int) (h:ze (jdw u4 u1 i) some=some r):jaR Tryz.f79 ((sp_122 (sp_124 (sp_123 (sp_78 (sp_126 (sp_125 (sp_84 (sp_127 (sp_128 (sp_129 (sp_77 (sp_130 sp0))))))))))))) (fun _ _ _=>none) (jaK jiQ [.d (.s u4),.x (.st zS u1),.d (.i .i64 i)]) [.c (.d (.i .i64 r))] :=Sk.vc (jzl u4 u1 i r) (by kernel_rfl) h
def jxt:jaf Tryz.prog 79 true (jah jiQ jiR):=by
 refine jan (sp:=(sp_122 (sp_124 (sp_123 (sp_78 (sp_126 (sp_125 (sp_84 (sp_127 (sp_128 (sp_129 (sp_77 (sp_130 sp0))))))))))))) (fn:=Tryz.f79) (body:=bodyOf Tryz.f79) mixed (sp_122_ok (sp_124_ok (sp_123_ok (sp_78_ok (sp_126_ok (sp_125_ok (sp_84_ok (sp_127_ok (sp_128_ok (sp_129_ok (sp_77_ok (sp_130_ok jaj)))))))))))) Tryz.func79 (by kernel_rfl) (by kernel_rfl) fun ls t h ho b hb=>?_;unfold jiR at h;split at h
 ·rename_i u4 u1 i;cases h;obtain rfl:=jav hb;exact⟨zh (by kernel_rfl),_,_,jxs u4 u1 i _ (jai ho)⟩
 ·cases h
def sp_79_ok {sp:jaa} (h:jab Tryz.prog sp):jab Tryz.prog (sp_79 sp):=jag jxt h
def jeW:List SV:=[.a [.d,.x (.st zS [])]]
def y91 (u4:zY) (u1:List (List NC)) (x0:Int):Option (Int ⊕ ((Int × Int) ⊕ Unit)) :=
 if x0<(↑u1.length:Int)then
  ze (jdw u4 u1 x0) fun r4 =>
  if(r4 != 0)=true then
  some (.inr ((.inl (x0,r4))))
  else
  some (.inl (wrap .i64 (x0+1)))
 else some (.inr ((.inr ())))
def joD (u5:Int × Int):Option (Int × Int) :=some (u5.1,u5.2)
def joE (u10:Unit):Option (Int × Int) :=some (((0:Int),0))
def y256:((Int × Int) ⊕ Unit)->Option (Int × Int) :=(qz (joD) (joE))
def y75 (u4:zY) (u1:List (List NC)):Option (Int × Int) :=
 ze (jhc u4) fun r0 =>
 ze (jg4 r0 (4:Int)) fun r1 =>
 ze (jg4 (decide ((↑u1.length:Int)<=24)) (8:Int)) fun r2 =>
 ze (jeU [r1,r2]) fun r3 =>
 if(r3 != 0)=true then some (((0:Int),r3))
 else ze (jae (y91 u4 u1) big (0:Int)) (y256)
def jeX:List Lf->Option GT|[.d (.s u4),.x (.st [.s,.i .i64,.ints .i64,.ints .i64,.ints .i64,.i .i64,.recs 5,.i .i64] u1)]=>some (.leaf (ok (y75 u4 u1)) [.c (.d (.i .i64 ((val (y75 u4 u1)).1))),.c (.d (.i .i64 ((val (y75 u4 u1)).2)))])|_=>none
abbrev sp_18:jaa->jaa:=jap 18 true (jah jeW jeX)
abbrev jh1 (u4:zY) (u1:List (List NC)) (r:Int × Int):Lp (Int × Nat) Int (((Int × Int) ⊕ Unit)) (Int × Int) (Int × Int) :=⟨fun z=>z.1,fun z=>z.2,fun z x n=>(x,n),fun z=>y91 u4 u1,fun z=>y256,fun z=>top r,fun z=>0,[.c fun _=>0,.c fun _=>(↑u1.length:Int),.c fun vv=>vv.1,.c fun _=>u4,.c fun _=>u1]⟩
def jts (u4:zY) (u1:List (List NC)) (r:Int × Int):Sk (top r) (y75 u4 u1) :=.call (.call (.call (.call (.brB
 (.obT (.obT (.rc)))
 (.loop (jh1 u4 u1 r) (fun kk=>((0:Int),big)) fun z0 =>
 .br
 (.call (.brB
 (.exit (.obT (.obT (.rc))))
 (.next)))
 (.exit (.obT (.obT (.rc)))))))))
def jrY (u4:zY) (u1:List (List NC)) (r:Int × Int) (h:ze (y75 u4 u1) some=some r):jaR Tryz.f18 ((sp_78 (sp_77 (sp_76 (sp_79 sp0))))) (fun gs id _=>match id with
 |0=>some ⟨Int × Nat,fun z=>⟨[(1,.w (.c (.p 1 0 1 0))),(23,.w (.c (.d (.i .i64 ((↑u1.length:Int)))))),(24,.w (.c (.d (.i .i64 z.1))))],[(1,.box 24 [.d (.s u4),.o 0]),(0,.xext (XC.st zS u1))],2⟩,fun z=>(jh1 u4 u1 r).inv z,fun z=>z.2⟩
 |_=>none) (jaK jeW [.d (.s u4),.x (.st zS u1)]) [.c (.d (.i .i64 r.1)),.c (.d (.i .i64 r.2))] :=
 Sk.vc (jts u4 u1 r) (by kernel_rfl) h
def jrZ:jaf Tryz.prog 18 true (jah jeW jeX):=by
 refine jan (sp:=(sp_78 (sp_77 (sp_76 (sp_79 sp0))))) (fn:=Tryz.f18) (body:=bodyOf Tryz.f18) mixed (sp_78_ok (sp_77_ok (sp_76_ok (sp_79_ok jaj)))) Tryz.func18 (by kernel_rfl) (by kernel_rfl) fun ls t h ho b hb=>?_;unfold jeX at h;split at h
 ·rename_i u4 u1;cases h;obtain rfl:=jav hb;exact⟨zh (by kernel_rfl),_,_,jrY u4 u1 _ (jai ho)⟩
 ·cases h
def sp_18_ok {sp:jaa} (h:jab Tryz.prog sp):jab Tryz.prog (sp_18 sp):=jag jrZ h
end Go.Sh
end

section
namespace Go.Sx09
open Go Go.Proofs Go.RowKit Go.Shelf Go.Sx
attribute [local go_sem] jB
structure KpS (K:Nat->Prop) (A C:zs):Prop where
 size:A.heap.size<=C.heap.size
 same:∀k o,K k->A.heap[k]?=some o->o.isCells=true->C.heap[k]?=some o
def kps_t {K:Nat->Prop} {A B C:zs} (h:KpS K A B) (k:KpS K B C):KpS K A C:=⟨qN h.size k.size,fun x o hx ho hc=>k.same x o hx (h.same x o hx ho hc) hc⟩
def kps_b {K:Nat->Prop} {w:zs} (W:zs) (l:Nat) (o o':Obj) (_:w.heap.size<=l) (h:W.heap[l]?=some o) (hc:o.isCells=false) (_:o.isWalk=false):KpS K W (W.putObj l o') :=
 ⟨by simp,fun k u _ hk hu=>by
  have hne:l≠k:=fun e=>by subst e;rw[h]at hk;cases hk;rw[hc]at hu;cases hu
  exact(World.putObj_heap_other (fun e=>hne e.symm)).trans hk⟩
def jC3 {K:Nat->Prop} {A B:zs} (h:x8 A.heap.size A B):KpS K A B:=⟨h.size,fun k o _ hk _=>(h.block k (zH.1 hk).1).trans hk⟩
def needL (L:List Int) (st:Int):List Int:=if st=-1 then L else L++[st]
def stN (y:zt) (L:List Int) (v:List zt) (st:Int) (k:Nat):St :=⟨[(18,vi .i64 k),(17,vi .i64 L.length),(16,.w (.c (.o 0))),(4,.w (.c (.p 1 0 1 0))),(0,.w (.c (.d (.v y))))],[(0,.ext (.ints .i64 L)),(1,.ebox (v.map (fun x=>C.d (.v x))++[.d (.i .i64 st)]))],2⟩
def stNc (y:zt) (L:List Int) (v:List zt) (st:Int) (k:Nat):St:=⟨(19,vb (decide ((k:Int)<L.length)))::(stN y L v st k).tm,(stN y L v st k).hp,2⟩
def stNd (y:zt) (L:List Int) (v:List zt) (st:Int) (k:Nat):St:=⟨(6,vi .i64 (L.getD k 0))::(stN y L v st k).tm,(stN y L v st k).hp,2⟩
def stNe (y:zt) (L:List Int) (v:List zt) (st:Int) (k:Nat):St:=⟨(29,vb (st != -1))::(stN y L v st k).tm,(stN y L v st k).hp,2⟩
abbrev pn (c:Code) (st st2:St):Prop:=sx Tryz.prog (fun _=>none) 34 2 0 (fun _ _ _=>none) (fun _ _ _=>False) c 0 [] st (fun e st'=>match e with | .normal=>Le 2 st' st2|_=>False)
section
variable (y:zt) (L:List Int) (v0 v1 v2 v3 v4 v5 v6:zt) (st:Int) (k:Nat)
def pn1:pn (sub [1,0,1,0,0,0] (bodyOf Tryz.f132)) (stN y L [v0,v1,v2,v3,v4,v5,v6] st k) (stNc y L [v0,v1,v2,v3,v4,v5,v6] st k):=by
 refine jK (by kernel_rfl:(Ob ((decide ((k:Int)<L.length))=decide ((k:Int)<L.length))∧Ob ((k:Int)=k)∧Ob ((L.length:Int)=L.length)∧Ob ((0:Nat)=0)∧Ob (y=y)∧Ob (L=L)∧Ob (v0=v0)∧Ob (v1=v1)∧Ob (v2=v2)∧Ob (v3=v3)∧Ob (v4=v4)∧Ob (v5=v5)∧Ob (v6=v6)∧Ob (st=st)∧True)=_) ?_;exact⟨⟨rfl⟩,⟨rfl⟩,⟨rfl⟩,⟨rfl⟩,⟨rfl⟩,⟨rfl⟩,⟨rfl⟩,⟨rfl⟩,⟨rfl⟩,⟨rfl⟩,⟨rfl⟩,⟨rfl⟩,⟨rfl⟩,⟨rfl⟩,trivial⟩
def pn2 (hk:k<L.length):pn (sub [1,0,1,0,0,1,1,0,0,0] (bodyOf Tryz.f132)) (stNc y L [v0,v1,v2,v3,v4,v5,v6] st k) (stNd y L [v0,v1,v2,v3,v4,v5,v6] st k):=by
 refine jK (by kernel_rfl:(Ob (0<=(k:Int)∧(k:Int)<(L.length:Int))∧Ob ((k:Int).toNat<L.length)∧Ob (L.getD (k:Int).toNat 0=L.getD k 0)∧Ob ((k:Int)=k)∧Ob ((L.length:Int)=L.length)∧Ob ((0:Nat)=0)∧Ob (y=y)∧Ob (L=L)∧Ob (v0=v0)∧Ob (v1=v1)∧Ob (v2=v2)∧Ob (v3=v3)∧Ob (v4=v4)∧Ob (v5=v5)∧Ob (v6=v6)∧Ob (st=st)∧True)=_) ?_;exact⟨⟨by omega⟩,⟨by omega⟩,⟨rfl⟩,⟨rfl⟩,⟨rfl⟩,⟨rfl⟩,⟨rfl⟩,⟨rfl⟩,⟨rfl⟩,⟨rfl⟩,⟨rfl⟩,⟨rfl⟩,⟨rfl⟩,⟨rfl⟩,⟨rfl⟩,⟨rfl⟩,trivial⟩
def pn3 (hk:(k:Int)+1<=9223372036854775807):pn (sub [1,0,1,0,0,1,1,1] (bodyOf Tryz.f132)) (stN y L [v0,v1,v2,v3,v4,v5,v6] st k) (stN y L [v0,v1,v2,v3,v4,v5,v6] st (k+1)):=by
 refine jK (by kernel_rfl:(Ob (xd.wrap ((k:Int)+1)=((k+1:Nat):Int))∧Ob ((L.length:Int)=L.length)∧Ob ((0:Nat)=0)∧Ob (y=y)∧Ob (L=L)∧Ob (v0=v0)∧Ob (v1=v1)∧Ob (v2=v2)∧Ob (v3=v3)∧Ob (v4=v4)∧Ob (v5=v5)∧Ob (v6=v6)∧Ob (st=st)∧True)=_) ?_;refine⟨⟨?_⟩,⟨rfl⟩,⟨rfl⟩,⟨rfl⟩,⟨rfl⟩,⟨rfl⟩,⟨rfl⟩,⟨rfl⟩,⟨rfl⟩,⟨rfl⟩,⟨rfl⟩,⟨rfl⟩,⟨rfl⟩,trivial⟩;rw[fj _ (by omega)];omega
def pn4:pn (sub [1,1,0] (bodyOf Tryz.f132)) (stN y L [v0,v1,v2,v3,v4,v5,v6] st k) (stNe y L [v0,v1,v2,v3,v4,v5,v6] st k):=by
 refine jK (by kernel_rfl:(Ob True∧Ob ((st != (-1:Int))=(st != (-1:Int)))∧Ob ((k:Int)=k)∧Ob ((L.length:Int)=L.length)∧Ob ((0:Nat)=0)∧Ob (y=y)∧Ob (L=L)∧Ob (v0=v0)∧Ob (v1=v1)∧Ob (v2=v2)∧Ob (v3=v3)∧Ob (v4=v4)∧Ob (v5=v5)∧Ob (v6=v6)∧Ob (st=st)∧True)=_) ?_;exact⟨⟨trivial⟩,⟨rfl⟩,⟨rfl⟩,⟨rfl⟩,⟨rfl⟩,⟨rfl⟩,⟨rfl⟩,⟨rfl⟩,⟨rfl⟩,⟨rfl⟩,⟨rfl⟩,⟨rfl⟩,⟨rfl⟩,⟨rfl⟩,⟨rfl⟩,trivial⟩
end
def jgJ {I:Env} {B:Kd} {N n0:Nat} {st:St} {a:Act} {w:zs} {t:Nat} {v:V} (h:Rel I B N n0 st a w) (hv:v.lt st.nx) (hlt:t<N):Rel I B N n0 ⟨(t,v)::st.tm,st.hp,st.nx⟩ (a.put (some t) (v.val I)) w:=by
 refine⟨fun x u hx=>?_,by rw[jbv];exact h.size,by rw[jb6];exact h.defers,h.heap,h.le,h.n0⟩;simp only[jaT]at hx;rw[jbH (fun y hy=>by cases hy;rw[h.size];exact hlt)];split at hx
 ·rename_i e;subst e;cases hx;exact⟨hv,by rw[if_pos rfl]⟩
 ·rename_i e;rw[if_neg (fun e'=>e (ye e'))];exact h.tm x u hx
def jxu {o:qx} {v:zt} {n:Nat} {a:Act} {w:zs} {K:Act->zs->Prop} {Q:Exit->Act->zs->Prop} (h:(qS a.eval o).run Tryz.prog w=.ok (.value v) w) (hK:K (a.put o.dst v) w):o.wpIn xG n Tryz.prog a w K Q:=by
 refine⟨fun _ _=>trivial,?_⟩;rw[jq,jC,h];exact hK
def jdG {o:qx} {t n N n0:Nat} {ob:Prop} {v:V} {I:Env} {B:Kd} {st:St} {a:Act} {w:zs} {K:Act->zs->Prop} {Q:Exit->Act->zs->Prop} (hr:Rel I B N n0 st a w) (hs:jcn Tryz.prog o.op (jcz st) st.hp=some (ob,v)) (hob:ob) (hd:o.dst=some t) (ht:t<N)
  (hK:∀a',Rel I B N n0 ⟨(t,v)::st.tm,st.hp,st.nx⟩ a' w->K a' w):o.wpIn xG n Tryz.prog a w K Q:=by
 obtain⟨B',_,hh⟩:=hr.heap;have h1:=jea hh hr.reads hs hob;refine jxu h1.1 ?_;rw[hd];exact hK _ (jgJ hr h1.2 ht)
def jAb {I:Env} {B:Kd} {N n0:Nat} {s s0:St} {a:Act} {w:zs} (h:Rel I B N n0 s0 a w) (ht:∀t v,jaT s.tm t=some v->jaT s0.tm t=some v) (hh:s.hp=s0.hp) (hn:s.nx=s0.nx):Rel I B N n0 s a w :=⟨fun t v hv=>by rw[hn];exact h.tm t v (ht t v hv),h.size,h.defers,by rw[hh,hn];exact h.heap,h.le,by rw[hn];exact h.n0⟩
structure BetN (K:Nat->Prop) (y:zt) (L:List Int) (v:List zt) (st:Int) (k:Nat) (a:Act) (w:zs):Prop where
 rel:∃I,Rel I (kd fun x=>x<w.heap.size) 34 2 (stN y L v st k) a w∧(∀ad n cap,I 0=.slice (some ad) n cap->0<n->K ad.block)∧∀b o,I 1=.pointer (some ⟨b,o,none⟩)->K b
def jon {K:Nat->Prop} {I:Env} {B:Kd} {L:List Int} {v:List zt} {st:Int} {a:Act} {w w':zs} {s:St} (h:Rel I B 34 2 s a w) (hs:s.hp=[(0,.ext (.ints .i64 L)),(1,.ebox (v.map (fun x=>C.d (.v x))++[.d (.i .i64 st)]))]) (h0:∀ad n cap,I 0=.slice (some ad) n cap->0<n->K ad.block) (h1:∀b o,I 1=.pointer (some ⟨b,o,none⟩)->K b) (hk:KpS K w w') :
  Rel I (kd fun x=>x<w'.heap.size) 34 2 s a w':=by
 obtain⟨B',_,hh⟩:=h.heap
 have keep:∀{b:Nat} {off:Nat} {u:zt},K b->w.cell? ⟨b,off,none⟩=some u->w'.cell? ⟨b,off,none⟩=some u:=fun {b off u} hK hc=>by
  obtain⟨o,ho,hoc⟩:=cells_of_cell hc;have h2:=hk.same _ o hK ho hoc;exact(qX (w:=w) (w':=w') (a:=⟨b,off,none⟩) (h2.trans (show w.heap[b]?=some o from ho).symm)).trans hc
 refine⟨h.tm,h.size,h.defers,⟨kd fun x=>x<w'.heap.size,Grow.refl _ _ _ _,⟨fun x o hf=>?_,fun x o x' o' b hf hf' hne hb=>?_,jfv⟩⟩,fun k hk=>jbL.1 hk,h.n0⟩
 ·have hx:=hh.ok x o hf;refine⟨hx.1,hx.2.1,?_⟩;simp only[hs,find]at hf;split at hf
  ·rename_i e;subst e;cases hf;obtain⟨⟨ad,cap,hv,hc,hcells⟩,ho⟩:=hx.2.2
   have hrow:jaQ w' (I 0) (.ints .i64 L):=by
    refine⟨ad,cap,hv,hc,fun hn=>?_⟩;obtain⟨b,off,hab,hxc⟩:=hcells hn;subst hab;exact⟨b,off,rfl,fun j z hj=>keep (h0 _ _ _ hv hn) (hxc j z hj)⟩
   exact⟨hrow,hrow.lt (zp 0)⟩
  ·split at hf
   ·rename_i e;subst e;cases hf;obtain⟨b,off,hv,hB,hcells⟩:=hx.2.2;have hK:=h1 b off hv;refine⟨b,off,hv,?_,fun j c hj=>keep hK (hcells j c hj)⟩;have hc0:=keep hK (hcells v.length (.d (.i .i64 st)) (by rw[List.getElem?_append_right (by simp)];simp));exact qP w' _ hc0
   ·cases hf
 ·simp only[hs,find]at hf;split at hf
  ·cases hf;cases hb
  ·split at hf
   ·cases hf;cases hb
   ·cases hf
def jm9 {K:Nat->Prop} {A B:zs} (h:A.grownBy B none):KpS K A B:=⟨h.size,fun k o _ hk _=>(h.block k (zH.1 hk).1 (fun e=>by cases e)).trans hk⟩
def juJ {l:Nat} {fn tmps assign body:_} {x:zt} {W:zs} {a:Act} {s q ty:Nat} (hs:a.eval (.tmp s)=.func (.yield l) #[] #[]) (hq:a.eval (.tmp q)=x)
  (hy:(Instr.yield l #[x]).run Tryz.prog W=.ok (.round l fn tmps assign body) W) (o:qx) (ho:o.op=.call { callee:=.value (.tmp s),args:=#[.tmp q],argTypes:=#[ty] }) :
  ((o.semAt xG.round a.eval).run Tryz.prog W)=.ok (.round l fn tmps assign body) W:=by
 rw[jq,jC];unfold qS;simp only[ho,resolve,hs,gJ,zr,zu,zn,invoke,x5,zJ,xb,hq];exact hy
def jC4 {α:Type} {enc:α->Int} {A:List α} {L:List Int} {st:Int} (hA:A.map enc=needL L st) {k:Nat} (hk:k<L.length):∃h:k<A.length,enc A[k]=L.getD k 0:=by
 have hlen:A.length=(needL L st).length:=by rw[<-hA];simp
 have h1:k<(needL L st).length:=by
  unfold needL;split
  ·exact hk
  ·simp;omega
 refine⟨by omega,?_⟩;have h2:(A.map enc)[k]?=(needL L st)[k]?:=by rw[hA]
 rw[zL,zG (by omega)]at h2
 have h3:(needL L st)[k]?=L[k]?:=by
  unfold needL;split
  ·rfl
  ·rw[List.getElem?_append_left hk]
 rw[h3,zG hk]at h2;simp only[Option.map_some,zk]at h2;rw[h2];simp[za,zG hk]
set_option maxHeartbeats 2000000 in
def jBs (n l:Nat) (K:Nat->Prop) (L:List Int) (v0 v1 v2 v3 v4 v5 v6:zt) (st:Int) (hL:(L.length:Int)<9223372036854775807) {α:Type} (enc:α->Int) (A:List α) (hA:A.map enc=needL L st) (J Jx:List α->zs->Prop)
  (hY:∀(k:Nat) (h:k<A.length) W,J (A.take k) W->YieldAt xG (n-1) Tryz.prog l #[.int .i64 (enc A[k])] W fun e W' =>
   (e=.returned (.bool true)∧J (A.take (k+1)) W'∧KpS K W W')∨(e=.returned (.bool false)∧Jx (A.take (k+1)) W'))
  (hJ:∀A B pre,J pre A->A.grownBy B none->J pre B) (a:Act) (w:zs) (hb:BetN K (.func (.yield l) #[] #[]) L [v0,v1,v2,v3,v4,v5,v6] st 0 a w) (hj0:J [] w)
  (R:zs->Prop) (hR:∀k W,k<=A.length->Jx (A.take k) W->R W) (Q:Act->zs->Prop) (hQ:∀a w,BetN K (.func (.yield l) #[] #[]) L [v0,v1,v2,v3,v4,v5,v6] st L.length a w->J (A.take L.length) w->Q a w) :
  (sub [1,0,1] (bodyOf Tryz.f132)).wpIn xG n Tryz.prog (Exit.then Q (bodyPost Tryz.prog Tryz.f132 fun e W'=>(∃v,e=.returned v)∧R W')) a w:=by
 refine fA (wpIn_loop (fun a w=>∃k,k<=L.length∧BetN K (.func (.yield l) #[] #[]) L [v0,v1,v2,v3,v4,v5,v6] st k a w∧J (A.take k) w) (fun a _=>L.length-(f8 (a.tmps.getD 18 zX)).toNat) ⟨0,by omega,hb,hj0⟩ ?_);rintro a w ⟨k,hk,⟨I,hr,hg0,hg1⟩,hj⟩
 have hmu:(f8 (a.tmps.getD 18 zX)).toNat=k:=by
  rw[(hr.tm 18 _ rfl).2];simp[f8]
 rw[hmu];refine yx (wpIn_wide.2 (x7 (jkQ hr (pn1 _ L v0 v1 v2 v3 v4 v5 v6 st k)) ?_));rintro e a1 w1 ⟨rfl,hw1,I1,hr1,hag1⟩;have hj1:=hJ _ _ _ hj hw1;have hc:a1.eval (.tmp 19)=.bool (decide ((k:Int)<L.length)):=(hr1.tm 19 _ rfl).2
 by_cases hlt:k<L.length
 ·refine yx (jR (by rw[hc,decide_eq_true (by omega)]) (fm ?_));have hg0a:∀ad n cap,I1 0=.slice (some ad) n cap->0<n->K ad.block:=fun ad n cap h=>hg0 ad n cap (by rw[<-hag1 0 (by decide)];exact h);have hg1a:∀b o,I1 1=.pointer (some ⟨b,o,none⟩)->K b:=fun b o h=>hg1 b o (by rw[<-hag1 1 (by decide)];exact h);have hr1b:Rel I1 (kd fun x=>x<w1.heap.size) 34 2 (stNc (.func (.yield l) #[] #[]) L [v0,v1,v2,v3,v4,v5,v6] st k) a1 w1:=jon hr1 rfl hg0a hg1a (jm9 (gq w1 none));refine yx (fA (yx (wpIn_wide.2 (x7 (jkQ hr1b (pn2 _ L v0 v1 v2 v3 v4 v5 v6 st k hlt)) ?_))));rintro e a2 w2 ⟨rfl,hw2,I2,hr2,hag2⟩;have hj2:=hJ _ _ _ hj1 hw2;obtain⟨hkA,henc⟩:=jC4 hA hlt;obtain⟨fn,tmps,assign,body,hy,hRd⟩:=hY k hkA w2 hj2;rw[henc]at hy;refine yx (gL ?_);refine xx rfl fun K2 hK2=>jdG (t:=22) hr2 rfl trivial rfl (by decide) fun a3 hr3=>hK2 _ _ ?_;refine xx rfl fun K2 hK2=>jdG (t:=23) hr3 rfl trivial rfl (by decide) fun a4 hr4=>hK2 _ _ ?_;have g22:a4.eval (.tmp 22)=.func (.yield l) #[] #[]:=(hr4.tm 22 _ rfl).2;have g23:a4.eval (.tmp 23)=.int .i64 (L.getD k 0):=(hr4.tm 23 _ rfl).2;refine xx rfl fun K2 hK2=>⟨fun _ _=>trivial,?_⟩
  rw[juJ (ty:=3) g22 g23 hy _ rfl];refine⟨(fun h=>by cases h),hRd.mono ?_⟩;have hg0b:∀ad n cap,I2 0=.slice (some ad) n cap->0<n->K ad.block:=fun ad n cap h=>hg0a ad n cap (by rw[<-hag2 0 (by decide)];exact h);have hg1b:∀b o,I2 1=.pointer (some ⟨b,o,none⟩)->K b:=fun b o h=>hg1a b o (by rw[<-hag2 1 (by decide)];exact h);have hr5:∀(b:Bool) (w3:zs),KpS K w2 w3->Rel I2 (kd fun x=>x<w3.heap.size) 34 2 _ (a4.put (some 24) (.bool b)) w3:=fun b w3 hk3=>jon (jgJ (v:=vb b) hr4 trivial (by decide)) rfl hg0b hg1b hk3;rintro e w3 (⟨rfl,hj3,hk3⟩|⟨rfl,hj3⟩)
  ·refine hK2 _ _ (xx rfl fun K3 hK3=>jdG (t:=25) (hr5 true w3 hk3) rfl trivial rfl (by decide) fun a5 hr6=>hK3 _ _ (jS ?_));have g25:a5.eval (.tmp 25)=.bool false:=(hr6.tm 25 _ rfl).2;refine jD g25 (fm ?_)
   have hr7:Rel I2 (kd fun x=>x<w3.heap.size) 34 2 (stN (.func (.yield l) #[] #[]) L [v0,v1,v2,v3,v4,v5,v6] st k) a5 w3:=jAb hr6 (fun t v hv=>by
    simp only[stN,jaT]at hv;simp only[stNd,stN,jaT]
    repeat' split at hv
    all_goals first
     |(cases hv;done)
     |(subst_vars;simp only[hv];rfl)
     |(subst_vars;exact hv)) rfl rfl
   refine wpIn_wide.2 (x7 (jkQ hr7 (pn3 _ L v0 v1 v2 v3 v4 v5 v6 st k (by omega))) ?_);rintro e a7 w7 ⟨rfl,hw7,I7,hr8,hag7⟩;refine⟨⟨k+1,by omega,⟨I7,jon hr8 rfl (fun ad n cap h=>hg0b ad n cap (by rw[<-hag7 0 (by decide)];exact h)) (fun b o h=>hg1b b o (by rw[<-hag7 1 (by decide)];exact h)) (jm9 (gq w7 none)),fun ad n cap h=>hg0b ad n cap (by rw[<-hag7 0 (by decide)];exact h),fun b o h=>hg1b b o (by rw[<-hag7 1 (by decide)];exact h)⟩,hJ _ _ _ hj3 hw7⟩,?_⟩;rw[(hr8.tm 18 _ rfl).2];simp[f8];omega
  ·have hr4b:=jgJ (v:=vb false) (t:=24) hr4 trivial (by decide);have g24:(a4.put (some 24) (.bool false)).eval (.tmp 24)=.bool false:=(hr4b.tm 24 _ rfl).2;refine hK2 _ _ (xx rfl fun K3 hK3=>jxu (v:=.bool true) ?_ (hK3 _ _ (jS ?_)))
   ·unfold qS;dsimp only;rw[g24];rfl
   have hr5:=jgJ (v:=vb true) (t:=25) hr4b trivial (by decide);have g25:((a4.put (some 24) (.bool false)).put (some 25) (.bool true)).eval (.tmp 25)=.bool true:=(hr5.tm 25 _ rfl).2;refine jR g25 (wpIn_ret ?_);exact⟨hr5.defers,.tuple #[],jT rfl _ _ _,⟨_,rfl⟩,hR (k+1) _ (by omega) hj3⟩
 ·have hk5:k=L.length:=by omega
  subst hk5;refine yx (jD (by rw[hc,decide_eq_false (by omega)]) (wpIn_exit ?_));refine hQ _ _ ⟨I1,jAb (jon hr1 rfl (fun ad n cap h=>hg0 ad n cap (by rw[<-hag1 0 (by decide)];exact h)) (fun b o h=>hg1 b o (by rw[<-hag1 1 (by decide)];exact h)) (jm9 (gq w1 none))) (fun t v hv=>?_) rfl rfl,fun ad n cap h=>hg0 ad n cap (by rw[<-hag1 0 (by decide)];exact h),fun b o h=>hg1 b o (by rw[<-hag1 1 (by decide)];exact h)⟩ hj1;have hne:t≠19:=fun e=>by subst e;simp[stN,jaT]at hv
  simp only[stNc,jaT];rw[if_neg (yQ hne)];exact hv
abbrev shU:List NK:=zS
def stI (y:zt) (nm:ByteArray) (l:List (List NC)) (i:Int) (co:zt):St:=⟨[(0,.w (.c (.d (.v y)))),(1,.w (.c (.p 1 0 1 0))),(2,.w (.c (.p 2 0 1 0)))],[(0,.box 4 [.d (.b false)]),(1,.ebox [.p 3 0 1 0]),(2,.ebox [.d (.i .i64 i)]),(3,.ebox [.d (.s nm),.o 4,.d (.v co)]),(4,.xext (.st shU l))],5⟩
def hpJ (l:List (List NC)) (i:Nat):Hp:=[(0,.box 4 [.d (.b false)]),(1,.box 118 [.d (.s (nS l i 0)),.d (.i .i64 (nI l i 1)),.o 2,.o 3,.o 4,.d (.i .i64 (nI l i 5)),.o 5,.d (.i .i64 (nI l i 7))]),(2,.ext (.ints .i64 (nL l i 2))),(3,.ext (.ints .i64 (nL l i 3))),(4,.ext (.ints .i64 (nL l i 4))),(5,.ext (.recs 5 (nR l i 6)))]
def stJ (y:zt) (l:List (List NC)) (i:Nat):St:=⟨[(4,.w (.c (.p 1 0 1 0))),(0,.w (.c (.d (.v y))))],hpJ l i,6⟩
def stJ2 (y:zt) (l:List (List NC)) (i:Nat):St:=⟨[(18,vi .i64 0),(17,vi .i64 (nL l i 2).length),(16,.w (.c (.o 2))),(4,.w (.c (.p 1 0 1 0))),(0,.w (.c (.d (.v y))))],hpJ l i,6⟩
def pnJ (y:zt) (l:List (List NC)) (i:Nat):sx Tryz.prog (fun _=>none) 34 1 0 (fun _ _ _=>none) (fun _ _ _=>False) (sub [1,0,0] (bodyOf Tryz.f132)) 0 [] (stJ y l i) (fun e st'=>match e with | .normal=>Le 1 st' (stJ2 y l i)|_=>False):=by
 refine jK (by kernel_rfl:(Ob ((0:Int)=0)∧Ob (((nL l i 2).length:Int)=(nL l i 2).length)∧Ob ((0:Nat)=0)∧Ob (y=y)∧Ob (false=false)∧Ob (nS l i 0=nS l i 0)∧Ob (nI l i 1=nI l i 1)∧Ob (nI l i 5=nI l i 5)∧Ob (nI l i 7=nI l i 7)∧Ob (nL l i 2=nL l i 2)∧Ob (nL l i 3=nL l i 3)∧Ob (nL l i 4=nL l i 4)∧Ob (nR l i 6=nR l i 6)∧True)=_) ?_;exact⟨⟨rfl⟩,⟨rfl⟩,⟨rfl⟩,⟨rfl⟩,⟨rfl⟩,⟨rfl⟩,⟨rfl⟩,⟨rfl⟩,⟨rfl⟩,⟨rfl⟩,⟨rfl⟩,⟨rfl⟩,⟨rfl⟩,trivial⟩
def jdx {w:zs} {k j t:Nat} {vs:Array zt} {f:_} (h:w.heap[k]?=some (.cells vs t f)) {v:zt} (hv:vs[j]?=some v):w.cell? ⟨k,j,none⟩=some v:=by
 unfold fk;dsimp only;rw[h];simp[hv]
def jBt {α:Type} {enc:α->Int} {A:List α} {L:List Int} {st:Int} (hA:A.map enc=needL L st) (hst:st≠-1):∃h:L.length<A.length,enc A[L.length]=st∧A.length=L.length+1:=by
 have e:needL L st=L++[st]:=if_neg hst
 have hlen:A.length=L.length+1:=by
  have:(A.map enc).length=(L++[st]).length:=by rw[hA,e]
  simpa using this
 refine⟨by omega,?_,hlen⟩;have h2:(A.map enc)[L.length]?=(L++[st])[L.length]?:=by rw[hA,e]
 rw[zL,zG (by omega)]at h2;simpa using h2
set_option maxHeartbeats 4000000 in
def jC5 (n l r:Nat) (nm:ByteArray) (gU:List (List NC)) (i:Int) (co:zt) (I0:Env) (W:zs)
  (hh:HRel I0 (kd fun k=>k<W.heap.size∧k≠r) (stI (.func (.yield l) #[] #[]) nm gU i co).hp 5 W) (hr0:I0 0=.pointer (some ⟨r,0,none⟩))
  (hi:0<=i∧i<gU.length) (hL:((nL gU i.toNat 2).length:Int)<9223372036854775807) {α:Type} (enc:α->Int) (A:List α) (hA:A.map enc=needL (nL gU i.toNat 2) (nI gU i.toNat 7)) (J Jx:List α->zs->Prop)
  (hY:∀(k:Nat) (h:k<A.length) W,J (A.take k) W->YieldAt xG (n-1) Tryz.prog l #[.int .i64 (enc A[k])] W fun e W' =>
   (e=.returned (.bool true)∧J (A.take (k+1)) W'∧KpS (fun k=>k≠r) W W')∨(e=.returned (.bool false)∧Jx (A.take (k+1)) W'))
  (hJ:AbidesFrom W.heap.size J) (h0:J [] W) :
  fF xG n Tryz.prog 132 #[.func (.yield l) #[] #[],(C.p 1 0 1 0).val I0,(C.p 2 0 1 0).val I0] W fun e W'=>(∃v,e=.returned v) ∧
   ((∃ys,ys=A∧J ys W')∨(∃pre,(∃k,k<=A.length∧pre=A.take k)∧Jx pre W')):=by
 refine gC Tryz.func132 rfl trivial ?_ rfl;refine yx (wpIn_wide.2 ?_);have hsp:jab Tryz.prog (fun _=>none):=fun _ _ _ h=>by cases h
 obtain⟨y,hy⟩:∃y:zt,y=.func (.yield l) #[] #[]:=⟨_,rfl⟩
 rw[<-hy]at hh ⊢
 refine jb1 (N:=34) (n0:=1) (B:=kd fun k=>k<W.heap.size∧k≠r) (I0:=I0) (w0:=W) (st:=stI y nm gU i co)
  (k:=fun st=>Le 1 st (stJ y gU i.toNat)) (by kernel_rfl) hsp (ds:=[]) _ _ I0 _ _ _ ?vc ?rel (jak.refl _ _) (Bel.refl _ _) ?next
 case vc =>
  refine jK (by kernel_rfl:(Ob True∧Ob True∧Ob True∧Ob ((0:Int)<=i∧i<((XC.st shU gU).n:Int))∧Ob (i.toNat<(XC.st shU gU).n)∧Ob ((0:Nat)=0)∧Ob (y=y)∧Ob (false=false)∧Ob (nS gU i.toNat 0=nS gU i.toNat 0)∧Ob (nI gU i.toNat 1=nI gU i.toNat 1)∧Ob (nI gU i.toNat 5=nI gU i.toNat 5)∧Ob (nI gU i.toNat 7=nI gU i.toNat 7)∧Ob (nL gU i.toNat 2=nL gU i.toNat 2)∧Ob (nL gU i.toNat 3=nL gU i.toNat 3)∧Ob (nL gU i.toNat 4=nL gU i.toNat 4)∧Ob (nR gU i.toNat 6=nR gU i.toNat 6)∧True)=_) ?_;exact⟨⟨trivial⟩,⟨trivial⟩,⟨trivial⟩,⟨hi⟩,⟨by show i.toNat<gU.length;omega⟩,⟨rfl⟩,⟨rfl⟩,⟨rfl⟩,⟨rfl⟩,⟨rfl⟩,⟨rfl⟩,⟨rfl⟩,⟨rfl⟩,⟨rfl⟩,⟨rfl⟩,⟨rfl⟩,trivial⟩
 case rel =>
  refine jfF (N:=34) (n0:=1) (args:=[.w (.c (.d (.v y))),.w (.c (.p 1 0 1 0)),.w (.c (.p 2 0 1 0))]) (zh rfl) (fun x hx=>?_) (by decide) I0 W hh (fun k hk=>(jbL.1 hk).1);simp only[qu,gM,or_false]at hx;rcases hx with rfl|rfl|rfl
  ·trivial
  ·exact(by decide:1<5)
  ·exact(by decide:2<5)
 case next =>
  rintro I1 st1 a1 w1 hr1 hag1 hbl1 hle;obtain⟨I2,hr2,hag2⟩:=hle.rel hr1;refine yx (yx (wpIn_wide.2 (x7 (ja6 hsp (fun _ _ _ _ _ _ _ _ _ h=>h.elim) (sub [1,0,0] (bodyOf Tryz.f132)) 0 [] (stJ y gU i.toNat) _ I2 a1 w1 (pnJ y gU i.toNat) hr2 (jak.refl _ _) (Bel.refl _ _)) ?_)));rintro e a2 w2 ⟨ex,I3,st3,rfl,hk3,hr3',hag3,hbl3⟩;cases ex with
  |exit j=>exact hk3.elim
  |ret=>exact hk3.elim
  |normal =>
   obtain⟨I4,hr4,hag4⟩:=hk3.rel hr3';have hI0:I4 0=.pointer (some ⟨r,0,none⟩):=(hag4 0 (by decide)).trans ((hag3 0 (by decide)).trans ((hag2 0 (by decide)).trans ((hag1 0 (by decide)).trans hr0)));have hbW:Bel (kd fun k=>k<W.heap.size∧k≠r).kp W w2:=hbl1.trans hbl3;obtain⟨B',gB,hh4⟩:=hr4.heap;have o0:=(hh4.ok 0 _ rfl).2.2;have o1:=(hh4.ok 1 _ rfl).2.2;have o2:=(hh4.ok 2 _ rfl).2.2;obtain⟨r',hr',hB0,hheap0⟩:=o0
   have err:r'=r:=by
    rw[hI0]at hr';cases hr';rfl
   subst err;obtain⟨k1,hk1,hB1,hheap1⟩:=o1;obtain⟨q0,hq0,hBq,hheapW⟩:=(hh.ok 0 _ rfl).2.2
   have eq0:q0=r':=by
    rw[hr0]at hq0;cases hq0;rfl
   subst eq0
   have hgr:W.grownBy w2 none:=by
    refine⟨hbW.os,hbW.tape,hbW.output,hbW.size,fun k hk _=>?_⟩
    by_cases e:k=q0
    ·subst e;rw[hheap0,hheapW];rfl
    ·exact hbW.block k ⟨hk,e⟩
   have hj2:J [] w2:=hJ [] W w2 none h0 hgr (fun r e=>by cases e);have hne1:k1≠q0:=fun e=>hh4.apart 1 _ 0 _ k1 rfl rfl (by decide) (by rw[hk1];rfl) (by rw[hI0,e];rfl)
   have hb:BetN (fun k=>k≠q0) y (nL gU i.toNat 2) [.string (nS gU i.toNat 0),.int .i64 (nI gU i.toNat 1),I4 2,I4 3,I4 4,.int .i64 (nI gU i.toNat 5),I4 5] (nI gU i.toNat 7) 0 a2 w2:=by
    refine⟨fun h=>if h=0 then I4 2 else I4 1,⟨fun t v hv=>?_,hr4.size,hr4.defers,⟨kd fun x=>x<w2.heap.size,Grow.refl _ _ _ _,⟨fun x o hf=>?_,fun x o x' o' b hf hf' hne hb=>?_,jfv⟩⟩,fun k hk=>jbL.1 hk,zq _⟩,fun ad m cap hv hm=>?_,fun b o hv=>?_⟩
    ·simp only[stN,jaT]at hv;split at hv
     ·rename_i e;subst e;cases hv;exact⟨trivial,(hr4.tm 18 _ rfl).2⟩
     ·split at hv
      ·rename_i e;subst e;cases hv;exact⟨trivial,(hr4.tm 17 _ rfl).2⟩
      ·split at hv
       ·rename_i e;subst e;cases hv;exact⟨(by decide:0<2),(hr4.tm 16 _ rfl).2⟩
       ·split at hv
        ·rename_i e;subst e;cases hv;exact⟨(by decide:1<2),(hr4.tm 4 _ rfl).2⟩
        ·split at hv
         ·rename_i e;subst e;cases hv;exact⟨trivial,(hr4.tm 0 _ rfl).2⟩
         ·cases hv
    ·simp only[stN,find]at hf;split at hf
     ·rename_i e;subst e;cases hf;exact⟨(by decide:0<2),trivial,o2.1,o2.1.lt (zp 0)⟩
     ·split at hf
      ·rename_i e;subst e;cases hf;refine⟨(by decide:1<2),?_,k1,0,by simpa using hk1,(zH.1 hheap1).1,fun j c hj=>?_⟩
       ·intro c hc;simp only[zJ,xb,qq,qT,qu,gM,or_false]at hc;rcases hc with rfl|rfl|rfl|rfl|rfl|rfl|rfl|rfl<;>trivial
       ·rw[Nat.zero_add];refine jdx hheap1 ?_
        match j,hj with
        |0,hj=>cases hj;rfl
        |1,hj=>cases hj;rfl
        |2,hj=>cases hj;rfl
        |3,hj=>cases hj;rfl
        |4,hj=>cases hj;rfl
        |5,hj=>cases hj;rfl
        |6,hj=>cases hj;rfl
        |7,hj=>cases hj;rfl
        |j+8,hj=>cases hj
      ·cases hf
    ·simp only[stN,find]at hf;split at hf
     ·cases hf;cases hb
     ·split at hf
      ·cases hf;cases hb
      ·cases hf
    ·intro e;have h2:=o2.2 ad m cap (by simpa using hv) hm;exact hB0 (.inl (e ▸ h2))
    ·intro e;have hv':I4 1=.pointer (some ⟨b,o,none⟩):=by simpa using hv
     rw[hk1]at hv';cases hv';exact hne1 e
   subst hy
   refine jBs n l (fun k=>k≠q0) _ _ _ _ _ _ _ _ _ hL enc A hA J Jx hY (fun A B pre hj hg=>hJ pre A B none hj hg (fun r e=>by cases e)) a2 w2 hb hj2
    (fun W'=>(∃ys,ys=A∧J ys W')∨(∃pre,(∃k,k<=A.length∧pre=A.take k)∧Jx pre W')) (fun k W hk hx=>.inr ⟨_,⟨k,hk,rfl⟩,hx⟩) _ ?_
   rintro a5 w5 ⟨I5,hr5,hg0,hg1⟩ hj5;refine yx (wpIn_wide.2 (x7 (jkQ hr5 (pn4 _ _ _ _ _ _ _ _ _ _ _)) ?_));rintro e a6 w6 ⟨rfl,hw6,I6,hr6,hag6⟩;have hj6:=hJ _ _ _ none hj5 hw6 (fun r e=>by cases e);have hc:a6.eval (.tmp 29)=.bool (nI gU i.toNat 7 != -1):=(hr6.tm 29 _ rfl).2
   by_cases hst:nI gU i.toNat 7=-1
   ·refine jD (by rw[hc,hst];rfl) (fm ?_);refine⟨hr6.defers,.tuple #[],jT rfl _ _ _,⟨_,rfl⟩,.inl ⟨_,rfl,?_⟩⟩
    have hlen:A.length=(nL gU i.toNat 2).length:=by
     have:(A.map enc).length=(needL (nL gU i.toNat 2) (nI gU i.toNat 7)).length:=by rw[hA]
     rw[needL,if_pos hst]at this;simpa using this
    rw[<-hlen,x6]at hj6;exact hj6
   ·refine jR (by rw[hc];simp[hst]) (gL ?_);obtain⟨hkA,henc,hlen⟩:=jBt hA hst;obtain⟨fn,tmps,assign,body,hy,hRd⟩:=hY _ hkA w6 hj6;rw[henc]at hy;refine xx rfl fun K2 hK2=>jdG (t:=30) hr6 rfl trivial rfl (by decide) fun a7 hr7=>hK2 _ _ ?_;refine xx rfl fun K2 hK2=>jdG (t:=31) hr7 rfl trivial rfl (by decide) fun a8 hr8=>hK2 _ _ ?_;refine xx rfl fun K2 hK2=>jdG (t:=32) hr8 rfl trivial rfl (by decide) fun a9 hr9=>hK2 _ _ ?_;have g30:a9.eval (.tmp 30)=.func (.yield l) #[] #[]:=(hr9.tm 30 _ rfl).2;have g32:a9.eval (.tmp 32)=.int .i64 (nI gU i.toNat 7):=(hr9.tm 32 _ rfl).2;refine xx rfl fun K2 hK2=>⟨fun _ _=>trivial,?_⟩
    rw[juJ (ty:=3) g30 g32 hy _ rfl];refine⟨(fun h=>by cases h),hRd.mono ?_⟩;rintro e w7 (⟨rfl,hj7,hk7⟩|⟨rfl,hj7⟩)
    ·refine hK2 _ _ (jS ?_);refine⟨(jgJ (t:=33) (v:=vb true) hr9 trivial (by decide)).defers,.tuple #[],jT rfl _ _ _,⟨_,rfl⟩,.inl ⟨_,rfl,?_⟩⟩;rw[<-hlen,x6]at hj7;exact hj7
    ·refine hK2 _ _ (jS ?_);exact⟨(jgJ (t:=33) (v:=vb false) hr9 trivial (by decide)).defers,.tuple #[],jT rfl _ _ _,⟨_,rfl⟩,.inr ⟨_,⟨_,by omega,rfl⟩,hj7⟩⟩
end Go.Sx09
end

section
namespace Go.Sx09
open Go Go.Proofs Go.RowKit Go.Shelf Go.Sx
attribute [local go_sem] jB
set_option maxHeartbeats 2000000 in
def jxv (n:Nat) (p:Option Addr) (i:Int) (w:zs) :
  fF xG n Tryz.prog 86 #[.pointer p,.int .i64 i] w fun e w'=>e=.returned (.func (.func 132) #[] #[.pointer (some ⟨w.heap.size,0,none⟩),.pointer (some ⟨w.heap.size+1,0,none⟩)])∧w'=(w.alloc (.cells #[.pointer p] 126)).alloc (.cells #[.int .i64 i] 3):=by
 refine gC Tryz.func86 rfl trivial ?_ rfl;simp only[Tryz.ntmps86,xr,zC,qa,gD,gE,jh,ji,jU,jv,qT,qq]
 gi_wp2
 go_ret
 exact⟨rfl,rfl⟩
def jEQ (w:zs) (c0 c1 c2 c3:Array zt) (t0 t1 t2 t3:TypeId):∃w2,w2.heap.size=w.heap.size+4∧x8 w.heap.size w w2∧w2.heap[w.heap.size]?=some (.cells c0 t0 (0,0))∧w2.heap[w.heap.size+1]?=some (.cells c1 t1 (0,0)) ∧
  w2.heap[w.heap.size+1+1]?=some (.cells c2 t2 (0,0))∧w2.heap[w.heap.size+1+1+1]?=some (.cells c3 t3 (0,0))∧(((w.alloc (.cells c0 t0)).alloc (.cells c1 t1)).alloc (.cells c2 t2)).alloc (.cells c3 t3)=w2:=by
 have new:∀(w:zs) (c:Array zt) (t:TypeId) (m:Nat),w.heap.size=m->(w.alloc (.cells c t)).heap[m]?=some (.cells c t (0,0)):=fun w c t m e=>by subst e;exact World.alloc_heap_new w (.cells c t)
 have old:∀(w:zs) (o o':Obj) (k:Nat),w.heap[k]?=some o->(w.alloc o').heap[k]?=some o:=fun w o o' k h=>(Below.heap_alloc w o' k (zH.1 h).1).trans h;refine⟨_,by simp,(((xz _ w).alloc (zq _) _).alloc (by simp) _).alloc (by simp;omega) _ |>.alloc (by simp;omega) _,?_,?_,?_,?_,rfl⟩
 ·exact old _ _ _ _ (old _ _ _ _ (old _ _ _ _ (new w c0 t0 _ rfl)))
 ·exact old _ _ _ _ (old _ _ _ _ (new _ c1 t1 _ (by simp)))
 ·exact old _ _ _ _ (new _ c2 t2 _ (by simp))
 ·exact new _ c3 t3 _ (by simp)
def readyB (pl:List Bool) (L:List Int):Bool:=L.all fun x=>pl.getD x.toNat false
set_option maxHeartbeats 4000000 in
def ready_in (nm:ByteArray) (gU:List (List NC)) (od:List Int) (i:Int) (pl:List Bool) (I:Env) (w:zs)
  (hh:HRel I (kd fun k=>k<w.heap.size) [(3,.ext (.bools pl)),(2,.ebox [.d (.s nm),.o 0,.o 1]),(1,.ext (.ints .i64 od)),(0,.xext (.st shU gU))] 4 w)
  (hi:0<=i∧i<gU.length) (hL:((nL gU i.toNat 2).length:Int)<9223372036854775807) (hx:∀x∈needL (nL gU i.toNat 2) (nI gU i.toNat 7),0<=x∧x<pl.length) :
  fF xG 9 Tryz.prog 85 #[(C.p 2 0 1 0).val I,.int .i64 i,I 3] w fun e w'=>e=.returned (.bool (readyB pl (needL (nL gU i.toNat 2) (nI gU i.toNat 7))))∧x8 w.heap.size w w':=by
 have h1:1<=9:=by omega
 have hro:xG.round=none:=rfl;obtain⟨gb,go,hgp,hgB,hgc⟩:=(hh.ok 2 _ rfl).2.2;have hrow:=(hh.ok 3 _ rfl).2.2;obtain⟨⟨pa,pc,hpv,hpc,hpcells⟩,hpo⟩:=hrow
 have hP:(C.p 2 0 1 0).val I=.pointer (some ⟨gb,go,none⟩):=by
  simp only[C.val,hgp,base];rfl
 rw[hP,hpv];refine callsIn_of_wp_marks Tryz.func85 rfl trivial ?_ hro;simp only[Tryz.ntmps85,xr,zC,qa,gD,gE,jh,ji,jU,jv,qT,qq]
 gi_wp2_with (refine⟨trivial,?_⟩;gi_at_call 86;refine(jxv _ _ i _).mono ?_;rintro e w' ⟨rfl,rfl⟩)
 obtain⟨w2,hs2,hB0,k0,k1,k2,k3,hw2⟩:=jEQ w #[.slice pa (Cont.bools pl).n pc] #[.bool false] #[.pointer (some ⟨gb,go,none⟩)] #[.int .i64 i] 133 4 126 3;rw[hw2]
 have hne:∀(A:List {x:Int // 0<=x∧x<pl.length}),A.map (fun x=>x.1)=needL (nL gU i.toNat 2) (nI gU i.toNat 7)->readyB pl (needL (nL gU i.toNat 2) (nI gU i.toNat 7))=A.all fun x=>pl.getD x.1.toNat false:=fun A hA=>by
  rw[<-hA];simp[readyB]
 obtain⟨A,hA⟩:∃A:List {x:Int // 0<=x∧x<pl.length},A.map (fun x=>x.1)=needL (nL gU i.toNat 2) (nI gU i.toNat 7) :=⟨(needL (nL gU i.toNat 2) (nI gU i.toNat 7)).attachWith _ hx,by simp⟩
 have hready:=hne A hA
 refine wpIn_rangeFunc_ownF hro h1 (gf:=132) (lb:=#[.pointer (some ⟨w.heap.size+1+1,0,none⟩),.pointer (some ⟨w.heap.size+1+1+1,0,none⟩)]) rfl trivial (enters_of Tryz.func132 (by kernel_rfl) rfl)
  (α:={x:Int // 0<=x∧x<pl.length}) (encs:=fun x=>#[.int .i64 x.1]) (Kp:=KpS fun k=>k≠w.heap.size+1) (S:=fun ys=>ys=A) (Sp:=fun pre=>∃k,k<=A.length∧pre=A.take k) (N:=A.length) (w0:=w2)
  ?seq kps_t kps_b (xz _ _) (fun _=>rfl)
  (fun pre W=>((∀y∈pre,pl.getD y.1.toNat false=true)∧W.cell? ⟨w.heap.size,0,none⟩=some (.slice pa (Cont.bools pl).n pc)∧W.cell? ⟨w.heap.size+1,0,none⟩=some (.bool false)∧W.frozen? ⟨w.heap.size+1,0,none⟩=false)∧x8 w.heap.size w W)
  (fun c pre W=>(c=.ret∧(∃y∈pre,pl.getD y.1.toNat false=false)∧W.cell? ⟨w.heap.size+1,0,none⟩=some (.bool false))∧x8 w.heap.size w W)
  (OwnFrom.and (Own.from (fun s A B row hs hg hr=>⟨hs.1,cell_kept hs.2.1 hg hr,cell_kept hs.2.2.1 hg hr,(frozen_kept hs.2.2.1 hg hr).trans hs.2.2.2⟩) _) (ownFrom_below (zq _) (by omega)))
  (fun c=>OwnFrom.and (Own.from (fun s A B row hs hg hr=>⟨hs.1,hs.2.1,cell_kept hs.2.2 hg hr⟩) _) (ownFrom_below (zq _) (by omega)))
  ⟨⟨by simp,jdx k0 rfl,jdx k1 rfl,?frozen⟩,hB0⟩
  (fun x=>{ tmps:=#[xf (some { block:=gb,off:=go }),xS xd i,qd pa (Cont.bools pl).n pc,zX,zX,xf (some { block:=w.heap.size,off:=0 }),xf (some { block:=w.heap.size+1,off:=0 }),.int .i64 x.1,xf (some { block:=gb,off:=go }),xS xd i,Value.func (Fn.func 132) #[] #[xf (some { block:=w.heap.size+1+1,off:=0 }),xf (some { block:=w.heap.size+1+1+1,off:=0 })],.int .i64 x.1,zX,zX,zX,zX,zX],defers:=[] }) ?assign ?body ?done ?stop
 case frozen =>
  unfold ke;dsimp only;rw[k1];rfl
 case seq =>
  intro l J Jx W hW hJ hJx hY h0;have hBW:x8 w.heap.size w W:=hB0.trans (hW.mono (by omega));have hsz:=hW.size;have at2:∀k o,k<w2.heap.size->w2.heap[k]?=some o->W.heap[k]?=some o:=fun k o hk ho=>(hW.block k hk).trans ho
  have hmono:∀k,(kd fun k=>k<w.heap.size).kp k->(kd fun k=>k<W.heap.size∧k≠w.heap.size+1).kp k:=fun k hk=>by
   have hk:k<w.heap.size:=hk;exact⟨by omega,by omega⟩
  have hbw:Bel (kd fun k=>k<w.heap.size).kp w W:=⟨hBW.os,hBW.tape,hBW.output,hBW.size,hBW.block⟩
  let I':Env:=fun h=>match h with|0=>.pointer (some ⟨w.heap.size+1,0,none⟩)|1=>.pointer (some ⟨w.heap.size+1+1,0,none⟩)|2=>.pointer (some ⟨w.heap.size+1+1+1,0,none⟩)|3=>I 2|_=>I 0
  have hx0:=(hh.ok 0 _ rfl).2.2
  have hrel:HRel I' (kd fun k=>k<W.heap.size∧k≠w.heap.size+1) (stI (.func (.yield l) #[] #[]) nm gU i (I 1)).hp 5 W:=by
   refine⟨fun x o hf=>?_,fun x o x' o' b hf hf' hne hb=>?_,jfv⟩
   ·simp only[stI,find]at hf;split at hf
    ·rename_i e;subst e;cases hf;exact⟨by decide,(fun c hc=>by simp at hc;subst hc;trivial),w.heap.size+1,rfl,fun h=>(jbL.1 h).2 rfl,at2 _ _ (by omega) k1⟩
    ·split at hf
     ·rename_i e;subst e;cases hf;refine⟨by decide,(fun c hc=>by simp at hc;subst hc;exact(by decide:3<5)),w.heap.size+1+1,0,rfl,⟨by omega,by omega⟩,fun j c hj=>?_⟩;refine(jdx (at2 _ _ (by omega) k2) (j:=0+j) (v:=c.val I') ?_)
      match j,hj with
      |0,hj=>cases hj;exact congrArg some hP.symm
      |j+1,hj=>cases hj
     ·split at hf
      ·rename_i e;subst e;cases hf;refine⟨by decide,(fun c hc=>by simp at hc;subst hc;trivial),w.heap.size+1+1+1,0,rfl,⟨by omega,by omega⟩,fun j c hj=>?_⟩;refine(jdx (at2 _ _ (by omega) k3) (j:=0+j) (v:=c.val I') ?_)
       match j,hj with
       |0,hj=>cases hj;rfl
       |j+1,hj=>cases hj
      ·split at hf
       ·rename_i e;subst e;cases hf;refine⟨by decide,(fun c hc=>by simp at hc;rcases hc with rfl|rfl|rfl<;>first|exact True.intro|exact(by decide:4<5)),gb,go,hgp,hmono _ hgB,fun j c hj=>?_⟩;refine(hbw.cell (p:=⟨gb,go+j,none⟩) hgB).trans ?_
        match j,hj with
        |0,hj=>cases hj;exact hgc 0 _ rfl
        |1,hj=>cases hj;exact hgc 1 _ rfl
        |2,hj=>cases hj;exact hgc 2 _ rfl
        |j+3,hj=>cases hj
       ·split at hf
        ·rename_i e;subst e;cases hf;exact⟨by decide,trivial,(IsX.bel hx0 hbw).mono hmono⟩
        ·cases hf
   ·simp only[stI,find]at hf hf'
    have hz:∀y oy,find (stI (.func (.yield l) #[] #[]) nm gU i (I 1)).hp y=some oy->y≠0->oy.blk (I' y)=none:=fun y oy hy hy0=>by
     simp only[stI,find]at hy;rw[if_neg (yQ hy0)]at hy
     repeat' split at hy
     all_goals (cases hy;try rfl)
    by_cases e:x=0
    ·rw[hz x' o' hf' (by omega)];intro h;cases h
    ·rw[hz x o hf e]at hb;cases hb
  refine(jC5 _ l (w.heap.size+1) nm gU i (I 1) I' W hrel rfl hi hL (fun x=>x.1) A hA J Jx (fun k hk W1 hj=>?_) hJ h0);have e1:A.take (k+1)=A.take k++[A[k]]:=by rw[List.take_succ_eq_append_getElem hk]
  rw[e1];exact hY (A.take k) A[k] W1 hj (by rw[List.length_take];omega)
 case assign =>
  intro l x W K hK
  gi_wp2
  exact hK
 case body =>
  rintro l pre x W ⟨⟨hp,hv5,hcr,hfr⟩,hB⟩ _;have hlt:w.heap.size+1<W.heap.size:=qP W ⟨w.heap.size+1,0,none⟩ hcr;have hx1:=x.2.1;have hx2:=x.2.2;obtain⟨b,off,hab,hcells⟩:=hpcells (by show 0<pl.length;omega);subst hab
  have hcell:W.cell? ⟨b,off+x.1.toNat,none⟩=some (.bool (pl.getD x.1.toNat false)):=by
   have hc:=hcells x.1.toNat (.b (pl.getD x.1.toNat false)) (by
    have:=(Cont.bools pl).flat_get (i:=x.1.toNat) (j:=0) (by show x.1.toNat<pl.length;omega) Nat.one_pos;simpa [Cont.e,Cont.cell]using this)
   have hbl:b<w.heap.size:=qP w ⟨b,off+x.1.toNat,none⟩ hc;exact(hB.cell (p:=⟨b,off+x.1.toNat,none⟩) hbl).trans hc
  have hx3:x.1<((Cont.bools pl).n:Int):=hx2;clear hcells hready hA hne hpcells hpc hpo hgc hgB hgp hP hx hL hi hh hpv k0 k1 k2 k3 hs2 hB0 hw2;have hgd:pl.getD x.1.toNat false=pl[x.1.toNat]'(by omega):=by simp[za,zG (show x.1.toNat<pl.length by omega)]
  gi_wp2
  ·rename_i hxx;exact⟨KeepsOthers.setCell _ _ _,⟨rfl,⟨x,qK.2 (.inr (by simp)),by rw[hgd];simpa using hxx⟩,yF _ _ _ (by rw[hcr];rfl)⟩,hB.setCell (p:=⟨w.heap.size+1,0,none⟩) (by simp) _⟩
  ·rename_i hxx;exact⟨KeepsOthers.refl _,jC3 (xz _ _),⟨fun y hy=>(qK.1 hy).elim (hp y) (fun e=>by simp at e;subst e;rw[hgd];simpa using hxx),hv5,hcr,hfr⟩,hB⟩
 case done =>
  rintro D ys W hD rfl ⟨⟨hne,hv5,hcr,hfr⟩,hB⟩ hK;clear hpcells hpc hpo hgc hgB hgp hP hx hL hi hh hpv k0 k1 k2 k3 hB0 hw2
  gi_wp2
  have hK':=(KeepsOthers.setCell W ⟨w.heap.size+1,0,none⟩ (.bool true)).same D _ hK rfl;refine⟨by simp,.inl ⟨_,_,rfl,run_takeDeferred hK',?_⟩⟩;have hc5:=cell_kept (yF W ⟨w.heap.size+1,0,none⟩ (.bool true) (by rw[hcr];rfl)) (grownBy_putObj' _ D (.deferred none)) (fun r e=>by cases e;exact⟨_,hK',rfl⟩)
  have hall:readyB pl (needL (nL gU i.toNat 2) (nI gU i.toNat 7))=true:=by
   rw[hready];exact zx.2 fun y hy=>hne y hy
  refine⟨.bool true,?_,by rw[hall],(hB.setCell (p:=⟨w.heap.size+1,0,none⟩) (by simp) _).trans (belowK_b (w:=w) (zq _) _ D _ _ (by omega) hK' rfl rfl)⟩;simp[results,Tryz.f85,go_sem,hc5]
 case stop =>
  rintro D c pre W hD ⟨k,hk,rfl⟩ ⟨⟨rfl,⟨y,hy,hpy⟩,hcr⟩,hB⟩ hK;clear hpcells hpc hpo hgc hgB hgp hP hx hL hi hh hpv k0 k1 k2 k3 hB0 hw2
  gi_wp2
  refine⟨by simp,.inl ⟨_,_,rfl,run_takeDeferred hK,?_⟩⟩;have hc5:=cell_kept hcr (grownBy_putObj' _ D (.deferred none)) (fun r e=>by cases e;exact⟨_,hK,rfl⟩)
  have hall:readyB pl (needL (nL gU i.toNat 2) (nI gU i.toNat 7))=false:=by
   rw[hready,Bool.eq_false_iff];intro h;have:=zx.1 h y (List.mem_of_mem_take hy);rw[hpy]at this;cases this
  refine⟨.bool false,?_,by rw[hall],hB.trans (belowK_b (w:=w) (zq _) W D _ _ (by omega) hK rfl rfl)⟩;simp[results,Tryz.f85,go_sem,hc5]
end Go.Sx09
end

section
open Go.RowKit
namespace Go.Sx
section
variable [Globs] {P:Program}
def jER {f:Nat} {fn:Func} {body:Code} {shs:List SV} {g:List Lf->Option GT} (hf:P.funcs[f]?=some fn) (hb:fn.body=some body) (hn:(fn.name == "runtime.NumGoroutine")=false)
  (h:∀ls t,g ls=some t->∃ob x,t=.leaf ob [.c (.d x)]∧(ob->∀b:Bv,jdQ shs 0 ls=some b->∀I w,HRel I (kd fun k=>k<w.heap.size) b.hp b.n w->Calls P f (b.vs.map (V.val I)).toArray w fun e w'=>e=.returned x.val∧x8 w.heap.size w w')) :
  jaf P f true (jah shs g):=by
 refine .inl ⟨jdr hf hb hn,fun I B w args hp nx t hS hob hlt hh hB=>?_⟩;unfold jah at hS;split at hS
 ·rename_i ls am hto;split at hS
  ·rename_i t' hg;cases hS;obtain⟨ob,x,rfl,hc⟩:=h ls t' hg;rw[jb2]at hob;have hob:ob:=hob;obtain⟨b,I0,hbl,q⟩:=jhY (jz8 hh hB) hh hB shs args ls am hto hlt 0 (fun _=>zX) [];rw[List.append_nil]at hbl
   have hh0:HRel I0 (kd fun k=>k<w.heap.size) b.hp b.n w:=by
    refine⟨fun x o hf=>?_,fun x o x' o' k hf hf' _ hb=>?_,jp3 hh.glob hB⟩
    ·obtain⟨_,a2,a3,a4,_⟩:=q.heap x o hf;exact⟨a2,a3,a4⟩
    ·obtain⟨_,_,_,_,a5⟩:=q.heap x o hf;rw[a5]at hb;cases hb
   have hcalls:=hc hob b hbl I0 w hh0;rw[q.val]at hcalls;refine hcalls.mono ?_;rintro e w' ⟨rfl,hbw⟩;refine⟨I,?_,jak.refl _ _,?_,?_,⟨B,Grow.refl _ _ _ _,?_⟩,jc5 hbw hB,fun _=>hbw,fun _ h o k hle hf _=>?_⟩
   ·rw[jb2];rfl
   ·rw[jb2];trivial
   ·rw[jb2];exact zq _
   ·rw[jb2];exact hh.below hbw hB
   ·rw[jb2]at hf;have:=(hh.ok h o hf).1;omega
  ·cases hS
 ·cases hS
end
end Go.Sx
end

section
namespace Go.Sh
open Go Go.Proofs Go.RowKit Go.Sx
def juK:List SV:=[.c (.p [.d,.x (.st zS []),.r (.ints .i64 [])]),.c .d,.c (.r (.bools []))]
def jdH (gUnits:List (List NC)) (i:Int) (placed:List Bool):Option Bool :=
 if 0<=i∧i<gUnits.length then
  if((nL gUnits i.toNat 2).length:Int)<9223372036854775807∧(Sx09.needL (nL gUnits i.toNat 2) (nI gUnits i.toNat 7)).all (fun x=>decide (0<=x∧x<placed.length))=true then some (Sx09.readyB placed (Sx09.needL (nL gUnits i.toNat 2) (nI gUnits i.toNat 7)))
  else none
 else none
def jna:List Lf->Option GT|[.d (.s gName),.x (.st [.s,.i .i64,.ints .i64,.ints .i64,.ints .i64,.i .i64,.recs 5,.i .i64] gUnits),.r (.ints .i64 order),.d (.i .i64 i),.r (.bools placed)]=>some (.leaf (ok (jdH gUnits i placed)) [.c (.d (.b (val (jdH gUnits i placed))))])|_=>none
abbrev sp_85:jaa->jaa:=jap 85 true (jah juK jna)
def jBu:jaf Tryz.prog 85 true (jah juK jna):=by
 refine jER (fn:=Tryz.f85) (body:=bodyOf Tryz.f85) Tryz.func85 (by kernel_rfl) (by kernel_rfl) fun ls t h=>?_;unfold jna at h;split at h
 ·rename_i gName gUnits order i placed;cases h;refine⟨_,_,rfl,fun hok b hb I w hh=>?_⟩
  have hbe:b=⟨[.w (.c (.p 2 0 1 0)),.w (.c (.d (.i .i64 i))),.w (.c (.o 3))],[(3,.ext (.bools placed)),(2,.ebox [.d (.s gName),.o 0,.o 1]),(1,.ext (.ints .i64 order)),(0,.xext (.st Sx09.shU gUnits))],4,[]⟩ :=ye (hb.symm.trans (by kernel_rfl))
  subst hbe;unfold ok jdH at hok;split at hok
  ·rename_i hi;split at hok
   ·rename_i hL
    have hv:val (jdH gUnits i placed)=Sx09.readyB placed (Sx09.needL (nL gUnits i.toNat 2) (nI gUnits i.toNat 7)):=by
     unfold jdH;rw[if_pos hi,if_pos hL];rfl
    rw[hv];exact(fG (n:=9)).1 (Sx09.ready_in gName gUnits order i placed I w hh hi hL.1 fun x hx=>by simpa using zx.1 hL.2 x hx)
   ·cases hok
  ·cases hok
 ·cases h
def sp_85_ok {sp:jaa} (h:jab Tryz.prog sp):jab Tryz.prog (sp_85 sp):=jag jBu h
open Go.IntKind (wrap)
def jhh:List SV:=[.a [.d,.x (.st zS [])]]
def jcB (u1:List (List NC)) (x0:Int × List Bool × List Int) (x1:Int):Option (Int ⊕ Int) :=
 if x1<(↑u1.length:Int)then if 0<=x1∧x1<(↑x0.2.1.length:Int)then
  if zf x1<zb x0.2.1 then if(!za x0.2.1 x1.toNat false)=true then
   ze (jdH u1 x1 x0.2.1) fun r1 =>
   if(r1)=true then some (.inr x1)
   else some (.inl (wrap .i64 (x1+1)))
   else
   some (.inl (wrap .i64 (x1+1)))
  else none
  else none
 else some (.inr (-1:Int))
def jiS (x0:Int × List Bool × List Int) (u19:Int):Option ((Int × List Bool × List Int) ⊕ (Unit ⊕ (List Int))) :=
 if(u19==(-1:Int))=true then some (.inr ((.inl ())))
 else if 0<=u19∧u19<(↑x0.2.1.length:Int)then
  if zf u19<zb x0.2.1 then if(zb x0.2.2+zb [u19])*8<=140737488355328∧zb x0.2.2+zb [u19]<=9223372036854775807 then some (.inl ((wrap .i64 (x0.1+1),qv x0.2.1 u19.toNat true,x0.2.2++[u19])))
   else none
  else none
  else none
def jcf (u1:List (List NC)) (x0:(Int × List Bool × List Int)):Option ((Int × List Bool × List Int) ⊕ (Unit ⊕ (List Int))) :=
 if x0.1<(↑u1.length:Int)then ze (jae (jcB u1 x0) big (0:Int)) (jiS x0)
 else some (.inr (.inr x0.2.2))
def jvu (u5:Unit):Option Int :=some (19:Int)
def jvv (u10:List Int):Option Int :=none
def jiT:(Unit ⊕ (List Int))->Option Int :=(qz (jvu) (jvv))
def jbI (u4:zY) (u1:List (List NC)):Option Int :=
 ze (y75 u4 u1) fun r0 =>
 if(r0.2 != 0)=true then some r0.2
 else if 0<=(↑u1.length:Int)∧(↑u1.length:Int)=(↑u1.length:Int)∧(↑(1:Nat):Int)*(↑u1.length:Int)<=281474976710656∧(↑u1.length:Int)<=9223372036854775807 then ze (jae (jcf u1) big (((0:Int),zi (zf (↑u1.length:Int)) false,[]))) (jiT)
  else none
def jpu (u1:List (List NC)) (x0:Int × List Bool × List Int) (x1:Int):Option (Int ⊕ Int) :=
 if x1<(↑u1.length:Int)then if 0<=x1∧x1<(↑x0.2.1.length:Int)then
  if zf x1<zb x0.2.1 then if(!za x0.2.1 x1.toNat false)=true then
   ze (jdH u1 x1 x0.2.1) fun r1 =>
   if(r1)=true then some (.inr x1)
   else some (.inl (wrap .i64 (x1+1)))
   else
   some (.inl (wrap .i64 (x1+1)))
  else none
  else none
 else some (.inr (-1:Int))
def jpv (x0:Int × List Bool × List Int) (u19:Int):Option ((Int × List Bool × List Int) ⊕ (Unit ⊕ (List Int))) :=
 if(u19==(-1:Int))=true then some (.inr ((.inl ())))
 else if 0<=u19∧u19<(↑x0.2.1.length:Int)then
  if zf u19<zb x0.2.1 then if(zb x0.2.2+zb [u19])*8<=140737488355328∧zb x0.2.2+zb [u19]<=9223372036854775807 then some (.inl ((wrap .i64 (x0.1+1),qv x0.2.1 u19.toNat true,x0.2.2++[u19])))
   else none
  else none
  else none
def jfw (u1:List (List NC)) (x0:(Int × List Bool × List Int)):Option ((Int × List Bool × List Int) ⊕ (Unit ⊕ (List Int))) :=
 if x0.1<(↑u1.length:Int)then ze (jae (jpu u1 x0) big (0:Int)) (jpv x0)
 else some (.inr (.inr x0.2.2))
def jvw (u4:zY) (u5:Unit):Option (ByteArray × List Int × Int) :=none
def jvx (u4:zY) (u10:List Int):Option (ByteArray × List Int × Int) :=some ((u4,u10,0))
def jiU (u4:zY):(Unit ⊕ (List Int))->Option (ByteArray × List Int × Int) :=(qz (jvw u4) (jvx u4))
def jbx (u4:zY) (u1:List (List NC)):Option (ByteArray × List Int × Int) :=
 ze (y75 u4 u1) fun r0 =>
 if(r0.2 != 0)=true then none
 else if 0<=(↑u1.length:Int)∧(↑u1.length:Int)=(↑u1.length:Int)∧(↑(1:Nat):Int)*(↑u1.length:Int)<=281474976710656∧(↑u1.length:Int)<=9223372036854775807 then ze (jae (jfw u1) big (((0:Int),zi (zf (↑u1.length:Int)) false,[]))) (jiU u4)
  else none
def jxw:List Lf->Option GT|[.d (.s u4),.x (.st [.s,.i .i64,.ints .i64,.ints .i64,.ints .i64,.i .i64,.recs 5,.i .i64] u1)]=>some (.br (gF (jbI u4 u1)) (.leaf (ok (jbI u4 u1)) [.c (.d (.v (xf none))),.c (.d (.i .i64 ((val (jbI u4 u1)))))]) (.leaf (ok (jbx u4 u1)) [.c (.box 130 [.d (.s ((val (jbx u4 u1)).1)),.g 0,.row 3 (.ints .i64 ((val (jbx u4 u1)).2.1))]),.c (.d (.i .i64 ((val (jbx u4 u1)).2.2)))]))|_=>none
abbrev jiV (u4:zY) (u1:List (List NC)) (r:Int):Lp ((Int × List Bool × List Int) × Nat) (Int × List Bool × List Int) ((Unit ⊕ (List Int))) Int Int :=⟨fun z=>z.1,fun z=>z.2,fun z x n=>(x,n),fun z=>jcf u1,fun z=>jiT,fun z=>top r,fun z=>0,[.c fun _=>0,.c fun _=>0,.c fun _=>(↑u1.length:Int),.c fun vv=>vv.1.1,.c fun _=>u4,.c fun _=>u4,.c fun vv=>vv.1.2.1,.c fun _=>u1,.c fun vv=>vv.1.2.2]⟩
abbrev jpw (u4:zY) (u1:List (List NC)) (r:Int) (m1:Nat):Lp ((Int × List Bool × List Int) × Nat × Int × Nat) Int Int (((Int × List Bool × List Int) ⊕ (Unit ⊕ (List Int)))) Int :=⟨fun z=>z.2.2.1,fun z=>z.2.2.2,fun z x n=>(z.1,z.2.1,x,n),fun z=>jcB u1 z.1,fun z=>jiS z.1,fun z=>(jiV u4 u1 r).cx (z.1,m1),fun z=>z.2.1,[.c fun _=>0,.c fun _=>0,.c fun _=>(-1:Int),.c fun _=>(↑u1.length:Int),.c fun vv=>vv.1.1,.c fun _=>(↑u1.length:Int),.c fun vv=>vv.2.2.1,.c fun _=>u4,.c fun _=>u4,.c fun vv=>vv.1.2.1,.c fun _=>u1,.c fun vv=>vv.1.2.2]⟩
def jzm (u4:zY) (u1:List (List NC)) (r:Int):Sk (top r) (ze (jae (jcf u1) big (((0:Int),zi (zf (↑u1.length:Int)) false,[]))) (jiT)) :=
 .loopQ (jiV u4 u1 r) [.c fun _=>0,.c fun _=>0,.c fun _=>(↑u1.length:Int),.c fun vv=>vv.1.1,.c fun _=>u4,.c fun _=>u4,.c fun vv=>vv.1.2.1,.c fun _=>u1,.p fun vv=>zb vv.1.2.2=(0:Nat)] (fun kk=>(((0:Int),zi (zf (↑u1.length:Int)) false,[]),big)) (fun z0 =>
 .br
 (.loop (jpw u4 u1 r z0.2) (fun kk=>(z0.1,kk,0,big)) fun z1 =>
 .br
 (.ob (.ob (.brB
 (.call (.brB
 (.exit (.brB
 (.exit (.obT (.obT (.ret (fun r=>(Ob (xf none=xf none) ∧
 (Ob ((19:Int)=r) ∧
 True))) ⟨⟨rfl⟩,⟨⟨rfl⟩,trivial⟩⟩))))
 (.ob (.ob (.ob (.next))))))
 (.next)))
 (.next))))
 (.exit (.exit (.obT (.obT (.ret (fun r=>(Ob (xf none=xf none) ∧
 (Ob ((19:Int)=r) ∧
 True))) ⟨⟨rfl⟩,⟨⟨rfl⟩,trivial⟩⟩))))))
 (.exit (.obT (.obT (.bad (False)))))) (fun _=>⟨rfl,trivial⟩)
def jBv (u4:zY) (u1:List (List NC)) (r:Int):Sk (top r) (jbI u4 u1) :=.call (.brB
 (.obT (.obT (.ret (fun r=>(Ob (xf none=xf none) ∧
 (Ob ((val (y75 u4 u1)).2=r) ∧
 True))) ⟨⟨rfl⟩,⟨⟨rfl⟩,trivial⟩⟩)))
 (.ob (jzm u4 u1 r)))
def jzn (u4:zY) (u1:List (List NC)) (r:Int) (h:ze (jbI u4 u1) some=some r):jaR Tryz.f80 ((sp_18 (sp_85 sp0))) (fun gs id _=>match id with
 |0=>some ⟨(Int × List Bool × List Int) × Nat,fun z=>⟨[(1,.w (.c (.p 1 0 1 0))),(6,.w (.c (.p 2 0 1 0))),(7,.w (.c (.o 3))),(27,.w (.c (.d (.i .i64 ((↑u1.length:Int)))))),(28,.w (.c (.d (.i .i64 z.1.1))))],[(1,.box 24 [.d (.s u4),.o 0]),(2,.box 130 [.d (.s u4),.o 0,.o 4]),(3,.row 4 (.bools z.1.2.1)),(0,.xext (XC.st zS u1)),(4,.row 3 (.ints .i64 z.1.2.2))],5⟩,fun z=>(jiV u4 u1 r).inv z,fun z=>z.2⟩
 |2=>some ⟨(Int × List Bool × List Int) × Nat × Int × Nat,fun z=>⟨[(1,.w (.c (.p 1 0 1 0))),(6,.w (.c (.p 2 0 1 0))),(7,.w (.c (.o 3))),(8,.w (.c (.d (.i .i64 (-1:Int))))),(27,.w (.c (.d (.i .i64 ((↑u1.length:Int)))))),(28,.w (.c (.d (.i .i64 (z.1.1))))),(32,.w (.c (.d (.i .i64 ((↑u1.length:Int)))))),(33,.w (.c (.d (.i .i64 z.2.2.1))))],[(1,.box 24 [.d (.s u4),.o 0]),(2,.box 130 [.d (.s u4),.o 0,.o 4]),(3,.row 4 (.bools (z.1.2.1))),(0,.xext (XC.st zS u1)),(4,.row 3 (.ints .i64 (z.1.2.2)))],5⟩,fun z=>(jpw u4 u1 r (gs.getD 0 0)).inv z,fun z=>z.2.2.2⟩
 |_=>none) (jaK jhh [.d (.s u4),.x (.st zS u1)]) [.c (.d (.v (xf none))),.c (.d (.i .i64 r))] :=
 Sk.vc (jBv u4 u1 r) (by kernel_rfl) h
abbrev jiW (u4:zY) (u1:List (List NC)) (r:ByteArray × List Int × Int):Lp ((Int × List Bool × List Int) × Nat) (Int × List Bool × List Int) ((Unit ⊕ (List Int))) (ByteArray × List Int × Int) (ByteArray × List Int × Int) :=⟨fun z=>z.1,fun z=>z.2,fun z x n=>(x,n),fun z=>jfw u1,fun z=>jiU u4,fun z=>top r,fun z=>0,[.c fun _=>0,.c fun _=>0,.c fun _=>(↑u1.length:Int),.c fun vv=>vv.1.1,.c fun _=>u4,.c fun _=>u4,.c fun vv=>vv.1.2.1,.c fun _=>u1,.c fun vv=>vv.1.2.2]⟩
abbrev jpx (u4:zY) (u1:List (List NC)) (r:ByteArray × List Int × Int) (m1:Nat):Lp ((Int × List Bool × List Int) × Nat × Int × Nat) Int Int (((Int × List Bool × List Int) ⊕ (Unit ⊕ (List Int)))) (ByteArray × List Int × Int) :=⟨fun z=>z.2.2.1,fun z=>z.2.2.2,fun z x n=>(z.1,z.2.1,x,n),fun z=>jpu u1 z.1,fun z=>jpv z.1,fun z=>(jiW u4 u1 r).cx (z.1,m1),fun z=>z.2.1,[.c fun _=>0,.c fun _=>0,.c fun _=>(-1:Int),.c fun _=>(↑u1.length:Int),.c fun vv=>vv.1.1,.c fun _=>(↑u1.length:Int),.c fun vv=>vv.2.2.1,.c fun _=>u4,.c fun _=>u4,.c fun vv=>vv.1.2.1,.c fun _=>u1,.c fun vv=>vv.1.2.2]⟩
def jzo (u4:zY) (u1:List (List NC)) (r:ByteArray × List Int × Int):Sk (top r) (ze (jae (jfw u1) big (((0:Int),zi (zf (↑u1.length:Int)) false,[]))) (jiU u4)) :=
 .loopQ (jiW u4 u1 r) [.c fun _=>0,.c fun _=>0,.c fun _=>(↑u1.length:Int),.c fun vv=>vv.1.1,.c fun _=>u4,.c fun _=>u4,.c fun vv=>vv.1.2.1,.c fun _=>u1,.p fun vv=>zb vv.1.2.2=(0:Nat)] (fun kk=>(((0:Int),zi (zf (↑u1.length:Int)) false,[]),big)) (fun z0 =>
 .br
 (.loop (jpx u4 u1 r z0.2) (fun kk=>(z0.1,kk,0,big)) fun z1 =>
 .br
 (.ob (.ob (.brB
 (.call (.brB
 (.exit (.brB
 (.exit (.obT (.obT (.bad (False)))))
 (.ob (.ob (.ob (.next))))))
 (.next)))
 (.next))))
 (.exit (.exit (.obT (.obT (.bad (False)))))))
 (.exit (.obT (.obT (.rc))))) (fun _=>⟨rfl,trivial⟩)
def jBw (u4:zY) (u1:List (List NC)) (r:ByteArray × List Int × Int):Sk (top r) (jbx u4 u1) :=.call (.brB
 (.obT (.obT (.bad (False))))
 (.ob (jzo u4 u1 r)))
def jzp (u4:zY) (u1:List (List NC)) (r:ByteArray × List Int × Int) (h:ze (jbx u4 u1) some=some r):jaR Tryz.f80 ((sp_18 (sp_85 sp0))) (fun gs id _=>match id with
 |0=>some ⟨(Int × List Bool × List Int) × Nat,fun z=>⟨[(1,.w (.c (.p 1 0 1 0))),(6,.w (.c (.p 2 0 1 0))),(7,.w (.c (.o 3))),(27,.w (.c (.d (.i .i64 ((↑u1.length:Int)))))),(28,.w (.c (.d (.i .i64 z.1.1))))],[(1,.box 24 [.d (.s u4),.o 0]),(2,.box 130 [.d (.s u4),.o 0,.o 4]),(3,.row 4 (.bools z.1.2.1)),(0,.xext (XC.st zS u1)),(4,.row 3 (.ints .i64 z.1.2.2))],5⟩,fun z=>(jiW u4 u1 r).inv z,fun z=>z.2⟩
 |2=>some ⟨(Int × List Bool × List Int) × Nat × Int × Nat,fun z=>⟨[(1,.w (.c (.p 1 0 1 0))),(6,.w (.c (.p 2 0 1 0))),(7,.w (.c (.o 3))),(8,.w (.c (.d (.i .i64 (-1:Int))))),(27,.w (.c (.d (.i .i64 ((↑u1.length:Int)))))),(28,.w (.c (.d (.i .i64 (z.1.1))))),(32,.w (.c (.d (.i .i64 ((↑u1.length:Int)))))),(33,.w (.c (.d (.i .i64 z.2.2.1))))],[(1,.box 24 [.d (.s u4),.o 0]),(2,.box 130 [.d (.s u4),.o 0,.o 4]),(3,.row 4 (.bools (z.1.2.1))),(0,.xext (XC.st zS u1)),(4,.row 3 (.ints .i64 (z.1.2.2)))],5⟩,fun z=>(jpx u4 u1 r (gs.getD 0 0)).inv z,fun z=>z.2.2.2⟩
 |_=>none) (jaK jhh [.d (.s u4),.x (.st zS u1)]) [.c (.box 130 [.d (.s r.1),.g 0,.row 3 (.ints .i64 r.2.1)]),.c (.d (.i .i64 r.2.2))] :=
 Sk.vc (jBw u4 u1 r) (by kernel_rfl) h
def jC6:jaf Tryz.prog 80 true (jah jhh jxw):=by
 refine jan (sp:=(sp_18 (sp_85 sp0))) (fn:=Tryz.f80) (body:=bodyOf Tryz.f80) mixed (sp_18_ok (sp_85_ok jaj)) Tryz.func80 (by kernel_rfl) (by kernel_rfl) fun ls t h ho b hb=>?_;unfold jxw at h;split at h
 ·rename_i u4 u1;cases h;obtain rfl:=jav hb;refine jHF (Q:=fun rs=>_∧∃fuel loops,sx _ _ _ _ fuel loops _ _ _ _ _ (jbX _ _ fun v hp _=>jg1 _ rs v hp)) (fun _ ho=>⟨zh (by kernel_rfl),_,_,jzn u4 u1 _ (jai ho)⟩) (fun _ ho=>?_) ho;exact⟨zh (by kernel_rfl),_,_,jzp u4 u1 _ (jai ho)⟩
 ·cases h
end Go.Sh
end

section
open Go.RowKit
namespace Go.Sx
def nzI (e:Int):Int:=Int.ofNat (e.toNat-1+1)
def jHW {e:Int} (h:0<e):nzI e=e:=by
 unfold nzI;rw[Int.ofNat_eq_natCast];omega
def jC7 [Globs] {P:Program} {f:Nat} {shs:List SV} {g g':List Lf->Option GT} (h:∀ls t',g' ls=some t'->∃t,g ls=some t∧(t'.sel.1->t.sel.1∧t.sel.2=t'.sel.2)) (hS:jaf P f true (jah shs g)):jaf P f true (jah shs g'):=by
 have key:∀args hp nx t',jah shs g' args hp nx=some t'->t'.sel.ob->∃t,jah shs g args hp nx=some t∧t.sel.ob∧t.sel.v=t'.sel.v∧t.sel.hp=t'.sel.hp∧t.sel.nx=t'.sel.nx:=by
  intro args hp nx t' ht hob;unfold jah at ht ⊢;split at ht
  ·rename_i ls am hto;split at ht
   ·rename_i q' hg;cases ht;obtain⟨q,hq,himp⟩:=h ls q' hg;rw[jb2]at hob ⊢;obtain⟨h1,h2⟩:=himp hob;refine⟨q.toRT am hp nx,by simp only[hq],?_,?_,?_,?_⟩
    ·rw[jb2];exact h1
    all_goals rw[jb2];simp only[h2]
   ·cases ht
  ·cases ht
 rcases hS with hR|hV
 ·refine .inl ⟨hR.enter,fun I B w args hp nx t' ht hob hlt hh hB=>?_⟩;obtain⟨t,q1,q2,q3,q4,q5⟩:=key args hp nx t' ht hob;refine(hR.sound I B w args hp nx t q1 q2 hlt hh hB).mono ?_;rintro e w' ⟨I',he,hl⟩;refine⟨I',by rw[he,q3],hl.agree,by rw[<-q3,<-q5];exact hl.lt,by rw[<-q5];exact hl.le,by rw[<-q4,<-q5];exact hl.heap,hl.below,hl.mono,by rw[<-q4];exact hl.fresh⟩
 ·refine .inr fun I B w args hp nx t' ht hob hlt hh hB=>?_;obtain⟨t,q1,q2,q3,q4,q5⟩:=key args hp nx t' ht hob;obtain⟨ob,v,e1,e2,e3⟩:=hV I B w args hp nx t q1 q2 hlt hh hB;rw[e1]at q3 q4 q5;refine⟨t'.sel.ob,v,?_,e2,e3⟩;cases hs:t'.sel with
  |mk ob' v' hp' nx' =>
   rw[hs]at q3 q4 q5;simp only at q3 q4 q5;rw[<-q3,<-q4,<-q5]
end Go.Sx
namespace Go.Sh
open Go Go.Proofs Go.RowKit Go.Sx
def jcx (gName:ByteArray) (gUnits:List (List NC)):Option Int:=(jbI gName gUnits).bind fun e=>if 0<e then some e else none
def jay (gName:ByteArray) (gUnits:List (List NC)):Option (List Int):=(jbx gName gUnits).map fun r=>r.2.1
def jgx (gName:ByteArray) (gUnits:List (List NC)):Bool:=(jbI gName gUnits).isSome
def jnb:List Lf->Option GT|[.d (.s gName),.x (.st [.s,.i .i64,.ints .i64,.ints .i64,.ints .i64,.i .i64,.recs 5,.i .i64] gUnits)]=>some (.br (jgx gName gUnits) (.leaf (ok (jcx gName gUnits)) [.c (.d (.v (xf none))),.c (.d (.i .i64 (nzI (val (jcx gName gUnits)))))]) (.leaf (ok (jay gName gUnits)) [.c (.box 130 [.d (.s gName),.g 0,.row 3 (.ints .i64 (val (jay gName gUnits)))]),.c (.d (.i .i64 0))]))|_=>none
def jC8 {gName:ByteArray} {gUnits:List (List NC)} {r:ByteArray × List Int × Int} (h:jbx gName gUnits=some r):r.1=gName∧r.2.2=0:=by
 unfold jbx at h;obtain⟨c,_,h⟩:=zK.1 h;split at h
 ·cases h
 ·split at h
  ·obtain⟨y,_,h⟩:=zK.1 h;cases y with
   |inl u=>cases h
   |inr l=>cases h;exact⟨rfl,rfl⟩
  ·cases h
def jBx:jaf Tryz.prog 80 true (jah jhh jnb):=by
 refine jC7 (fun ls t' h=>?_) jC6;unfold jnb at h;split at h
 ·rename_i gName gUnits;cases h;refine⟨_,rfl,fun hob=>?_⟩;unfold jgx at hob ⊢;cases hq:(jbI gName gUnits).isSome with
  |true =>
   rw[hq]at hob;have hob:ok (jcx gName gUnits):=hob;obtain⟨e,he⟩:=Option.isSome_iff_exists.1 hq;have hF:jcx gName gUnits=if 0<e then some e else none:=by unfold jcx;rw[he];rfl
   have hpos:0<e:=by
    rw[hF]at hob
    by_cases h0:0<e
    ·exact h0
    ·rw[if_neg h0]at hob;cases hob
   rw[if_pos hpos]at hF;refine⟨hq,?_⟩
   show[RR.c (.d (.v (xf none))),RR.c (.d (.i .i64 (val (jbI gName gUnits))))]=[RR.c (.d (.v (xf none))),RR.c (.d (.i .i64 (nzI (val (jcx gName gUnits)))))]
   rw[jrG he,jrG hF,jHW hpos]
  |false =>
   rw[hq]at hob;have hob:ok (jay gName gUnits):=hob;cases he:jbx gName gUnits with
   |none=>unfold jay at hob;rw[he]at hob;cases hob
   |some r =>
    have hS:jay gName gUnits=some r.2.1:=by unfold jay;rw[he];rfl
    obtain⟨q1,q2⟩:=jC8 he;refine⟨rfl,?_⟩
    show[RR.c (.box 130 [.d (.s r.1),.g 0,.row 3 (.ints .i64 r.2.1)]),RR.c (.d (.i .i64 r.2.2))]=[RR.c (.box 130 [.d (.s gName),.g 0,.row 3 (.ints .i64 (val (jay gName gUnits)))]),RR.c (.d (.i .i64 0))]
    rw[jrG hS,q1,q2]
 ·cases h
abbrev sp_80:jaa->jaa:=jap 80 true (jah jhh jnb)
def sp_80_ok {sp:jaa} (h:jab Tryz.prog sp):jab Tryz.prog (sp_80 sp):=jag jBx h
end Go.Sh
end

section
namespace Go.Sh
open Go Go.Proofs Go.RowKit Go.Sx
open Go.IntKind (wrap)
def y199:List SV:=[.c (.p [.d,.x (.st zS []),.r (.ints .i64 [])]),.c (.r (.bools []))]
def y32 (u6:List (List NC)) (u7:List Int) (u42:List Bool) (x0:(Int × List Int)):Option ((Int × List Int) ⊕ (List Int)) :=
 if x0.1<(↑u7.length:Int)then if 0<=x0.1∧x0.1<(↑u7.length:Int)then
  if zf x0.1<zb u7 then if 0<=za u7 x0.1.toNat (0:Int)∧za u7 x0.1.toNat 0<(↑u6.length:Int)then
   if zf (za u7 x0.1.toNat (0:Int))<zb u6 then if 0<=za u7 x0.1.toNat (0:Int)∧za u7 x0.1.toNat 0<(↑u42.length:Int)then
    if zf (za u7 x0.1.toNat (0:Int))<zb u42 then if(!za u42 (zf (za u7 x0.1.toNat (0:Int))) false)=true then
     if 0<=za u7 x0.1.toNat (0:Int)∧za u7 x0.1.toNat 0<(↑x0.2.length:Int)then if zf (za u7 x0.1.toNat (0:Int))<zb x0.2 then some (.inl ((wrap .i64 (x0.1+1),qv x0.2 (zf (za u7 x0.1.toNat (0:Int))) (za u7 x0.1.toNat (0:Int)))))
      else none
     else none
     else
     if(nI u6 (zf (za u7 x0.1.toNat (0:Int))) (7:Nat)==(-1:Int))=true then if 0<=za u7 x0.1.toNat (0:Int)∧za u7 x0.1.toNat 0<(↑x0.2.length:Int)then
      if zf (za u7 x0.1.toNat (0:Int))<zb x0.2 then some (.inl ((wrap .i64 (x0.1+1),qv x0.2 (zf (za u7 x0.1.toNat (0:Int))) (-1:Int))))
      else none
      else none
     else if 0<=nI u6 (zf (za u7 x0.1.toNat (0:Int))) (7:Nat)∧nI u6 (zf (za u7 x0.1.toNat (0:Int))) 7<(↑x0.2.length:Int)then
      if zf (nI u6 (zf (za u7 x0.1.toNat (0:Int))) (7:Nat))<zb x0.2 then if 0<=za u7 x0.1.toNat (0:Int)∧za u7 x0.1.toNat 0<(↑x0.2.length:Int)then
       if zf (za u7 x0.1.toNat (0:Int))<zb x0.2 then some (.inl ((wrap .i64 (x0.1+1),qv x0.2 (zf (za u7 x0.1.toNat (0:Int))) (za x0.2 (zf (nI u6 (zf (za u7 x0.1.toNat (0:Int))) (7:Nat))) (0:Int)))))
       else none
       else none
      else none
      else none
    else none
    else none
   else none
   else none
  else none
  else none
 else some (.inr x0.2)
def y175 (u5:List Int):Option (List Int) :=some u5
def y82 (u9:zY) (u6:List (List NC)) (u7:List Int) (u42:List Bool):Option (List Int) :=
 if 0<=(↑u6.length:Int)∧(↑u6.length:Int)=(↑u6.length:Int)∧(↑(8:Nat):Int)*(↑u6.length:Int)<=281474976710656∧(↑u6.length:Int)<=9223372036854775807 then ze (jae (y32 u6 u7 u42) big (((0:Int),zi (zf (↑u6.length:Int)) (0:Int)))) (y175)
 else none
def y200:List Lf->Option GT|[.d (.s u9),.x (.st [.s,.i .i64,.ints .i64,.ints .i64,.ints .i64,.i .i64,.recs 5,.i .i64] u6),.r (.ints .i64 u7),.r (.bools u42)]=>some (.leaf (ok (y82 u9 u6 u7 u42)) [.c (.row 3 (.ints .i64 ((val (y82 u9 u6 u7 u42)))))])|_=>none
abbrev sp_93:jaa->jaa:=jap 93 true (jah y199 y200)
abbrev y285 (u9:zY) (u6:List (List NC)) (u7:List Int) (u42:List Bool) (r:List Int):Lp ((Int × List Int) × Nat) (Int × List Int) (List Int) (List Int) (List Int) :=⟨fun z=>z.1,fun z=>z.2,fun z x n=>(x,n),fun z=>y32 u6 u7 u42,fun z=>y175,fun z=>top r,fun z=>0,[.c fun _=>0,.c fun _=>(↑u7.length:Int),.c fun vv=>vv.1.1,.c fun _=>u9,.c fun _=>u42,.c fun vv=>vv.1.2,.c fun _=>u7,.c fun _=>u6]⟩
def jlN (u9:zY) (u6:List (List NC)) (u7:List Int) (u42:List Bool) (r:List Int):Sk (top r) (ze (jae (y32 u6 u7 u42) big (((0:Int),zi (zf (↑u6.length:Int)) (0:Int)))) (y175)) :=
 .loop (y285 u9 u6 u7 u42 r) (fun kk=>(((0:Int),zi (zf (↑u6.length:Int)) (0:Int)),big)) fun z0 =>
 .br
 (.ob (.ob (.obT (.ob (.ob (.ob (.ob (.brB
 (.ob (.ob (.next)))
 (.brB
 (.ob (.ob (.next)))
 (.ob (.ob (.ob (.ob (.next))))))))))))))
 (.exit (.obT (.rc)))
def jnc (u9:zY) (u6:List (List NC)) (u7:List Int) (u42:List Bool) (r:List Int):Sk (top r) (y82 u9 u6 u7 u42) :=.obT (.ob (.obT (jlN u9 u6 u7 u42 r)))
def jlO (u9:zY) (u6:List (List NC)) (u7:List Int) (u42:List Bool) (r:List Int) (h:ze (y82 u9 u6 u7 u42) some=some r):jaR Tryz.f93 (sp0) (fun gs id _=>match id with
 |0=>some ⟨(Int × List Int) × Nat,fun z=>⟨[(0,.w (.c (.p 2 0 1 0))),(1,.w (.c (.o 3))),(5,.w (.c (.o 4))),(19,.w (.c (.o 1))),(20,.w (.c (.d (.i .i64 ((↑u7.length:Int)))))),(21,.w (.c (.d (.i .i64 z.1.1))))],[(2,.ebox [.d (.s u9),.o 0,.o 1]),(3,.ext (.bools u42)),(4,.row 3 (.ints .i64 z.1.2)),(1,.ext (.ints .i64 u7)),(0,.xext (XC.st zS u6))],5⟩,fun z=>(y285 u9 u6 u7 u42 r).inv z,fun z=>z.2⟩
 |_=>none) (jaK y199 [.d (.s u9),.x (.st zS u6),.r (.ints .i64 u7),.r (.bools u42)]) [.c (.row 3 (.ints .i64 r))] :=
 Sk.vc (jnc u9 u6 u7 u42 r) (by kernel_rfl) h
def jlP:jaf Tryz.prog 93 true (jah y199 y200):=by
 refine jan (sp:=sp0) (fn:=Tryz.f93) (body:=bodyOf Tryz.f93) mixed jaj Tryz.func93 (by kernel_rfl) (by kernel_rfl) fun ls t h ho b hb=>?_;unfold y200 at h;split at h
 ·rename_i u9 u6 u7 u42;cases h;obtain rfl:=jav hb;exact⟨zh (by kernel_rfl),_,_,jlO u9 u6 u7 u42 _ (jai ho)⟩
 ·cases h
def sp_93_ok {sp:jaa} (h:jab Tryz.prog sp):jab Tryz.prog (sp_93 sp):=jag jlP h
end Go.Sh
end

section
namespace Go.Sh
open Go Go.Proofs Go.RowKit Go.Sx
open Go.IntKind (wrap)
def y158:List SV:=[.a [.d,.d],.c (.p [.d,.d])]
def y47 (u79 u80 u81 u82:Int):Option Bool :=some (u79==u81)
def y159:List Lf->Option GT|[.d (.i .i64 u79),.d (.i .i64 u80),.d (.i .i64 u81),.d (.i .i64 u82)]=>some (.leaf (ok (y47 u79 u80 u81 u82)) [.c (.d (.b ((val (y47 u79 u80 u81 u82)))))])|_=>none
abbrev sp_139:jaa->jaa:=jap 139 true (jah y158 y159)
def jjL (u79 u80 u81 u82:Int) (r:Bool):Sk (top r) (y47 u79 u80 u81 u82) :=.obT (.obT (.rc))
def jiX (u79 u80 u81 u82:Int) (r:Bool) (h:ze (y47 u79 u80 u81 u82) some=some r):jaR Tryz.f139 (sp0) (fun _ _ _=>none) (jaK y158 [.d (.i .i64 u79),.d (.i .i64 u80),.d (.i .i64 u81),.d (.i .i64 u82)]) [.c (.d (.b r))] :=Sk.vc (jjL u79 u80 u81 u82 r) (by kernel_rfl) h
def jiY:jaf Tryz.prog 139 true (jah y158 y159):=by
 refine jan (sp:=sp0) (fn:=Tryz.f139) (body:=bodyOf Tryz.f139) mixed jaj Tryz.func139 (by kernel_rfl) (by kernel_rfl) fun ls t h ho b hb=>?_;unfold y159 at h;split at h
 ·rename_i u79 u80 u81 u82;cases h;obtain rfl:=jav hb;exact⟨zh (by kernel_rfl),_,_,jiX u79 u80 u81 u82 _ (jai ho)⟩
 ·cases h
def sp_139_ok {sp:jaa} (h:jab Tryz.prog sp):jab Tryz.prog (sp_139 sp):=jag jiY h
def y67:List SV:=[.c (.r (.recs 2 [])),.c (.f 139 [.p [.d,.d]])]
def y14 (s:List (List Int)) (u47 u48 x0:Int):Option (Int ⊕ (Int ⊕ Unit)) :=
 if x0<(↑s.length:Int)then if 0<=x0∧x0<(↑s.length:Int)then
  if zf x0<zb s then
   ze (y47 (za (za s x0.toNat []) 0 (0:Int)) (za (za s x0.toNat []) 1 (0:Int)) u47 u48) fun r0 =>
   if(r0)=true then
   some (.inr (.inl x0))
   else
   some (.inl (wrap .i64 (x0+1)))
  else none
  else none
 else some (.inr ((.inr ())))
def y190 (u5:Int):Option Int :=some u5
def y191 (u10:Unit):Option Int :=some (-1:Int)
def y119:(Int ⊕ Unit)->Option Int :=(qz (y190) (y191))
def y17 (s:List (List Int)) (u47 u48:Int):Option Int :=ze (jae (y14 s u47 u48) big (0:Int)) (y119)
def y68:List Lf->Option GT|[.r (.recs 2 s),.d (.i .i64 u47),.d (.i .i64 u48)]=>some (.leaf (ok (y17 s u47 u48)) [.c (.d (.i .i64 ((val (y17 s u47 u48)))))])|_=>none
abbrev sp_163_139:jaa->jaa:=jap 163 true (jah y67 y68)
abbrev y120 (s:List (List Int)) (u47 u48 r:Int):Lp (Int × Nat) Int (Int ⊕ Unit) Int Int :=⟨fun z=>z.1,fun z=>z.2,fun z x n=>(x,n),fun z=>y14 s u47 u48,fun z=>y119,fun z=>top r,fun z=>0,[.c fun _=>(↑s.length:Int),.c fun vv=>vv.1,.c fun _=>s,.c fun _=>u47,.c fun _=>u48]⟩
def y224 (s:List (List Int)) (u47 u48 r:Int):Sk (top r) (y17 s u47 u48) :=
 .loop (y120 s u47 u48 r) (fun kk=>((0:Int),big)) fun z0 =>
 .br
 (.ob (.ob (.call (.brB
 (.exit (.obT (.rc)))
 (.next)))))
 (.exit (.obT (.rc)))
def y217 (s:List (List Int)) (u47 u48 r:Int) (h:ze (y17 s u47 u48) some=some r):jaR Tryz.f163 ((sp_139 sp0)) (fun gs id _=>match id with
 |0=>some ⟨Int × Nat,fun z=>⟨[(0,.w (.c (.o 0))),(1,.w (.c (.fn 139 [1]))),(7,.w (.c (.d (.i .i64 ((↑s.length:Int)))))),(8,.w (.c (.d (.i .i64 z.1))))],[(0,.ext (.recs 2 s)),(1,.ebox [.d (.i .i64 u47),.d (.i .i64 u48)])],2⟩,fun z=>(y120 s u47 u48 r).inv z,fun z=>z.2⟩
 |_=>none) (jaK y67 [.r (.recs 2 s),.d (.i .i64 u47),.d (.i .i64 u48)]) [.c (.d (.i .i64 r))] :=
 Sk.vc (y224 s u47 u48 r) (by kernel_rfl) h
def y218:jaf Tryz.prog 163 true (jah y67 y68):=by
 refine jan (sp:=(sp_139 sp0)) (fn:=Tryz.f163) (body:=bodyOf Tryz.f163) mixed (sp_139_ok jaj) Tryz.func163 (by kernel_rfl) (by kernel_rfl) fun ls t h ho b hb=>?_;unfold y68 at h;split at h
 ·rename_i s u47 u48;cases h;obtain rfl:=jav hb;exact⟨zh (by kernel_rfl),_,_,y217 s u47 u48 _ (jai ho)⟩
 ·cases h
def sp_163_139_ok {sp:jaa} (h:jab Tryz.prog sp):jab Tryz.prog (sp_163_139 sp):=jag y218 h
def y52:List SV:=[.c (.r (.recs 2 [])),.c (.f 139 [.p [.d,.d]])]
def y7 (s:List (List Int)) (u47 u48:Int):Option Bool :=
 ze (y17 s u47 u48) fun r0 =>
 some (decide (r0>=0))
def y53:List Lf->Option GT|[.r (.recs 2 s),.d (.i .i64 u47),.d (.i .i64 u48)]=>some (.leaf (ok (y7 s u47 u48)) [.c (.d (.b ((val (y7 s u47 u48)))))])|_=>none
abbrev sp_138_139:jaa->jaa:=jap 138 true (jah y52 y53)
def y192 (s:List (List Int)) (u47 u48:Int) (r:Bool):Sk (top r) (y7 s u47 u48) :=.call (.obT (.rc))
def y176 (s:List (List Int)) (u47 u48:Int) (r:Bool) (h:ze (y7 s u47 u48) some=some r):jaR Tryz.f138 ((sp_163_139 (sp_139 sp0))) (fun _ _ _=>none) (jaK y52 [.r (.recs 2 s),.d (.i .i64 u47),.d (.i .i64 u48)]) [.c (.d (.b r))] :=Sk.vc (y192 s u47 u48 r) (by kernel_rfl) h
def y177:jaf Tryz.prog 138 true (jah y52 y53):=by
 refine jan (sp:=(sp_163_139 (sp_139 sp0))) (fn:=Tryz.f138) (body:=bodyOf Tryz.f138) mixed (sp_163_139_ok (sp_139_ok jaj)) Tryz.func138 (by kernel_rfl) (by kernel_rfl) fun ls t h ho b hb=>?_;unfold y53 at h;split at h
 ·rename_i s u47 u48;cases h;obtain rfl:=jav hb;exact⟨zh (by kernel_rfl),_,_,y176 s u47 u48 _ (jai ho)⟩
 ·cases h
def sp_138_139_ok {sp:jaa} (h:jab Tryz.prog sp):jab Tryz.prog (sp_138_139 sp):=jag y177 h
def jnd (l:List (List Int)) (x0 x1:Int):Option (Int ⊕ (Unit ⊕ Unit)) :=
 if x1<x0 then if 0<=x1∧x1<(↑l.length:Int)then
  if zf x1<zb l then if 0<=x0∧x0<(↑l.length:Int)then
   if zf x0<zb l then if(za (za l x1.toNat []) 0 (0:Int)==za (za l x0.toNat []) 0 (0:Int))=true then some (.inr ((.inl ())))
    else
    some (.inl (wrap .i64 (x1+1)))
   else none
   else none
  else none
  else none
 else some (.inr ((.inr ())))
def jkR (l:List (List Int)) (x0:Int) (u19:Unit):Option (Int ⊕ ((Int × Int) ⊕ Unit)) :=some (.inr ((.inl ((x0,26)))))
def jkS (l:List (List Int)) (x0:Int) (u33:Unit):Option (Int ⊕ ((Int × Int) ⊕ Unit)) :=
 if 0<=x0∧x0<(↑l.length:Int)then if zf x0<zb l then
  ze (y23 (za (za l x0.toNat []) 1 (0:Int)) (0:Int) (16:Int)) fun r1 =>
  if(!r1)=true then some (.inr ((.inl ((x0,2)))))
  else some (.inl (wrap .i64 (x0+1)))
  else none
 else none
def jne (l:List (List Int)) (x0:Int):(Unit ⊕ Unit)->Option (Int ⊕ ((Int × Int) ⊕ Unit)) :=(qz (jkR l x0) (jkS l x0))
def jnf (u1:List (List NC)) (l:List (List Int)) (x0:Int):Option (Int ⊕ ((Int × Int) ⊕ Unit)) :=
 if x0<(↑l.length:Int)then if 0<=x0∧x0<(↑l.length:Int)then
  if zf x0<zb l then
   ze (y23 (za (za l x0.toNat []) 0 (0:Int)) (0:Int) (wrap .i64 ((↑u1.length:Int)-1))) fun r0 =>
   if(!r0)=true then
   some (.inr ((.inl ((x0,6)))))
   else
   ze (jae (jnd l x0) big (0:Int)) (jne l x0)
  else none
  else none
 else some (.inr ((.inr ())))
def jkT (u5:Int × Int):Option (Int × Int) :=some (u5.1,u5.2)
def jkU (u10:Unit):Option (Int × Int) :=some (((0:Int),0))
def jng:((Int × Int) ⊕ Unit)->Option (Int × Int) :=(qz (jkT) (jkU))
def jr0 (u4:zY) (u1:List (List NC)) (l:List (List Int)):Option (Int × Int) :=
 if(↑l.length:Int)>24 then some (((0:Int),8))
 else ze (jae (jnf u1 l) big (0:Int)) (jng)
def y201:List SV:=[.c (.p [.d,.x (.st zS []),.r (.ints .i64 [])]),.c (.r (.recs 2 [])),.c (.d)]
def y33 (l:List (List Int)) (u55:Int) (x0:(Int × List Bool)):Option ((Int × List Bool) ⊕ (List Bool)) :=
 if x0.1<(↑l.length:Int)then if 0<=x0.1∧x0.1<(↑l.length:Int)then
  if zf x0.1<zb l then if 0<=za (za l x0.1.toNat []) 0 (0:Int)∧za (za l x0.1.toNat []) 0 0<(↑x0.2.length:Int)then
   if zf (za (za l x0.1.toNat []) 0 (0:Int))<zb x0.2 then some (.inl ((wrap .i64 (x0.1+1),qv x0.2 (zf (za (za l x0.1.toNat []) 0 (0:Int))) (decide (za (za l x0.1.toNat []) 1 0<=u55)))))
   else none
   else none
  else none
  else none
 else some (.inr x0.2)
def y178 (u5:List Bool):Option (List Bool) :=some u5
def y40 (u9:zY) (u6:List (List NC)) (u7:List Int) (l:List (List Int)) (u55:Int):Option (List Bool) :=
 if 0<=(↑u6.length:Int)∧(↑u6.length:Int)=(↑u6.length:Int)∧(↑(1:Nat):Int)*(↑u6.length:Int)<=281474976710656∧(↑u6.length:Int)<=9223372036854775807 then ze (jae (y33 l u55) big (((0:Int),zi (zf (↑u6.length:Int)) false))) (y178)
 else none
def y202:List Lf->Option GT|[.d (.s u9),.x (.st [.s,.i .i64,.ints .i64,.ints .i64,.ints .i64,.i .i64,.recs 5,.i .i64] u6),.r (.ints .i64 u7),.r (.recs 2 l),.d (.i .i64 u55)]=>some (.leaf (ok (y40 u9 u6 u7 l u55)) [.c (.row 4 (.bools ((val (y40 u9 u6 u7 l u55)))))])|_=>none
abbrev sp_94:jaa->jaa:=jap 94 true (jah y201 y202)
abbrev y286 (u9:zY) (u6:List (List NC)) (u7:List Int) (l:List (List Int)) (u55:Int) (r:List Bool):Lp ((Int × List Bool) × Nat) (Int × List Bool) (List Bool) (List Bool) (List Bool) :=⟨fun z=>z.1,fun z=>z.2,fun z x n=>(x,n),fun z=>y33 l u55,fun z=>y178,fun z=>top r,fun z=>0,[.c fun _=>u55,.c fun _=>(↑l.length:Int),.c fun vv=>vv.1.1,.c fun vv=>vv.1.2,.c fun _=>l]⟩
def jlQ (u9:zY) (u6:List (List NC)) (u7:List Int) (l:List (List Int)) (u55:Int) (r:List Bool):Sk (top r) (ze (jae (y33 l u55) big (((0:Int),zi (zf (↑u6.length:Int)) false))) (y178)) :=
 .loop (y286 u9 u6 u7 l u55 r) (fun kk=>(((0:Int),zi (zf (↑u6.length:Int)) false),big)) fun z0 =>
 .br
 (.ob (.ob (.ob (.ob (.next)))))
 (.exit (.obT (.rc)))
def jnh (u9:zY) (u6:List (List NC)) (u7:List Int) (l:List (List Int)) (u55:Int) (r:List Bool):Sk (top r) (y40 u9 u6 u7 l u55) :=.obT (.ob (jlQ u9 u6 u7 l u55 r))
def jlR (u9:zY) (u6:List (List NC)) (u7:List Int) (l:List (List Int)) (u55:Int) (r:List Bool) (h:ze (y40 u9 u6 u7 l u55) some=some r):jaR Tryz.f94 (sp0) (fun gs id _=>match id with
 |0=>some ⟨(Int × List Bool) × Nat,fun z=>⟨[(2,.w (.c (.d (.i .i64 u55)))),(7,.w (.c (.o 4))),(17,.w (.c (.o 3))),(18,.w (.c (.d (.i .i64 ((↑l.length:Int)))))),(19,.w (.c (.d (.i .i64 z.1.1))))],[(4,.row 4 (.bools z.1.2)),(3,.ext (.recs 2 l))],5⟩,fun z=>(y286 u9 u6 u7 l u55 r).inv z,fun z=>z.2⟩
 |_=>none) (jaK y201 [.d (.s u9),.x (.st zS u6),.r (.ints .i64 u7),.r (.recs 2 l),.d (.i .i64 u55)]) [.c (.row 4 (.bools r))] :=
 Sk.vc (jnh u9 u6 u7 l u55 r) (by kernel_rfl) h
def jlS:jaf Tryz.prog 94 true (jah y201 y202):=by
 refine jan (sp:=sp0) (fn:=Tryz.f94) (body:=bodyOf Tryz.f94) mixed jaj Tryz.func94 (by kernel_rfl) (by kernel_rfl) fun ls t h ho b hb=>?_;unfold y202 at h;split at h
 ·rename_i u9 u6 u7 l u55;cases h;obtain rfl:=jav hb;exact⟨zh (by kernel_rfl),_,_,jlR u9 u6 u7 l u55 _ (jai ho)⟩
 ·cases h
def sp_94_ok {sp:jaa} (h:jab Tryz.prog sp):jab Tryz.prog (sp_94 sp):=jag jlS h
end Go.Sh
end

section
namespace Go.Sh
open Go Go.Proofs Go.RowKit Go.Sx
open Go.IntKind (wrap)
def y203:List SV:=[.c (.p [.d,.x (.st zS []),.r (.ints .i64 [])]),.c (.d)]
def y48 (u6:List (List NC)) (u31:Int) (x0:(Int × List Int)):Option ((Int × List Int) ⊕ (List Int)) :=
 if x0.1<(↑u6.length:Int)then if 0<=x0.1∧x0.1<(↑u6.length:Int)then
  if zf x0.1<zb u6 then if(nI u6 x0.1.toNat (1:Nat)==u31)=true then
   if(zb x0.2+zb [x0.1])*8<=140737488355328∧zb x0.2+zb [x0.1]<=9223372036854775807 then some (.inl ((wrap .i64 (x0.1+1),x0.2++[x0.1])))
   else none
   else
   some (.inl ((wrap .i64 (x0.1+1),x0.2)))
  else none
  else none
 else some (.inr x0.2)
def y179 (u5:List Int):Option (List Int) :=some u5
def y6 (u6:List (List NC)) (u31:Int):Option (List Int) :=ze (jae (y48 u6 u31) big (((0:Int),[]))) (y179)
def y204:List Lf->Option GT|[.d (.s u9),.x (.st [.s,.i .i64,.ints .i64,.ints .i64,.ints .i64,.i .i64,.recs 5,.i .i64] u6),.r (.ints .i64 u7),.d (.i .i64 u31)]=>some (.leaf (ok (y6 u6 u31)) [.c (.row 3 (.ints .i64 ((val (y6 u6 u31)))))])|_=>none
abbrev sp_99:jaa->jaa:=jap 99 true (jah y203 y204)
abbrev y287 (u9:zY) (u6:List (List NC)) (u7:List Int) (u31:Int) (r:List Int):Lp ((Int × List Int) × Nat) (Int × List Int) (List Int) (List Int) (List Int) :=⟨fun z=>z.1,fun z=>z.2,fun z x n=>(x,n),fun z=>y48 u6 u31,fun z=>y179,fun z=>top r,fun z=>0,[.c fun _=>u31,.c fun _=>(↑u6.length:Int),.c fun vv=>vv.1.1,.c fun vv=>vv.1.2,.c fun _=>u6]⟩
def jlT (u9:zY) (u6:List (List NC)) (u7:List Int) (u31:Int) (r:List Int):Sk (top r) (ze (jae (y48 u6 u31) big (((0:Int),[]))) (y179)) :=
 .loopQ (y287 u9 u6 u7 u31 r) [.c fun _=>u31,.c fun _=>(↑u6.length:Int),.c fun vv=>vv.1.1,.p fun vv=>zb vv.1.2=(0:Nat),.c fun _=>u6] (fun kk=>(((0:Int),[]),big)) (fun z0 =>
 .br
 (.ob (.ob (.brB
 (.ob (.next))
 (.next))))
 (.exit (.obT (.rc)))) (fun _=>⟨rfl,trivial⟩)
def jni (u9:zY) (u6:List (List NC)) (u7:List Int) (u31:Int) (r:List Int):Sk (top r) (y6 u6 u31) :=.obT (jlT u9 u6 u7 u31 r)
def jlU (u9:zY) (u6:List (List NC)) (u7:List Int) (u31:Int) (r:List Int) (h:ze (y6 u6 u31) some=some r):jaR Tryz.f99 (sp0) (fun gs id st=>match id with
 |0=>some ⟨(Int × List Int) × Nat,fun z=>⟨[(1,.w (.c (.d (.i .i64 u31)))),(5,.w (.c (.o 3))),(12,.w (.c (.o 0))),(13,.w (.c (.d (.i .i64 ((↑u6.length:Int)))))),(14,.w (.c (.d (.i .i64 z.1.1))))],[(3,.row 3 (.ints .i64 z.1.2)),(0,.xext (XC.st zS u6))],4⟩,fun z=>(y287 u9 u6 u7 u31 r).inv z,fun z=>z.2⟩
 |_=>none) (jaK y203 [.d (.s u9),.x (.st zS u6),.r (.ints .i64 u7),.d (.i .i64 u31)]) [.c (.row 3 (.ints .i64 r))] :=
 Sk.vc (jni u9 u6 u7 u31 r) (by kernel_rfl) h
def jlV:jaf Tryz.prog 99 true (jah y203 y204):=by
 refine jan (sp:=sp0) (fn:=Tryz.f99) (body:=bodyOf Tryz.f99) mixed jaj Tryz.func99 (by kernel_rfl) (by kernel_rfl) fun ls t h ho b hb=>?_;unfold y204 at h;split at h
 ·rename_i u9 u6 u7 u31;cases h;obtain rfl:=jav hb;exact⟨zh (by kernel_rfl),_,_,jlU u9 u6 u7 u31 _ (jai ho)⟩
 ·cases h
def sp_99_ok {sp:jaa} (h:jab Tryz.prog sp):jab Tryz.prog (sp_99 sp):=jag jlV h
attribute [irreducible] y6
def y225:List SV:=[.c (.p [.d,.x (.st zS []),.r (.ints .i64 [])]),.c (.d)]
def y22 (u6:List (List NC)) (i:Int):Option Int :=
 if 0<=i∧i<(↑u6.length:Int)then if zf i<zb u6 then
  ze (y6 u6 (nI u6 i.toNat (1:Nat))) fun r0 =>
  ze (y39 r0 i) fun r1 =>
  some r1
  else none
 else none
def y226:List Lf->Option GT|[.d (.s u9),.x (.st [.s,.i .i64,.ints .i64,.ints .i64,.ints .i64,.i .i64,.recs 5,.i .i64] u6),.r (.ints .i64 u7),.d (.i .i64 i)]=>some (.leaf (ok (y22 u6 i)) [.c (.d (.i .i64 ((val (y22 u6 i)))))])|_=>none
abbrev sp_145:jaa->jaa:=jap 145 true (jah y225 y226)
def joF (u9:zY) (u6:List (List NC)) (u7:List Int) (i r:Int):Sk (top r) (y22 u6 i) :=.obT (.ob (.ob (.call (.call (.obT (.rc))))))
def jnj (u9:zY) (u6:List (List NC)) (u7:List Int) (i r:Int) (h:ze (y22 u6 i) some=some r):jaR Tryz.f145 ((sp_99 (sp_134 sp0))) (fun _ _ _=>none) (jaK y225 [.d (.s u9),.x (.st zS u6),.r (.ints .i64 u7),.d (.i .i64 i)]) [.c (.d (.i .i64 r))] :=Sk.vc (joF u9 u6 u7 i r) (by kernel_rfl) h
def jnk:jaf Tryz.prog 145 true (jah y225 y226):=by
 refine jan (sp:=(sp_99 (sp_134 sp0))) (fn:=Tryz.f145) (body:=bodyOf Tryz.f145) mixed (sp_99_ok (sp_134_ok jaj)) Tryz.func145 (by kernel_rfl) (by kernel_rfl) fun ls t h ho b hb=>?_;unfold y226 at h;split at h
 ·rename_i u9 u6 u7 i;cases h;obtain rfl:=jav hb;exact⟨zh (by kernel_rfl),_,_,jnj u9 u6 u7 i _ (jai ho)⟩
 ·cases h
def sp_145_ok {sp:jaa} (h:jab Tryz.prog sp):jab Tryz.prog (sp_145 sp):=jag jnk h
attribute [irreducible] y22
def y227:List SV:=[.c (.p [.p [.d,.x (.st zS []),.r (.ints .i64 [])],.d,.x (.ff .f32 []),.x (.rr 4 []),.r (.frs .f32 32 []),.r (.ints .i64 []),.r (.frs .f32 32 []),.x (.rr 4 []),.r (.ints .i64 [])])]
def y88 (u11:List (List Nat)) (r0:List Int) (x0:(Int × List (List Nat))):Option ((Int × List (List Nat)) ⊕ (List (List Nat))) :=
 if x0.1<(↑r0.length:Int)then if 0<=x0.1∧x0.1<(↑r0.length:Int)then
  if zf x0.1<zb r0 then if 0<=za r0 x0.1.toNat (0:Int)∧za r0 x0.1.toNat 0<(↑u11.length:Int)then
   if zf (za r0 x0.1.toNat (0:Int))<zb u11 then if(zb x0.2+zb [za u11 (zf (za r0 x0.1.toNat (0:Int))) []])*128<=140737488355328∧zb x0.2+zb [za u11 (zf (za r0 x0.1.toNat (0:Int))) []]<=9223372036854775807 then some (.inl ((wrap .i64 (x0.1+1),x0.2++[za u11 (zf (za r0 x0.1.toNat (0:Int))) []])))
    else none
   else none
   else none
  else none
  else none
 else some (.inr x0.2)
def y205 (u5:List (List Nat)):Option (List (List Nat)) :=some u5
def y9 (u13:List (List NC)) (u11:List (List Nat)):Option (List (List Nat)) :=
 ze (y6 u13 (4:Int)) fun r0 =>
 ze (jae (y88 u11 r0) big (((0:Int),[]))) (y205)
def y228:List Lf->Option GT|[.d (.s u22),.x (.st [.s,.i .i64,.ints .i64,.ints .i64,.ints .i64,.i .i64,.recs 5,.i .i64] u13),.r (.ints .i64 u23),.d (.i .i64 u20),.x (.ff .f32 u12),.x (.rr 4 u16),.r (.frs .f32 32 u15),.r (.ints .i64 u17),.r (.frs .f32 32 u11),.x (.rr 4 u18),.r (.ints .i64 u14)]=>some (.leaf (ok (y9 u13 u11)) [.c (.row 110 (.frs .f32 32 ((val (y9 u13 u11)))))])|_=>none
abbrev sp_104:jaa->jaa:=jap 104 true (jah y227 y228)
abbrev y295 (u22:zY) (u13:List (List NC)) (u23:List Int) (u20:Int) (u12:List (List Nat)) (u16:List (List (List Int))) (u15:List (List Nat)) (u17:List Int) (u11:List (List Nat)) (u18:List (List (List Int))) (u14:List Int) (r:List (List Nat)):Lp ((Int × List (List Nat)) × Nat) ((Int × List (List Nat))) ((List (List Nat))) ((List (List Nat))) (List (List Nat)) :=⟨fun z=>z.1,fun z=>z.2,fun z x n=>(x,n),fun z=>y88 u11 (val (y6 u13 (4:Int))),fun z=>y205,fun z=>top r,fun z=>0,[.c fun _=>0,.c fun _=>(↑(zb (val (y6 u13 (4:Int)))):Int),.c fun vv=>vv.1.1,.c fun _=>0,.c fun _=>u20,.c fun vv=>vv.1.2,.c fun _=>val (y6 u13 (4:Int)),.c fun _=>u22,.c fun _=>u12,.c fun _=>u16,.c fun _=>u15,.c fun _=>u17,.c fun _=>u11,.c fun _=>u18,.c fun _=>u14,.c fun _=>u13,.c fun _=>u23]⟩
def jnl (u22:zY) (u13:List (List NC)) (u23:List Int) (u20:Int) (u12:List (List Nat)) (u16:List (List (List Int))) (u15:List (List Nat)) (u17:List Int) (u11:List (List Nat)) (u18:List (List (List Int))) (u14:List Int) (r:List (List Nat)):Sk (top r) (ze (jae (y88 u11 (val (y6 u13 (4:Int)))) big (((0:Int),[]))) (y205)) :=
 .loopQ (y295 u22 u13 u23 u20 u12 u16 u15 u17 u11 u18 u14 r) [.c fun _=>0,.c fun _=>(↑(zb (val (y6 u13 (4:Int)))):Int),.c fun vv=>vv.1.1,.c fun _=>0,.c fun _=>u20,.p fun vv=>zb vv.1.2=(0:Nat),.c fun _=>val (y6 u13 (4:Int)),.c fun _=>u22,.c fun _=>u12,.c fun _=>u16,.c fun _=>u15,.c fun _=>u17,.c fun _=>u11,.c fun _=>u18,.c fun _=>u14,.c fun _=>u13,.c fun _=>u23] (fun kk=>(((0:Int),[]),big)) (fun z0 =>
 .br
 (.ob (.ob (.obT (.ob (.ob (.ob (.next)))))))
 (.exit (.obT (.rc)))) (fun _=>⟨rfl,trivial⟩)
def joG (u22:zY) (u13:List (List NC)) (u23:List Int) (u20:Int) (u12:List (List Nat)) (u16:List (List (List Int))) (u15:List (List Nat)) (u17:List Int) (u11:List (List Nat)) (u18:List (List (List Int))) (u14:List Int) (r:List (List Nat)):Sk (top r) (y9 u13 u11) :=.obT (.call (jnl u22 u13 u23 u20 u12 u16 u15 u17 u11 u18 u14 r))
def jnm (u22:zY) (u13:List (List NC)) (u23:List Int) (u20:Int) (u12:List (List Nat)) (u16:List (List (List Int))) (u15:List (List Nat)) (u17:List Int) (u11:List (List Nat)) (u18:List (List (List Int))) (u14:List Int) (r:List (List Nat)) (h:ze (y9 u13 u11) some=some r):jaR Tryz.f104 ((sp_99 sp0)) (fun gs id st=>match id with
 |0=>some ⟨(Int × List (List Nat)) × Nat,fun z=>⟨[(0,.w (.c (.p 10 0 1 0))),(3,.w (.c (.o 11))),(10,.w (.c (.o 12))),(11,.w (.c (.d (.i .i64 ((↑(zb (val (y6 u13 (4:Int)))):Int)))))),(12,.w (.c (.d (.i .i64 z.1.1))))],[(10,.ebox [.p 2 0 1 0,.d (.i .i64 u20),.o 3,.o 4,.o 5,.o 6,.o 7,.o 8,.o 9]),(11,.row 110 (.frs .f32 32 z.1.2)),(12,.row 3 (.ints .i64 (val (y6 u13 (4:Int))))),(2,.ebox [.d (.s u22),.o 0,.o 1]),(3,.xext (XC.ff .f32 u12)),(4,.xext (XC.rr (4:Nat) u16)),(5,.ext (.frs .f32 32 u15)),(6,.ext (.ints .i64 u17)),(7,.ext (.frs .f32 32 u11)),(8,.xext (XC.rr (4:Nat) u18)),(9,.ext (.ints .i64 u14)),(0,.xext (XC.st zS u13)),(1,.ext (.ints .i64 u23))],13⟩,fun z=>(y295 u22 u13 u23 u20 u12 u16 u15 u17 u11 u18 u14 r).inv z,fun z=>z.2⟩
 |_=>none) (jaK y227 [.d (.s u22),.x (.st zS u13),.r (.ints .i64 u23),.d (.i .i64 u20),.x (.ff .f32 u12),.x (.rr 4 u16),.r (.frs .f32 32 u15),.r (.ints .i64 u17),.r (.frs .f32 32 u11),.x (.rr 4 u18),.r (.ints .i64 u14)]) [.c (.row 110 (.frs .f32 32 r))] :=
 Sk.vc (joG u22 u13 u23 u20 u12 u16 u15 u17 u11 u18 u14 r) (by kernel_rfl) h
def jnn:jaf Tryz.prog 104 true (jah y227 y228):=by
 refine jan (sp:=(sp_99 sp0)) (fn:=Tryz.f104) (body:=bodyOf Tryz.f104) mixed (sp_99_ok jaj) Tryz.func104 (by kernel_rfl) (by kernel_rfl) fun ls t h ho b hb=>?_;unfold y228 at h;split at h
 ·rename_i u22 u13 u23 u20 u12 u16 u15 u17 u11 u18 u14;cases h;obtain rfl:=jav hb;exact⟨zh (by kernel_rfl),_,_,jnm u22 u13 u23 u20 u12 u16 u15 u17 u11 u18 u14 _ (jai ho)⟩
 ·cases h
def sp_104_ok {sp:jaa} (h:jab Tryz.prog sp):jab Tryz.prog (sp_104 sp):=jag jnn h
attribute [irreducible] y9
def y229:List SV:=[.c (.p [.p [.d,.x (.st zS []),.r (.ints .i64 [])],.d,.x (.ff .f32 []),.x (.rr 4 []),.r (.frs .f32 32 []),.r (.ints .i64 []),.r (.frs .f32 32 []),.x (.rr 4 []),.r (.ints .i64 [])])]
def y58 (u14:List Int) (x0:(Int × Int)):Option ((Int × Int) ⊕ Int) :=
 if x0.2<(↑u14.length:Int)then if 0<=x0.2∧x0.2<(↑u14.length:Int)then
  if zf x0.2<zb u14 then some (.inl ((wrap .i64 (x0.1+za u14 x0.2.toNat (0:Int)),wrap .i64 (x0.2+1))))
  else none
  else none
 else some (.inr x0.1)
def y206 (u5:Int):Option Int :=some u5
def y69 (u14:List Int):Option Int :=ze (jae (y58 u14) big (((0:Int),0))) (y206)
def y230:List Lf->Option GT|[.d (.s u22),.x (.st [.s,.i .i64,.ints .i64,.ints .i64,.ints .i64,.i .i64,.recs 5,.i .i64] u13),.r (.ints .i64 u23),.d (.i .i64 u20),.x (.ff .f32 u12),.x (.rr 4 u16),.r (.frs .f32 32 u15),.r (.ints .i64 u17),.r (.frs .f32 32 u11),.x (.rr 4 u18),.r (.ints .i64 u14)]=>some (.leaf (ok (y69 u14)) [.c (.d (.i .i64 ((val (y69 u14)))))])|_=>none
abbrev sp_105:jaa->jaa:=jap 105 true (jah y229 y230)
abbrev y296 (u22:zY) (u13:List (List NC)) (u23:List Int) (u20:Int) (u12:List (List Nat)) (u16:List (List (List Int))) (u15:List (List Nat)) (u17:List Int) (u11:List (List Nat)) (u18:List (List (List Int))) (u14:List Int) (r:Int):Lp ((Int × Int) × Nat) (Int × Int) Int Int Int :=⟨fun z=>z.1,fun z=>z.2,fun z x n=>(x,n),fun z=>y58 u14,fun z=>y206,fun z=>top r,fun z=>0,[.c fun vv=>vv.1.1,.c fun _=>(↑u14.length:Int),.c fun vv=>vv.1.2,.c fun _=>u14]⟩
def jno (u22:zY) (u13:List (List NC)) (u23:List Int) (u20:Int) (u12:List (List Nat)) (u16:List (List (List Int))) (u15:List (List Nat)) (u17:List Int) (u11:List (List Nat)) (u18:List (List (List Int))) (u14:List Int) (r:Int):Sk (top r) (ze (jae (y58 u14) big (((0:Int),0))) (y206)) :=
 .loop (y296 u22 u13 u23 u20 u12 u16 u15 u17 u11 u18 u14 r) (fun kk=>(((0:Int),0),big)) fun z0 =>
 .br
 (.ob (.ob (.next)))
 (.exit (.obT (.rc)))
def joH (u22:zY) (u13:List (List NC)) (u23:List Int) (u20:Int) (u12:List (List Nat)) (u16:List (List (List Int))) (u15:List (List Nat)) (u17:List Int) (u11:List (List Nat)) (u18:List (List (List Int))) (u14:List Int) (r:Int):Sk (top r) (y69 u14) :=.obT (jno u22 u13 u23 u20 u12 u16 u15 u17 u11 u18 u14 r)
def jnp (u22:zY) (u13:List (List NC)) (u23:List Int) (u20:Int) (u12:List (List Nat)) (u16:List (List (List Int))) (u15:List (List Nat)) (u17:List Int) (u11:List (List Nat)) (u18:List (List (List Int))) (u14:List Int) (r:Int) (h:ze (y69 u14) some=some r):jaR Tryz.f105 (sp0) (fun gs id st=>match id with
 |0=>some ⟨(Int × Int) × Nat,fun z=>⟨[(3,.w (.c (.d (.i .i64 z.1.1)))),(9,.w (.c (.o 9))),(10,.w (.c (.d (.i .i64 ((↑u14.length:Int)))))),(11,.w (.c (.d (.i .i64 z.1.2))))],[(9,.ext (.ints .i64 u14))],11⟩,fun z=>(y296 u22 u13 u23 u20 u12 u16 u15 u17 u11 u18 u14 r).inv z,fun z=>z.2⟩
 |_=>none) (jaK y229 [.d (.s u22),.x (.st zS u13),.r (.ints .i64 u23),.d (.i .i64 u20),.x (.ff .f32 u12),.x (.rr 4 u16),.r (.frs .f32 32 u15),.r (.ints .i64 u17),.r (.frs .f32 32 u11),.x (.rr 4 u18),.r (.ints .i64 u14)]) [.c (.d (.i .i64 r))] :=
 Sk.vc (joH u22 u13 u23 u20 u12 u16 u15 u17 u11 u18 u14 r) (by kernel_rfl) h
def jnq:jaf Tryz.prog 105 true (jah y229 y230):=by
 refine jan (sp:=sp0) (fn:=Tryz.f105) (body:=bodyOf Tryz.f105) mixed jaj Tryz.func105 (by kernel_rfl) (by kernel_rfl) fun ls t h ho b hb=>?_;unfold y230 at h;split at h
 ·rename_i u22 u13 u23 u20 u12 u16 u15 u17 u11 u18 u14;cases h;obtain rfl:=jav hb;exact⟨zh (by kernel_rfl),_,_,jnp u22 u13 u23 u20 u12 u16 u15 u17 u11 u18 u14 _ (jai ho)⟩
 ·cases h
def sp_105_ok {sp:jaa} (h:jab Tryz.prog sp):jab Tryz.prog (sp_105 sp):=jag jnq h
attribute [irreducible] y69
def y257:List SV:=[.c (.p [.p [.d,.x (.st zS []),.r (.ints .i64 [])],.d,.x (.ff .f32 []),.x (.rr 4 []),.r (.frs .f32 32 []),.r (.ints .i64 []),.r (.frs .f32 32 []),.x (.rr 4 []),.r (.ints .i64 [])])]
def jtt (u12 u11:List (List Nat)) (x0:Int × List (List Nat)) (x1:(Int × List Nat)):Option ((Int × List Nat) ⊕ (List Nat)) :=
 if x1.1<32 then
  ze (jkA u12 u11 x0.1 x1.1) fun r0 =>
  if(zb x1.2+zb [qE .f32 r0])*4<=140737488355328∧zb x1.2+zb [qE .f32 r0]<=9223372036854775807 then
  some (.inl ((wrap .i64 (x1.1+1),x1.2++[qE .f32 r0])))
  else none
 else some (.inr x1.2)
def y244 (x0:Int × List (List Nat)) (u19:List Nat):Option ((Int × List (List Nat)) ⊕ (List (List Nat))) :=
 if(zb x0.2+zb (xt (fun r=>NC.toFlts (qg r (NC.d (D.v zX)))) [[NC.r (Cont.floats .f32 u19)]]))*24<=140737488355328∧zb x0.2+zb (xt (fun r=>NC.toFlts (qg r (NC.d (D.v zX)))) [[NC.r (Cont.floats .f32 u19)]])<=9223372036854775807 then some (.inl ((wrap .i64 (x0.1+1),x0.2++xt (fun r=>NC.toFlts (qg r (NC.d (D.v zX)))) [[NC.r (Cont.floats .f32 u19)]])))
 else none
def y83 (u13:List (List NC)) (u12 u11:List (List Nat)) (x0:(Int × List (List Nat))):Option ((Int × List (List Nat)) ⊕ (List (List Nat))) :=
 if x0.1<(↑u13.length:Int)then ze (jae (jtt u12 u11 x0) big (((-96:Int),[]))) (y244 x0)
 else some (.inr x0.2)
def y245 (u20:Int) (u5:List (List Nat)):Option (Int × List (List Nat)) :=some ((wrap .i64 (u20+1),u5))
def y80 (u13:List (List NC)) (u20:Int) (u12 u11:List (List Nat)):Option (Int × List (List Nat)) :=ze (jae (y83 u13 u12 u11) big (((0:Int),[]))) (y245 u20)
def y258:List Lf->Option GT|[.d (.s u22),.x (.st [.s,.i .i64,.ints .i64,.ints .i64,.ints .i64,.i .i64,.recs 5,.i .i64] u13),.r (.ints .i64 u23),.d (.i .i64 u20),.x (.ff .f32 u12),.x (.rr 4 u16),.r (.frs .f32 32 u15),.r (.ints .i64 u17),.r (.frs .f32 32 u11),.x (.rr 4 u18),.r (.ints .i64 u14)]=>some (.leaf (ok (y80 u13 u20 u12 u11)) [.s [.d (.i .i64 ((val (y80 u13 u20 u12 u11)).1)),.x 157 (.ff .f32 ((val (y80 u13 u20 u12 u11)).2)),.g 8]])|_=>none
abbrev sp_106:jaa->jaa:=jap 106 true (jah y257 y258)
abbrev y246 (u22:zY) (u13:List (List NC)) (u23:List Int) (u20:Int) (u12:List (List Nat)) (u16:List (List (List Int))) (u15:List (List Nat)) (u17:List Int) (u11:List (List Nat)) (u18:List (List (List Int))) (u14:List Int) (r:Int × List (List Nat)):Lp ((Int × List (List Nat)) × Nat) ((Int × List (List Nat))) ((List (List Nat))) ((Int × List (List Nat))) (Int × List (List Nat)) :=⟨fun z=>z.1,fun z=>z.2,fun z x n=>(x,n),fun z=>y83 u13 u12 u11,fun z=>y245 u20,fun z=>top r,fun z=>0,[.c fun _=>0,.c fun _=>0,.c fun _=>0,.c fun _=>(↑u13.length:Int),.c fun vv=>vv.1.1,.c fun _=>0,.c fun _=>u20,.c fun _=>(0:Int),.c fun _=>qd none (0:Nat) (0:Nat),.c fun _=>qd none (0:Nat) (0:Nat),.c fun _=>wrap .i64 (u20+1),.c fun _=>u22,.c fun _=>u12,.c fun _=>u16,.c fun _=>u15,.c fun _=>u17,.c fun _=>u11,.c fun _=>u18,.c fun _=>u14,.c fun vv=>vv.1.2,.c fun _=>u13,.c fun _=>u23]⟩
abbrev jhi (u22:zY) (u13:List (List NC)) (u23:List Int) (u20:Int) (u12:List (List Nat)) (u16:List (List (List Int))) (u15:List (List Nat)) (u17:List Int) (u11:List (List Nat)) (u18:List (List (List Int))) (u14:List Int) (r:Int × List (List Nat)) (m1:Nat):Lp ((Int × List (List Nat)) × Nat × (Int × List Nat) × Nat) (Int × List Nat) (List Nat) (((Int × List (List Nat)) ⊕ (List (List Nat)))) (Int × List (List Nat)) :=⟨fun z=>z.2.2.1,fun z=>z.2.2.2,fun z x n=>(z.1,z.2.1,x,n),fun z=>jtt u12 u11 z.1,fun z=>y244 z.1,fun z=>(y246 u22 u13 u23 u20 u12 u16 u15 u17 u11 u18 u14 r).cx (z.1,m1),fun z=>z.2.1,[.c fun _=>0,.c fun _=>0,.c fun _=>0,.c fun vv=>vv.1.1,.c fun vv=>vv.2.2.1.1,.c fun _=>(↑u13.length:Int),.c fun vv=>vv.1.1,.c fun _=>0,.c fun _=>u20,.c fun _=>(0:Int),.c fun _=>qd none (0:Nat) (0:Nat),.c fun _=>qd none (0:Nat) (0:Nat),.c fun _=>wrap .i64 (u20+1),.c fun vv=>vv.2.2.1.2,.c fun _=>u22,.c fun _=>u12,.c fun _=>u16,.c fun _=>u15,.c fun _=>u17,.c fun _=>u11,.c fun _=>u18,.c fun _=>u14,.c fun vv=>vv.1.2,.c fun _=>u13,.c fun _=>u23]⟩
def jqq (u22:zY) (u13:List (List NC)) (u23:List Int) (u20:Int) (u12:List (List Nat)) (u16:List (List (List Int))) (u15:List (List Nat)) (u17:List Int) (u11:List (List Nat)) (u18:List (List (List Int))) (u14:List Int) (r:Int × List (List Nat)):Sk (top r) (ze (jae (y83 u13 u12 u11) big (((0:Int),[]))) (y245 u20)) :=
 .loopQ (y246 u22 u13 u23 u20 u12 u16 u15 u17 u11 u18 u14 r) [.c fun _=>0,.c fun _=>0,.c fun _=>0,.c fun _=>(↑u13.length:Int),.c fun vv=>vv.1.1,.c fun _=>0,.c fun _=>u20,.c fun _=>(0:Int),.c fun _=>qd none (0:Nat) (0:Nat),.c fun _=>qd none (0:Nat) (0:Nat),.c fun _=>wrap .i64 (u20+1),.c fun _=>u22,.c fun _=>u12,.c fun _=>u16,.c fun _=>u15,.c fun _=>u17,.c fun _=>u11,.c fun _=>u18,.c fun _=>u14,.p fun vv=>zb vv.1.2=(0:Nat),.c fun _=>u13,.c fun _=>u23] (fun kk=>(((0:Int),[]),big)) (fun z0 =>
 .br
 (.loopQ (jhi u22 u13 u23 u20 u12 u16 u15 u17 u11 u18 u14 r z0.2) [.c fun _=>0,.c fun _=>0,.c fun _=>0,.c fun vv=>vv.1.1,.c fun vv=>vv.2.2.1.1,.c fun _=>(↑u13.length:Int),.c fun vv=>vv.1.1,.c fun _=>0,.c fun _=>u20,.c fun _=>(0:Int),.c fun _=>qd none (0:Nat) (0:Nat),.c fun _=>qd none (0:Nat) (0:Nat),.c fun _=>wrap .i64 (u20+1),.p fun vv=>zb vv.2.2.1.2=(0:Nat),.c fun _=>u22,.c fun _=>u12,.c fun _=>u16,.c fun _=>u15,.c fun _=>u17,.c fun _=>u11,.c fun _=>u18,.c fun _=>u14,.c fun vv=>vv.1.2,.c fun _=>u13,.c fun _=>u23] (fun kk=>(z0.1,kk,((-96:Int),[]),big)) (fun z1 =>
 .br
 (.call (.obT (.ob (.next))))
 (.exit (.ob (.next)))) (fun _=>⟨rfl,trivial⟩))
 (.exit (.obT (.rc)))) (fun _=>⟨rfl,trivial⟩)
def jr1 (u22:zY) (u13:List (List NC)) (u23:List Int) (u20:Int) (u12:List (List Nat)) (u16:List (List (List Int))) (u15:List (List Nat)) (u17:List Int) (u11:List (List Nat)) (u18:List (List (List Int))) (u14:List Int) (r:Int × List (List Nat)):Sk (top r) (y80 u13 u20 u12 u11) :=.obT (.obT (.obT (.obT (jqq u22 u13 u23 u20 u12 u16 u15 u17 u11 u18 u14 r))))
def jqr (u22:zY) (u13:List (List NC)) (u23:List Int) (u20:Int) (u12:List (List Nat)) (u16:List (List (List Int))) (u15:List (List Nat)) (u17:List Int) (u11:List (List Nat)) (u18:List (List (List Int))) (u14:List Int) (r:Int × List (List Nat)) (h:ze (y80 u13 u20 u12 u11) some=some r):jaR Tryz.f106 ((sp_149 sp0)) (fun gs id st=>match id with
 |0=>some ⟨(Int × List (List Nat)) × Nat,fun z=>⟨[(0,.w (.c (.p 10 0 1 0))),(2,.w (.c (.p 11 0 1 0))),(3,.w (.c (.p 12 0 1 0))),(26,.w (.c (.d (.i .i64 ((↑u13.length:Int)))))),(27,.w (.c (.d (.i .i64 z.1.1))))],[(10,.ebox [.p 2 0 1 0,.d (.i .i64 u20),.o 3,.o 4,.o 5,.o 6,.o 7,.o 8,.o 9]),(11,.box 78 [.d (.i .i64 0),.d (.v (qd none (0:Nat) (0:Nat))),.d (.v (qd none (0:Nat) (0:Nat)))]),(12,.box 78 [.d (.i .i64 (wrap .i64 (u20+1))),.o 13,.o 8]),(2,.ebox [.d (.s u22),.o 0,.o 1]),(3,.xext (XC.ff .f32 u12)),(4,.xext (XC.rr (4:Nat) u16)),(5,.ext (.frs .f32 32 u15)),(6,.ext (.ints .i64 u17)),(7,.ext (.frs .f32 32 u11)),(8,.xext (XC.rr (4:Nat) u18)),(9,.ext (.ints .i64 u14)),(13,.xrow 157 (XC.ff .f32 z.1.2)),(0,.xext (XC.st zS u13)),(1,.ext (.ints .i64 u23))],14⟩,fun z=>(y246 u22 u13 u23 u20 u12 u16 u15 u17 u11 u18 u14 r).inv z,fun z=>z.2⟩
 |2=>some ⟨(Int × List (List Nat)) × Nat × (Int × List Nat) × Nat,fun z=>⟨[(0,.w (.c (.p 10 0 1 0))),(2,.w (.c (.p 11 0 1 0))),(3,.w (.c (.p 12 0 1 0))),(4,.w (.c (.d (.i .i64 (z.1.1))))),(5,.w (.c (.o 13))),(6,.w (.c (.d (.i .i64 z.2.2.1.1)))),(26,.w (.c (.d (.i .i64 ((↑u13.length:Int)))))),(27,.w (.c (.d (.i .i64 (z.1.1)))))],[(10,.ebox [.p 2 0 1 0,.d (.i .i64 u20),.o 3,.o 4,.o 5,.o 6,.o 7,.o 8,.o 9]),(11,.box 78 [.d (.i .i64 0),.d (.v (qd none (0:Nat) (0:Nat))),.d (.v (qd none (0:Nat) (0:Nat)))]),(12,.box 78 [.d (.i .i64 (wrap .i64 (u20+1))),.o 14,.o 8]),(13,.row 108 (.floats .f32 z.2.2.1.2)),(2,.ebox [.d (.s u22),.o 0,.o 1]),(3,.xext (XC.ff .f32 u12)),(4,.xext (XC.rr (4:Nat) u16)),(5,.ext (.frs .f32 32 u15)),(6,.ext (.ints .i64 u17)),(7,.ext (.frs .f32 32 u11)),(8,.xext (XC.rr (4:Nat) u18)),(9,.ext (.ints .i64 u14)),(14,.xrow 157 (XC.ff .f32 z.1.2)),(0,.xext (XC.st zS u13)),(1,.ext (.ints .i64 u23))],15⟩,fun z=>(jhi u22 u13 u23 u20 u12 u16 u15 u17 u11 u18 u14 r (gs.getD 0 0)).inv z,fun z=>z.2.2.2⟩
 |_=>none) (jaK y257 [.d (.s u22),.x (.st zS u13),.r (.ints .i64 u23),.d (.i .i64 u20),.x (.ff .f32 u12),.x (.rr 4 u16),.r (.frs .f32 32 u15),.r (.ints .i64 u17),.r (.frs .f32 32 u11),.x (.rr 4 u18),.r (.ints .i64 u14)]) [.s [.d (.i .i64 r.1),.x 157 (.ff .f32 r.2),.g 8]] :=
 Sk.vc (jr1 u22 u13 u23 u20 u12 u16 u15 u17 u11 u18 u14 r) (by kernel_rfl) h
def jqs:jaf Tryz.prog 106 true (jah y257 y258):=by
 refine jan (sp:=(sp_149 sp0)) (fn:=Tryz.f106) (body:=bodyOf Tryz.f106) mixed (sp_149_ok jaj) Tryz.func106 (by kernel_rfl) (by kernel_rfl) fun ls t h ho b hb=>?_;unfold y258 at h;split at h
 ·rename_i u22 u13 u23 u20 u12 u16 u15 u17 u11 u18 u14;cases h;obtain rfl:=jav hb;exact⟨zh (by kernel_rfl),_,_,jqr u22 u13 u23 u20 u12 u16 u15 u17 u11 u18 u14 _ (jai ho)⟩
 ·cases h
def sp_106_ok {sp:jaa} (h:jab Tryz.prog sp):jab Tryz.prog (sp_106 sp):=jag jqs h
attribute [irreducible] y80
def jlu:List (Option Cont):=[none]
def jtu (x_:Nat):Option Int :=
 if(qo (FloatKind.format .f32) x_ x_ != some Ordering.eq)=true then some (27:Int)
 else if(gF (hZ.sub (FloatKind.format .f32) x_ x_))=true then
  if(qo (FloatKind.format .f32) (z5 (hZ.sub (FloatKind.format .f32) x_ x_) (0:Nat)) (0:Nat)!=some Ordering.eq)=true then some (27:Int)
  else if(qo (FloatKind.format .f32) x_ (1266679808:Nat)==some Ordering.gt||qo (FloatKind.format .f32) x_ (1266679808:Nat)==some Ordering.eq)=true then some (2:Int)
   else
   if(qo (FloatKind.format .f32) x_ (3414163456:Nat)==some Ordering.lt||qo (FloatKind.format .f32) x_ (3414163456:Nat)==some Ordering.eq)=true then some (2:Int)
   else if jcm .f32 .i64 x_=true then
    if(qo (FloatKind.format .f32) (qE .f32 (f2i .f32 x_)) x_ != some Ordering.eq)=true then some (27:Int)
    else if jcm .f32 .i64 x_=true then
     ze (jef (f2i .f32 x_) (32767:Int)) fun r0 =>
     ze (jg4 r0 (2:Int)) fun r1 =>
     some r1
     else none
    else none
  else
  some (27:Int)
def jf1:List A->Option (Prop × List RV)|[.d (.f .f32 x_)]=>some (ok (jtu x_),[.d (.i .i64 ((val (jtu x_))))])|_=>none
abbrev sp_164:jaa->jaa:=jap 164 true (jat jlu jf1)
def jvy (x_:Nat) (r:Int):Sk (top r) (jtu x_) :=.brB
 (.obT (.rc))
 (.brB
 (.obT (.brB
 (.obT (.rc))
 (.brB
 (.obT (.rc))
 (.brB
 (.obT (.rc))
 (.ob (.obT (.brB
 (.obT (.rc))
 (.ob (.call (.call (.obT (.rc))))))))))))
 (.obT (.obT (.rc))))
def jtv (x_:Nat) (r:Int) (h:ze (jtu x_) some=some r):ja4 Tryz.f164 ((sp_160 (sp_77 sp0))) (fun _ _ _=>none) [.d (.f .f32 x_)] [.d (.i .i64 r)] :=Sk.vc (jvy x_ r) (by kernel_rfl) h
def jtw:jaf Tryz.prog 164 true (jat jlu jf1):=by
 refine jaA (sp:=(sp_160 (sp_77 sp0))) (fn:=Tryz.f164) (body:=bodyOf Tryz.f164) mixed (sp_160_ok (sp_77_ok jaj)) Tryz.func164 (by kernel_rfl) (by kernel_rfl) fun as_ ob rs h ho=>?_;unfold jf1 at h;split at h
 ·rename_i x_;cases h;exact⟨zh rfl,_,_,jtv x_ _ (jai ho)⟩
 ·cases h
def sp_164_ok {sp:jaa} (h:jab Tryz.prog sp):jab Tryz.prog (sp_164 sp):=jag jtw h
attribute [irreducible] jtu
def jjM:List (Option Cont):=[some (.floats .f32 [])]
def jh2 (l:List Nat) (x0:Int):Option (Int ⊕ (Int ⊕ Unit)) :=
 if x0<(↑l.length:Int)then if 0<=x0∧x0<(↑l.length:Int)then
  if zf x0<zb l then
   ze (jtu (za l x0.toNat (0:Nat))) fun r0 =>
   if(r0 != 0)=true then
   some (.inr (.inl r0))
   else
   some (.inl (wrap .i64 (x0+1)))
  else none
  else none
 else some (.inr ((.inr ())))
def joI (u5:Int):Option Int :=some u5
def joJ (u10:Unit):Option Int :=some (0:Int)
def jh3:(Int ⊕ Unit)->Option Int :=(qz (joI) (joJ))
def jnr (l:List Nat):Option Int :=ze (jae (jh2 l) big (0:Int)) (jh3)
def jeY:List A->Option (Prop × List RV)|[.r (.floats .f32 l)]=>some (ok (jnr l),[.d (.i .i64 ((val (jnr l))))])|_=>none
abbrev sp_142:jaa->jaa:=jap 142 true (jat jjM jeY)
abbrev jh4 (l:List Nat) (r:Int):Lp (Int × Nat) Int (Int ⊕ Unit) Int Int :=⟨fun z=>z.1,fun z=>z.2,fun z x n=>(x,n),fun z=>jh2 l,fun z=>jh3,fun z=>top r,fun z=>0,[.c fun _=>(↑l.length:Int),.c fun vv=>vv.1,.c fun _=>l]⟩
def jtx (l:List Nat) (r:Int):Sk (top r) (jnr l) :=
 .loop (jh4 l r) (fun kk=>((0:Int),big)) fun z0 =>
 .br
 (.ob (.ob (.call (.brB
 (.exit (.obT (.rc)))
 (.next)))))
 (.exit (.obT (.rc)))
def jr2 (l:List Nat) (r:Int) (h:ze (jnr l) some=some r):ja4 Tryz.f142 ((sp_164 sp0)) (fun gs id st=>match id with
 |0=>some ⟨Int × Nat,fun z=>⟨[(6,.w (.c (.o 0))),(7,.w (.c (.d (.i .i64 ((↑l.length:Int)))))),(8,.w (.c (.d (.i .i64 z.1))))],[(0,.ext (.floats .f32 l))],1⟩,fun z=>(jh4 l r).inv z,fun z=>z.2⟩
 |_=>none) [.r (.floats .f32 l)] [.d (.i .i64 r)] :=
 Sk.vc (jtx l r) (by kernel_rfl) h
def jr3:jaf Tryz.prog 142 true (jat jjM jeY):=by
 refine jaA (sp:=(sp_164 sp0)) (fn:=Tryz.f142) (body:=bodyOf Tryz.f142) mixed (sp_164_ok jaj) Tryz.func142 (by kernel_rfl) (by kernel_rfl) fun as_ ob rs h ho=>?_;unfold jeY at h;split at h
 ·rename_i l;cases h;exact⟨zh rfl,_,_,jr2 l _ (jai ho)⟩
 ·cases h
def sp_142_ok {sp:jaa} (h:jab Tryz.prog sp):jab Tryz.prog (sp_142 sp):=jag jr3 h
attribute [irreducible] jnr
def jf2:List SV:=[.c (.r (.frs .f32 32 []))]
def jty (l:List (List Nat)) (x0:Int):Option (Int ⊕ (Int ⊕ Unit)) :=
 if x0<(↑l.length:Int)then if 0<=x0∧x0<(↑l.length:Int)then
  if zf x0<zb l then if zb (za l x0.toNat [])=(32:Nat)∧0<=z5 none (0:Int)∧z5 none 0<=z5 none (↑(32:Nat):Int)∧z5 none (↑(32:Nat):Int)<=(↑(32:Nat):Int)then
   ze (jnr (yS (32:Nat) (yT (0:Nat) (za l x0.toNat [])))) fun r0 =>
   if(r0 != 0)=true then some (.inr (.inl r0))
   else some (.inl (wrap .i64 (x0+1)))
   else none
  else none
  else none
 else some (.inr ((.inr ())))
def jqt (u5:Int):Option Int :=some u5
def jqu (u10:Unit):Option Int :=some (0:Int)
def jjN:(Int ⊕ Unit)->Option Int :=(qz (jqt) (jqu))
def jns (l:List (List Nat)):Option Int :=ze (jae (jty l) big (0:Int)) (jjN)
def jf3:List Lf->Option GT|[.r (.frs .f32 32 l)]=>some (.leaf (ok (jns l)) [.c (.d (.i .i64 ((val (jns l)))))])|_=>none
abbrev sp_100:jaa->jaa:=jap 100 true (jah jf2 jf3)
abbrev jjO (l:List (List Nat)) (r:Int):Lp (Int × Nat) Int (Int ⊕ Unit) Int Int :=⟨fun z=>z.1,fun z=>z.2,fun z x n=>(x,n),fun z=>jty l,fun z=>jjN,fun z=>top r,fun z=>0,[.c fun _=>(↑l.length:Int),.c fun vv=>vv.1,.c fun _=>l]⟩
def jvz (l:List (List Nat)) (r:Int):Sk (top r) (jns l) :=
 .loop (jjO l r) (fun kk=>((0:Int),big)) fun z0 =>
 .br
 (.ob (.ob (.obT (.ob (.call (.brB
 (.exit (.obT (.rc)))
 (.next)))))))
 (.exit (.obT (.rc)))
def jtz (l:List (List Nat)) (r:Int) (h:ze (jns l) some=some r):jaR Tryz.f100 ((sp_142 sp0)) (fun gs id st=>match id with
 |0=>some ⟨Int × Nat,fun z=>⟨[(6,.w (.c (.o 0))),(7,.w (.c (.d (.i .i64 ((↑l.length:Int)))))),(8,.w (.c (.d (.i .i64 z.1))))],[(0,.ext (.frs .f32 32 l))],1⟩,fun z=>(jjO l r).inv z,fun z=>z.2⟩
 |_=>none) (jaK jf2 [.r (.frs .f32 32 l)]) [.c (.d (.i .i64 r))] :=
 Sk.vc (jvz l r) (by kernel_rfl) h
def jtA:jaf Tryz.prog 100 true (jah jf2 jf3):=by
 refine jan (sp:=(sp_142 sp0)) (fn:=Tryz.f100) (body:=bodyOf Tryz.f100) mixed (sp_142_ok jaj) Tryz.func100 (by kernel_rfl) (by kernel_rfl) fun ls t h ho b hb=>?_;unfold jf3 at h;split at h
 ·rename_i l;cases h;obtain rfl:=jav hb;exact⟨zh (by kernel_rfl),_,_,jtz l _ (jai ho)⟩
 ·cases h
def sp_100_ok {sp:jaa} (h:jab Tryz.prog sp):jab Tryz.prog (sp_100 sp):=jag jtA h
attribute [irreducible] jns
def y207:List SV:=[.c (.p [.d,.x (.st zS []),.r (.ints .i64 [])]),.a [.d,.x (.ff .f32 []),.x (.rr 4 [])],.c (.r (.frs .f32 32 [])),.c (.r (.bools []))]
def y18 (u9:zY) (u6:List (List NC)) (u7:List Int) (u83:Int) (u42:List Bool):Option (Int × List Int × List (List Nat) × List (List (List Int)) × List Int) :=
 ze (y82 u9 u6 u7 u42) fun r0 =>
 if 0<=(↑u6.length:Int)∧(↑u6.length:Int)=(↑u6.length:Int)∧(↑(128:Nat):Int)*(↑u6.length:Int)<=281474976710656∧(↑u6.length:Int)<=9223372036854775807 then if 0<=(↑u6.length:Int)∧(↑u6.length:Int)=(↑u6.length:Int)∧(↑(24:Nat):Int)*(↑u6.length:Int)<=281474976710656∧(↑u6.length:Int)<=9223372036854775807 then
  if 0<=(↑u6.length:Int)∧(↑u6.length:Int)=(↑u6.length:Int)∧(↑(8:Nat):Int)*(↑u6.length:Int)<=281474976710656∧(↑u6.length:Int)<=9223372036854775807 then some ((u83,r0,zi (zf (↑u6.length:Int)) zO,zi (zf (↑u6.length:Int)) (NC.toRecs (qg [NC.r (Cont.recs (4:Nat) [])] (NC.d (D.v zX)))),zi (zf (↑u6.length:Int)) (0:Int)))
  else none
  else none
 else none
def y208:List Lf->Option GT|[.d (.s u9),.x (.st [.s,.i .i64,.ints .i64,.ints .i64,.ints .i64,.i .i64,.recs 5,.i .i64] u6),.r (.ints .i64 u7),.d (.i .i64 u83),.x (.ff .f32 u92),.x (.rr 4 u93),.r (.frs .f32 32 in_),.r (.bools u42)]=>some (.leaf (ok (y18 u9 u6 u7 u83 u42)) [.c (.box 205 [.g 2,.d (.i .i64 ((val (y18 u9 u6 u7 u83 u42)).1)),.g 3,.g 4,.g 5,.row 3 (.ints .i64 ((val (y18 u9 u6 u7 u83 u42)).2.1)),.row 110 (.frs .f32 32 ((val (y18 u9 u6 u7 u83 u42)).2.2.1)),.x 158 (.rr 4 ((val (y18 u9 u6 u7 u83 u42)).2.2.2.1)),.row 3 (.ints .i64 ((val (y18 u9 u6 u7 u83 u42)).2.2.2.2))])])|_=>none
abbrev sp_102:jaa->jaa:=jap 102 true (jah y207 y208)
def jnt (u9:zY) (u6:List (List NC)) (u7:List Int) (u83:Int) (u92:List (List Nat)) (u93:List (List (List Int))) (in_:List (List Nat)) (u42:List Bool) (r:Int × List Int × List (List Nat) × List (List (List Int)) × List Int):Sk (top r) (y18 u9 u6 u7 u83 u42) :=.obT (.call (.ob (.ob (.ob (.obT (.rc))))))
def jlW (u9:zY) (u6:List (List NC)) (u7:List Int) (u83:Int) (u92:List (List Nat)) (u93:List (List (List Int))) (in_:List (List Nat)) (u42:List Bool) (r:Int × List Int × List (List Nat) × List (List (List Int)) × List Int) (h:ze (y18 u9 u6 u7 u83 u42) some=some r):jaR Tryz.f102 ((sp_93 sp0)) (fun _ _ _=>none) (jaK y207 [.d (.s u9),.x (.st zS u6),.r (.ints .i64 u7),.d (.i .i64 u83),.x (.ff .f32 u92),.x (.rr 4 u93),.r (.frs .f32 32 in_),.r (.bools u42)]) [.c (.box 205 [.g 2,.d (.i .i64 r.1),.g 3,.g 4,.g 5,.row 3 (.ints .i64 r.2.1),.row 110 (.frs .f32 32 r.2.2.1),.x 158 (.rr 4 r.2.2.2.1),.row 3 (.ints .i64 r.2.2.2.2)])] :=Sk.vc (jnt u9 u6 u7 u83 u92 u93 in_ u42 r) (by kernel_rfl) h
def jlX:jaf Tryz.prog 102 true (jah y207 y208):=by
 refine jan (sp:=(sp_93 sp0)) (fn:=Tryz.f102) (body:=bodyOf Tryz.f102) mixed (sp_93_ok jaj) Tryz.func102 (by kernel_rfl) (by kernel_rfl) fun ls t h ho b hb=>?_;unfold y208 at h;split at h
 ·rename_i u9 u6 u7 u83 u92 u93 in_ u42;cases h;obtain rfl:=jav hb;exact⟨zh (by kernel_rfl),_,_,jlW u9 u6 u7 u83 u92 u93 in_ u42 _ (jai ho)⟩
 ·cases h
def sp_102_ok {sp:jaa} (h:jab Tryz.prog sp):jab Tryz.prog (sp_102 sp):=jag jlX h
attribute [irreducible] y18
end Go.Sh
end
