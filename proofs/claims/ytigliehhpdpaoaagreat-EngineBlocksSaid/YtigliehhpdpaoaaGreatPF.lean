/- Part 6 of the proof of EngineBlocks: the executor, the mirrors of the functions, the plain facts. -/
import Derived.Test.YtigliehhpdpaoaaGreatPE
import Derived.RangeFuncNested
import Derived.RangeFuncBound
import Derived.RangeFuncCalls
import Derived.RangeFuncLeaves
import Derived.OwnWalkIn
import Derived.TacticsInMore
import Derived.OrdersIn
import Derived.Carry
import Derived.ChangeArms
import Derived.OpenShut
import Derived.ChangeShapes
import Derived.ChangeSame
import Derived.SizedLaws
import Derived.WideShapes
set_option maxRecDepth 100000
set_option linter.unusedSectionVars false
set_option linter.unusedSimpArgs false
set_option linter.unusedVariables false
set_option linter.defProp false
open Array renaming getElem?_eq_getElem->xm
open Bool renaming and_eq_true->zk,not_eq_true->gj
open ByteArray renaming empty->xY,mk->xd
open Classical renaming choose->yR,choose_spec->jq
open Eq renaming mp->js
open Go renaming Code->jn,FloatKind->qd,MemPlace->jM,Oper->qu,Operand->zZ,Program->zP,TypeId->qI,Value->zs,World->zr,execOp->xg,undef->zJ,wp_mono->yl,wp_seq->fz
open Go.Act renaming put->jO
open Go.Addr renaming add->fP
open Go.DataW renaming Trod->kv,TrodAll->gV,trod->xG,trod_array->f9,trod_slice->kb,trod_struct->gK
open Go.FloatKind renaming nearest->qw
open Go.IntKind renaming bits->fQ,i64->qP,max->kU,min->kS,signed->fq
open Go.RowKit renaming Below->yn
open Go.Value renaming cells->fo,okWide->gD,slice->zx
open Go.World renaming block_lt_of_cell?->xe,cell?->fC,cells?_some->fX
open Ieee.Format renaming order->qo
open Int renaming toNat->zf,toNat_natCast->zg
open List renaming any_eq_false->xC,append_nil->yw,drop_drop->j9,drop_eq_nil_of_le->jk,eq_nil_of_length_eq_zero->z5,flatMap_cons->xz,getD->zb,getElem?_eq_getElem->zH,getElem?_eq_some_iff->zC,getElem_mem->zW,getElem_of_mem->xF,headD->zA,length->za,length_append->qc,length_cons->zB,length_drop->xy,length_map->qh,length_nil->qe,length_range->x7,length_replicate->yc,map->qt,map_append->xa,map_congr_left->qx,map_cons->zL,map_id'->g6,map_nil->xp,mem_append->qR,mem_append_left->yF,mem_append_right->yz,mem_cons->qr,mem_cons_of_mem->zu,mem_cons_self->zw,mem_iff_getElem->xx,mem_map->qn,mem_range->qZ,mem_singleton->z6,nil_append->qS,range->zm,replicate->zh,set->qz,take_append_drop->xQ,take_length->yk
open Nat renaming add_assoc->xL,add_mul->qE,div_add_mod->yu,div_lt_of_lt_mul->yE,le_of_ble_eq_true->zQ,le_refl->zp,le_succ->xu,le_trans->xb,lt_of_lt_of_le->zG,lt_succ_self->zo,mod_lt->ya,mul_comm->xI,mul_le_mul_right->qb,not_lt_zero->ye,zero_mul->yd
open Option renaming bind->ze,bind_eq_some_iff->zK,map_some->qk
open Option.some renaming inj->yf,injEq->zj
open Sum renaming elim->qy
noncomputable section
section
namespace Go.Sh
open Go Go.Proofs Go.RowKit Go.Sx
open Go.IntKind (wrap)
set_option maxRecDepth 100000
attribute [local irreducible] y46
def jmj:List SV:=[.c (.p [.d,.x (.st zS []),.r (.ints .i64 [])]),.c (.x (.bb .f32 32 [])),.c (.r (.recs 2 [])),.c (.f 118 [.p [.p [.d,.x (.st zS []),.r (.ints .i64 [])]]])]
def y21 (in_:List (List (List Nat))) (x1:(Int × Int × Int × Int × Int × List (List (List Nat)) × Int × List (List Nat) × List (List Nat) × List (List (List Int)))):Option ((Int × Int × Int × Int × Int × List (List (List Nat)) × Int × List (List Nat) × List (List Nat) × List (List (List Int))) ⊕ (Int × Int × Int × Int × List (List (List Nat)) × Int × List (List Nat) × List (List Nat) × List (List (List Int)))) :=
 if x1.2.2.2.2.1<(↑in_.length:Int)then if 0<=x1.2.2.2.2.1∧x1.2.2.2.2.1<(↑in_.length:Int)then
  if zf x1.2.2.2.2.1<za in_ then if 0<=x1.2.1∧x1.2.1<(↑(za (zb in_ x1.2.2.2.2.1.toNat [])):Int)then
   if zf x1.2.1<za (zb in_ x1.2.2.2.2.1.toNat [])then if(za x1.2.2.2.2.2.2.2.1+za [zb (zb in_ x1.2.2.2.2.1.toNat []) x1.2.1.toNat []])*128<=140737488355328∧za x1.2.2.2.2.2.2.2.1+za [zb (zb in_ x1.2.2.2.2.1.toNat []) x1.2.1.toNat []]<=9223372036854775807 then some (.inl ((x1.1,x1.2.1,x1.2.2.1,x1.2.2.2.1,wrap .i64 (x1.2.2.2.2.1+1),x1.2.2.2.2.2.1,x1.2.2.2.2.2.2.1,x1.2.2.2.2.2.2.2.1++[zb (zb in_ x1.2.2.2.2.1.toNat []) x1.2.1.toNat []],x1.2.2.2.2.2.2.2.2.1,x1.2.2.2.2.2.2.2.2.2)))
    else none
   else none
   else none
  else none
  else none
 else some (.inr (x1.1,x1.2.1,x1.2.2.1,x1.2.2.2.1,x1.2.2.2.2.2.1,x1.2.2.2.2.2.2.1,x1.2.2.2.2.2.2.2.1,x1.2.2.2.2.2.2.2.2.1,x1.2.2.2.2.2.2.2.2.2))
def y37 (r5:List (List Nat)) (x2:(Int × List (List (List Nat)))):Option ((Int × List (List (List Nat))) ⊕ (List (List (List Nat)))) :=
 if x2.1<(↑r5.length:Int)then if 0<=x2.1∧x2.1<(↑r5.length:Int)then
  if zf x2.1<za r5 then if 0<=x2.1∧x2.1<(↑x2.2.length:Int)then
   if zf x2.1<za x2.2 then if(za (zb x2.2 x2.1.toNat [])+za [zb r5 x2.1.toNat []])*128<=140737488355328∧za (zb x2.2 x2.1.toNat [])+za [zb r5 x2.1.toNat []]<=9223372036854775807 then
    if 0<=x2.1∧x2.1<(↑x2.2.length:Int)then if zf x2.1=zf x2.1∧zf x2.1<za x2.2 then some (.inl ((wrap .i64 (x2.1+1),qz x2.2 x2.1.toNat (NC.toFrs (zA [NC.r (Cont.frs .f32 (32:Nat) (zb x2.2 x2.1.toNat []++[zb r5 x2.1.toNat []]))] (NC.d (D.v zJ)))))))
     else none
    else none
    else none
   else none
   else none
  else none
  else none
 else some (.inr x2.2)
def y178 (u6:List (List NC)) (u7:Int × Int × Int × Int × List (List (List Nat)) × Int × List (List Nat) × List (List Nat) × List (List (List Int))) (r3:Int × List Int × List (List Nat) × List (List (List Int)) × List Int) (r4:List (List Nat) × List (List (List Int)) × List Int) (u22:List (List (List Nat))):Option ((Int × Int × Int × List (List (List Nat)) × Int × List (List Nat) × List (List (List Int))) ⊕ (Int × List (List (List Nat)))) :=
 ze (y53 r4.2.2) fun r6 =>
 ze (y61 u6 r3.1 u7.2.2.2.2.2.2.2.1 r4.1) fun r7 =>
 some (.inl ((wrap .i64 (u7.1+r6),u7.2.2.1,wrap .i64 (u7.2.2.2.1+1),u22,r7.1,r7.2,r4.2.1)))
def y179 (u10:zY) (u6:List (List NC)) (u9:List Int) (l:List (List Int)) (u52:List Int) (u7:Int × Int × Int × Int × List (List (List Nat)) × Int × List (List Nat) × List (List Nat) × List (List (List Int))):Option ((Int × Int × Int × List (List (List Nat)) × Int × List (List Nat) × List (List (List Int))) ⊕ (Int × List (List (List Nat)))) :=
 ze (y46 u10 u6 u9 l u7.2.1) fun r2 =>
 ze (y7 u10 u6 u9 u7.2.2.2.2.2.1 r2) fun r3 =>
 ze (jcJ u6 u7.2.2.2.2.2.2.2.1 u7.2.2.2.2.2.2.2.2 u7.2.2.2.2.2.2.1 r3.2.1 u52 r3.2.2.1 r3.2.2.2.1 r3.2.2.2.2) fun r4 =>
 ze (y10 u6 r4.1) fun r5 =>
 ze (jae (y37 r5) big (((0:Int),u7.2.2.2.2.1))) (y178 u6 u7 r3 r4)
def y38 (u10:zY) (u6:List (List NC)) (u9:List Int) (in_:List (List (List Nat))) (l:List (List Int)) (u52:List Int) (x0:(Int × Int × Int × List (List (List Nat)) × Int × List (List Nat) × List (List (List Int)))):Option ((Int × Int × Int × List (List (List Nat)) × Int × List (List Nat) × List (List (List Int))) ⊕ (Int × List (List (List Nat)))) :=
 if x0.2.2.1<x0.2.1 then ze (jae (y21 in_) big ((x0.1,x0.2.2.1,x0.2.1,x0.2.2.1,0,x0.2.2.2.1,x0.2.2.2.2.1,[],x0.2.2.2.2.2.1,x0.2.2.2.2.2.2))) (y179 u10 u6 u9 l u52)
 else some (.inr (x0.1,x0.2.2.2.1))
def y180 (u3:Int × List (List (List Nat))):Option (List (List (List Nat)) × Int) :=some (u3.2,u3.1)
def y31 (u10:zY) (u6:List (List NC)) (u9:List Int) (in_:List (List (List Nat))) (l:List (List Int)) (u52:List Int):Option (List (List (List Nat)) × Int) :=
 ze (y6 u6 (4:Int)) fun r0 =>
 if 0<=(↑r0.length:Int)∧(↑r0.length:Int)=(↑r0.length:Int)∧(↑(24:Nat):Int)*(↑r0.length:Int)<=281474976710656∧(↑r0.length:Int)<=9223372036854775807 then
  ze (y16 u6) fun r1 =>
  if(↑in_.length:Int)>0 then
  if(0:Int)<=0∧0<(↑in_.length:Int)then if 0<za in_ then ze (jae (y38 u10 u6 u9 in_ l u52) big (((0:Int),(↑(za (zb in_ 0 [])):Int),0,zh (zf (↑r0.length:Int)) (NC.toFrs (zA [NC.r (Cont.frs .f32 (32:Nat) [])] (NC.d (D.v zJ)))),r1.1,r1.2.1,r1.2.2))) (y180)
   else none
  else none
  else
  ze (jae (y38 u10 u6 u9 in_ l u52) big (((0:Int),0,0,zh (zf (↑r0.length:Int)) (NC.toFrs (zA [NC.r (Cont.frs .f32 (32:Nat) [])] (NC.d (D.v zJ)))),r1.1,r1.2.1,r1.2.2))) (y180)
 else none
def y245:List Lf->Option GT|[.d (.s u10),.x (.st [.s,.i .i64,.ints .i64,.ints .i64,.ints .i64,.i .i64,.recs 5,.i .i64] u6),.r (.ints .i64 u9),.x (.bb .f32 32 in_),.r (.recs 2 l),.d (.s each0_EngineGraphName),.x (.st [.s,.i .i64,.ints .i64,.ints .i64,.ints .i64,.i .i64,.recs 5,.i .i64] each0_EngineGraphUnits),.r (.ints .i64 u52)]=>some (.leaf (ok (y31 u10 u6 u9 in_ l u52)) [.c (.m 79 [(110:Nat)] (.bb .f32 32 ((val (y31 u10 u6 u9 in_ l u52)).1))),.c (.d (.i .i64 ((val (y31 u10 u6 u9 in_ l u52)).2)))])|_=>none
abbrev sp_117_118:jab->jab:=jal 117 true (jak jmj y245)
def pl_s0 (c0:List Nat) (c1:Int) (c2:List (List Nat)) (c3:List Int) (c4:List (List (List Int))) (c5:List (List Nat)) (c6:List Int) (c7:Int) (c8:List (List (List Int))) (c9:List (List Nat)) (c10:List (List Nat)) (c11:List (List NC)) (c12:zY) (c13:Int) (c14:List (List NC)) (c15:Int) (c16:zY) (c17:Int) (c18:Int) (c19:List (List (List Nat))) (c20:List Int) (c21:Int) (c22:List Int) (c23:List (List (List Nat))) (c24:List (List Int)):St :=⟨[(0,.w (.c (.p 2 0 1 0))),(1,.w (.c (.o 3))),(2,.w (.c (.o 4))),(3,.w (.c (.fn 118 [8]))),(10,.w (.c (.o 9))),(11,.w (.c (.d (.i .i64 c21)))),(12,.w (.c (.p 10 0 1 0))),(18,.w (.c (.p 11 0 1 0))),(19,.w (.c (.d (.i .i64 c18)))),(20,.w (.c (.p 20 0 1 0))),(34,.w (.c (.d (.i .i64 c17)))),(35,.w (.c (.d (.i .i64 c15)))),(64,.w (.c (.o 12))),(65,.w (.c (.d (.i .i64 (c1))))),(66,.w (.c (.d (.i .i64 c18))))],[(12,.row 110 (.frs .f32 32 c2)),(20,.arr 110 32 (.f .f32 c0)),(11,.box 205 [.p 2 0 1 0,.d (.i .i64 c7),.o 13,.o 14,.o 15,.o 16,.o 17,.o 18,.o 19]),(10,.box 78 [.d (.i .i64 c13),.o 13,.o 14]),(9,.mrow 79 [(110:Nat)] (XC.bb .f32 (32:Nat) c19) none),(8,.ebox [.p 7 0 1 0]),(4,.ext (.recs 2 c24)),(3,.xext (XC.bb .f32 (32:Nat) c23)),(2,.ebox [.d (.s c16),.o 0,.o 1]),(19,.row 3 (.ints .i64 c3)),(18,.xrow 158 (XC.rr (4:Nat) c4)),(17,.row 110 (.frs .f32 32 c5)),(16,.row 3 (.ints .i64 c6)),(15,.row 110 (.frs .f32 32 c10)),(14,.xrow 158 (XC.rr (4:Nat) c8)),(13,.xrow 157 (XC.ff .f32 c9)),(7,.ebox [.d (.s c12),.o 5,.o 6]),(1,.ext (.ints .i64 c22)),(0,.xext (XC.st zS c14)),(6,.ext (.ints .i64 c20)),(5,.xext (XC.st zS c11))],21⟩
def pl_s1 (c0:List Nat) (c1:Int) (c2:List (List Nat)) (c3:List Int) (c4:List (List (List Int))) (c5:List (List Nat)) (c6:List Int) (c7:Int) (c8:List (List (List Int))) (c9:List (List Nat)) (c10:List (List Nat)) (c11:List (List NC)) (c12:zY) (c13:Int) (c14:List (List NC)) (c15:Int) (c16:zY) (c17:Int) (c18:Int) (c19:List (List (List Nat))) (c20:List Int) (c21:Int) (c22:List Int) (c23:List (List (List Nat))) (c24:List (List Int)):St :=⟨[(0,.w (.c (.p 2 0 1 0))),(1,.w (.c (.o 3))),(2,.w (.c (.o 4))),(3,.w (.c (.fn 118 [8]))),(10,.w (.c (.o 9))),(11,.w (.c (.d (.i .i64 c21)))),(12,.w (.c (.p 10 0 1 0))),(18,.w (.c (.p 11 0 1 0))),(34,.w (.c (.d (.i .i64 c17)))),(35,.w (.c (.d (.i .i64 c15)))),(64,.w (.c (.o 12))),(65,.w (.c (.d (.i .i64 (c1))))),(66,.w (.c (.d (.i .i64 c18))))],[(12,.row 110 (.frs .f32 32 c2)),(11,.box 205 [.p 2 0 1 0,.d (.i .i64 c7),.o 13,.o 14,.o 15,.o 16,.o 17,.o 18,.o 19]),(10,.box 78 [.d (.i .i64 c13),.o 13,.o 14]),(9,.mrow 79 [(110:Nat)] (XC.bb .f32 (32:Nat) (qz c19 c18.toNat (NC.toFrs (zA [NC.r (Cont.frs .f32 (32:Nat) (zb c19 c18.toNat []++[c0]))] (NC.d (D.v zJ)))))) none),(8,.ebox [.p 7 0 1 0]),(4,.ext (.recs 2 c24)),(3,.xext (XC.bb .f32 (32:Nat) c23)),(2,.ebox [.d (.s c16),.o 0,.o 1]),(19,.row 3 (.ints .i64 c3)),(18,.xrow 158 (XC.rr (4:Nat) c4)),(17,.row 110 (.frs .f32 32 c5)),(16,.row 3 (.ints .i64 c6)),(15,.row 110 (.frs .f32 32 c10)),(14,.xrow 158 (XC.rr (4:Nat) c8)),(13,.xrow 157 (XC.ff .f32 c9)),(7,.ebox [.d (.s c12),.o 5,.o 6]),(1,.ext (.ints .i64 c22)),(0,.xext (XC.st zS c14)),(6,.ext (.ints .i64 c20)),(5,.xext (XC.st zS c11))],24⟩
def jEd:Array qu:=(jcI (bodyOf Tryz.f117)).getD 1 #[]
def jEe (c0:List Nat) (c1:Int) (c2:List (List Nat)) (c3:List Int) (c4:List (List (List Int))) (c5:List (List Nat)) (c6:List Int) (c7:Int) (c8:List (List (List Int))) (c9:List (List Nat)) (c10:List (List Nat)) (c11:List (List NC)) (c12:zY) (c13:Int) (c14:List (List NC)) (c15:Int) (c16:zY) (c17:Int) (c18:Int) (c19:List (List (List Nat))) (c20:List Int) (c21:Int) (c22:List Int) (c23:List (List (List Nat))) (c24:List (List Int)):Prop:=joH Tryz.prog (sp_99 (sp_120 (sp_94 (sp_102 (sp_104 (sp_105 (sp_106 (sp_118 sp0)))))))) 91 9 [0,1,2,3] jEd (pl_s0 c0 c1 c2 c3 c4 c5 c6 c7 c8 c9 c10 c11 c12 c13 c14 c15 c16 c17 c18 c19 c20 c21 c22 c23 c24) (pl_s1 c0 c1 c2 c3 c4 c5 c6 c7 c8 c9 c10 c11 c12 c13 c14 c15 c16 c17 c18 c19 c20 c21 c22 c23 c24) ((zf c18=zf c18∧zf c18<za c19)∧(0<=c18∧c18<(↑c19.length:Int))∧((za (zb c19 c18.toNat [])+za [c0])*128<=140737488355328∧za (zb c19 c18.toNat [])+za [c0]<=9223372036854775807)∧(True)∧(zf c18<za c19)∧(0<=c18∧c18<(↑c19.length:Int))∧True)
def jsI (c0:List Nat) (c1:Int) (c2:List (List Nat)) (c3:List Int) (c4:List (List (List Int))) (c5:List (List Nat)) (c6:List Int) (c7:Int) (c8:List (List (List Int))) (c9:List (List Nat)) (c10:List (List Nat)) (c11:List (List NC)) (c12:zY) (c13:Int) (c14:List (List NC)) (c15:Int) (c16:zY) (c17:Int) (c18:Int) (c19:List (List (List Nat))) (c20:List Int) (c21:Int) (c22:List Int) (c23:List (List (List Nat))) (c24:List (List Int)):jEe c0 c1 c2 c3 c4 c5 c6 c7 c8 c9 c10 c11 c12 c13 c14 c15 c16 c17 c18 c19 c20 c21 c22 c23 c24:=fun h =>
 have t:=trivial;have e:Ob True:=⟨trivial⟩
 have q0:Ob _:=⟨h.2.1⟩
 have q1:Ob _:=⟨h.2.2.2.2.1⟩
 have q2:Ob _:=⟨h.2.2.1⟩
 have q3:Ob _:=⟨h.1⟩
 have q4:=oR ((0:Nat));have q5:=oR (c21);have q6:=oR (c17);have q7:=oR (c15);have q8:=oR (c1);have q9:=oR (c18);have q10:=oR (c2);have q11:=oR (c7);have q12:=oR (c13);have q13:=oR (qz c19 c18.toNat (NC.toFrs (zA [NC.r (Cont.frs .f32 (32:Nat) (zb c19 c18.toNat []++[c0]))] (NC.d (D.v zJ)))));have q14:=oR (c24);have q15:=oR (c23);have q16:=oR (c16);have q17:=oR (c3);have q18:=oR (c4);have q19:=oR (c5);have q20:=oR (c6);have q21:=oR (c10);have q22:=oR (c8);have q23:=oR (c9);have q24:=oR (c12);have q25:=oR (c22);have q26:=oR (c14);have q27:=oR (c20);have q28:=oR (c11);have s0:=ai q8 (ai q9 (ai q10 (ai q4 (ai q11 (ai q12 (ai q13 (ai q4 (ai q14 (ai q15 (ai q16 (ai q17 (ai q18 (ai q19 (ai q20 (ai q21 (ai q22 (ai q23 (ai q24 (ai q25 (ai q26 (ai q27 (ai q28 t))))))))))))))))))))));have s1:=ai (ai q2 (ai (ai q0 (ai (ai q3 (ai q4 (ai q5 (ai q4 (ai q4 (ai q6 (ai q7 s0))))))) t)) t)) t;have s2:=ai (ai e s1) t;have s3:=ai (ai q1 s1) t;have s4:=ai (ai q1 s2) (ai (ai e s3) t);have s5:=ai e (ai e (ai e (ai e (ai (ai q0 (ai (ai q1 (ai (ai e s2) t)) (ai (ai e s4) t))) (ai (ai e (ai (ai q0 s4) (ai (ai e (ai (ai q0 s3) t)) t))) t)))))
 @js _ _ (by kernel_rfl) s5
abbrev pyQ:Type:=Int × Int × Int × Int × List (List (List Nat)) × Int × List (List Nat) × List (List Nat) × List (List (List Int))
abbrev py3 (gN:zY) (gU:List (List NC)) (gO:List Int) (l:List (List Int)) (q:pyQ):Int × List Int × List (List Nat) × List (List (List Int)) × List Int:=val (y7 gN gU gO q.2.2.2.2.2.1 (val (y46 gN gU gO l q.2.1)))
abbrev py4 (gN:zY) (gU:List (List NC)) (gO:List Int) (l:List (List Int)) (eo:List Int) (q:pyQ):List (List Nat) × List (List (List Int)) × List Int:=val (jcJ gU q.2.2.2.2.2.2.2.1 q.2.2.2.2.2.2.2.2 q.2.2.2.2.2.2.1 (py3 gN gU gO l q).2.1 eo (py3 gN gU gO l q).2.2.1 (py3 gN gU gO l q).2.2.2.1 (py3 gN gU gO l q).2.2.2.2)
def sp_117_118_ok:KO sp_117_118:=jag (kA 11 [0,1,2,3,10,11,12,18,19,20,34,35,64,65,66] [0,1,2,3,10,11,12,18,34,35,64,65,66] [0,1,2,3] (sp_99_ok (sp_120_ok (sp_94_ok (sp_102_ok (sp_104_ok (sp_105_ok (sp_106_ok (sp_118_ok jaf)))))))) Tryz.func117 (by kernel_rfl) fun ls t h ho=>by
 unfold y245 at h;split at h
 ·rename_i u10 u6 u9 in_ l each0_EngineGraphName each0_EngineGraphUnits u52;cases h;have ho:=jad ho
  generalize val (y31 u10 u6 u9 in_ l u52)=r at ho ⊢
  let l0:=lp0 (y38 u10 u6 u9 in_ l u52) y180 r fun z=>⟨[(0,.w (.c (.p 2 0 1 0))),(1,.w (.c (.o 3))),(2,.w (.c (.o 4))),(3,.w (.c (.fn 118 [8]))),(10,.w (.c (.o 9))),(11,.w (.c (.d (.i .i64 z.1.1)))),(12,.w (.c (.p 10 0 1 0))),(34,.w (.c (.d (.i .i64 z.1.2.1)))),(35,.w (.c (.d (.i .i64 z.1.2.2.1))))],[(2,.ebox [.d (.s u10),.o 0,.o 1]),(3,.xext (XC.bb .f32 (32:Nat) in_)),(4,.ext (.recs 2 l)),(8,.ebox [.p 7 0 1 0]),(9,.mrow 79 [(110:Nat)] (XC.bb .f32 (32:Nat) z.1.2.2.2.1) none),(10,.box 78 [.d (.i .i64 z.1.2.2.2.2.1),.o 11,.o 12]),(0,.xext (XC.st zS u6)),(1,.ext (.ints .i64 u9)),(7,.ebox [.d (.s each0_EngineGraphName),.o 5,.o 6]),(11,.xrow 157 (XC.ff .f32 z.1.2.2.2.2.2.1)),(12,.xrow 158 (XC.rr (4:Nat) z.1.2.2.2.2.2.2)),(5,.xext (XC.st zS each0_EngineGraphUnits)),(6,.ext (.ints .i64 u52))],13⟩
  let l1 (m1:Nat):Lp ((Int × Int × Int × List (List (List Nat)) × Int × List (List Nat) × List (List (List Int))) × Nat × (Int × Int × Int × Int × Int × List (List (List Nat)) × Int × List (List Nat) × List (List Nat) × List (List (List Int))) × Nat) ((Int × Int × Int × Int × Int × List (List (List Nat)) × Int × List (List Nat) × List (List Nat) × List (List (List Int)))) ((Int × Int × Int × Int × List (List (List Nat)) × Int × List (List Nat) × List (List Nat) × List (List (List Int)))) (((Int × Int × Int × List (List (List Nat)) × Int × List (List Nat) × List (List (List Int))) ⊕ (Int × List (List (List Nat))))) (List (List (List Nat)) × Int):=⟨fun z=>z.2.2.1,fun z=>z.2.2.2,fun z x n=>(z.1,z.2.1,x,n),fun z=>y21 in_,fun z=>y179 u10 u6 u9 l u52,fun z=>(l0).cx (z.1,m1),fun z=>z.2.1,fun z=>⟨[(0,.w (.c (.p 2 0 1 0))),(1,.w (.c (.o 3))),(2,.w (.c (.o 4))),(3,.w (.c (.fn 118 [8]))),(10,.w (.c (.o 9))),(11,.w (.c (.d (.i .i64 z.2.2.1.1)))),(12,.w (.c (.p 10 0 1 0))),(14,.w (.c (.d (.i .i64 z.2.2.1.2.1)))),(15,.w (.c (.o 11))),(34,.w (.c (.d (.i .i64 z.2.2.1.2.2.1)))),(35,.w (.c (.d (.i .i64 z.2.2.1.2.2.2.1)))),(38,.w (.c (.o 3))),(39,.w (.c (.d (.i .i64 ((↑in_.length:Int)))))),(40,.w (.c (.d (.i .i64 z.2.2.1.2.2.2.2.1))))],[(2,.ebox [.d (.s u10),.o 0,.o 1]),(3,.xext (XC.bb .f32 (32:Nat) in_)),(4,.ext (.recs 2 l)),(8,.ebox [.p 7 0 1 0]),(9,.mrow 79 [(110:Nat)] (XC.bb .f32 (32:Nat) z.2.2.1.2.2.2.2.2.1) none),(10,.box 78 [.d (.i .i64 z.2.2.1.2.2.2.2.2.2.1),.o 12,.o 13]),(11,.row 110 (.frs .f32 32 z.2.2.1.2.2.2.2.2.2.2.1)),(0,.xext (XC.st zS u6)),(1,.ext (.ints .i64 u9)),(7,.ebox [.d (.s each0_EngineGraphName),.o 5,.o 6]),(12,.xrow 157 (XC.ff .f32 z.2.2.1.2.2.2.2.2.2.2.2.1)),(13,.xrow 158 (XC.rr (4:Nat) z.2.2.1.2.2.2.2.2.2.2.2.2)),(5,.xext (XC.st zS each0_EngineGraphUnits)),(6,.ext (.ints .i64 u52))],14⟩⟩
  let l2 (m1:Nat):Lp ((Int × Int × Int × List (List (List Nat)) × Int × List (List Nat) × List (List (List Int))) × Nat × (Int × Int × Int × Int × List (List (List Nat)) × Int × List (List Nat) × List (List Nat) × List (List (List Int))) × (Int × List (List (List Nat))) × Nat) ((Int × List (List (List Nat)))) ((List (List (List Nat)))) (((Int × Int × Int × List (List (List Nat)) × Int × List (List Nat) × List (List (List Int))) ⊕ (Int × List (List (List Nat))))) (List (List (List Nat)) × Int):=⟨fun z=>z.2.2.2.1,fun z=>z.2.2.2.2,fun z x n=>(z.1,z.2.1,z.2.2.1,x,n),fun z=>y37 (val (y10 u6 (py4 u10 u6 u9 l u52 z.2.2.1).1)),fun z=>y178 u6 z.2.2.1 (py3 u10 u6 u9 l z.2.2.1) (py4 u10 u6 u9 l u52 z.2.2.1),fun z=>(l0).cx (z.1,m1),fun z=>z.2.1,fun z=>⟨[(0,.w (.c (.p 2 0 1 0))),(1,.w (.c (.o 3))),(2,.w (.c (.o 4))),(3,.w (.c (.fn 118 [8]))),(10,.w (.c (.o 9))),(11,.w (.c (.d (.i .i64 (z.2.2.1.1))))),(12,.w (.c (.p 10 0 1 0))),(18,.w (.c (.p 11 0 1 0))),(34,.w (.c (.d (.i .i64 (z.2.2.1.2.2.1))))),(35,.w (.c (.d (.i .i64 (z.2.2.1.2.2.2.1))))),(64,.w (.c (.o 12))),(65,.w (.c (.d (.i .i64 ((↑(za (val (y10 u6 (py4 u10 u6 u9 l u52 z.2.2.1).1))):Int)))))),(66,.w (.c (.d (.i .i64 z.2.2.2.1.1))))],[(2,.ebox [.d (.s u10),.o 0,.o 1]),(3,.xext (XC.bb .f32 (32:Nat) in_)),(4,.ext (.recs 2 l)),(8,.ebox [.p 7 0 1 0]),(9,.mrow 79 [(110:Nat)] (XC.bb .f32 (32:Nat) z.2.2.2.1.2) none),(10,.box 78 [.d (.i .i64 (z.2.2.1.2.2.2.2.2.1)),.o 13,.o 14]),(11,.box 205 [.p 2 0 1 0,.d (.i .i64 ((py3 u10 u6 u9 l z.2.2.1).1)),.o 13,.o 14,.o 15,.o 16,.o 17,.o 18,.o 19]),(12,.row 110 (.frs .f32 32 (val (y10 u6 (py4 u10 u6 u9 l u52 z.2.2.1).1)))),(0,.xext (XC.st zS u6)),(1,.ext (.ints .i64 u9)),(7,.ebox [.d (.s each0_EngineGraphName),.o 5,.o 6]),(13,.xrow 157 (XC.ff .f32 z.2.2.1.2.2.2.2.2.2.2.1)),(14,.xrow 158 (XC.rr (4:Nat) z.2.2.1.2.2.2.2.2.2.2.2)),(15,.row 110 (.frs .f32 32 (z.2.2.1.2.2.2.2.2.2.1))),(16,.row 3 (.ints .i64 ((py3 u10 u6 u9 l z.2.2.1).2.1))),(17,.row 110 (.frs .f32 32 ((py4 u10 u6 u9 l u52 z.2.2.1).1))),(18,.xrow 158 (XC.rr (4:Nat) (py4 u10 u6 u9 l u52 z.2.2.1).2.1)),(19,.row 3 (.ints .i64 ((py4 u10 u6 u9 l u52 z.2.2.1).2.2))),(5,.xext (XC.st zS each0_EngineGraphUnits)),(6,.ext (.ints .i64 u52))],20⟩⟩
  exact⟨by kernel_rfl,(fun gs id _=>match id with
   |0=>l0.li
   |2=>(l1 (gs.getD 0 0)).li
   |4=>(l2 (gs.getD 0 0)).li
   |_=>none),Sk.vd ho (.call (.ob (.call (.br
   (.ob (.ob (.loop (l0) (fun kk=>(((0:Int),(↑(za (zb in_ 0 [])):Int),0,zh (zf (↑(za (val (y6 u6 (4:Int)))):Int)) (NC.toFrs (zA [NC.r (Cont.frs .f32 (32:Nat) [])] (NC.d (D.v zJ)))),(val (y16 u6)).1,(val (y16 u6)).2.1,(val (y16 u6)).2.2),big)) fun z0 =>
   .br
   (.loopQ (l1 z0.2) [.c fun _=>0,.c fun vv=>vv.2.2.1.1,.c fun _=>0,.c fun vv=>vv.2.2.1.2.1,.c fun vv=>vv.2.2.1.2.2.1,.c fun vv=>vv.2.2.1.2.2.2.1,.c fun _=>(↑in_.length:Int),.c fun vv=>vv.2.2.1.2.2.2.2.1,.c fun _=>u10,.c fun _=>in_,.c fun _=>l,.c fun _=>0,.c fun vv=>vv.2.2.1.2.2.2.2.2.1,.c fun vv=>vv.2.2.1.2.2.2.2.2.2.1,.p fun vv=>za vv.2.2.1.2.2.2.2.2.2.2.1=(0:Nat),.c fun _=>u6,.c fun _=>u9,.c fun _=>each0_EngineGraphName,.c fun vv=>vv.2.2.1.2.2.2.2.2.2.2.2.1,.c fun vv=>vv.2.2.1.2.2.2.2.2.2.2.2.2,.c fun _=>each0_EngineGraphUnits,.c fun _=>u52] (fun kk=>(z0.1,kk,(z0.1.1,z0.1.2.2.1,z0.1.2.1,z0.1.2.2.1,0,z0.1.2.2.2.1,z0.1.2.2.2.2.1,[],z0.1.2.2.2.2.2.1,z0.1.2.2.2.2.2.2),big)) (fun z1 =>
   .br
   (.ob (.ob (.ob (.ob (.ob (.next))))))
   (.exit (.call (.call (.call (.call (.loop (l2 z0.2) (fun kk=>(z1.1,kk,(z1.2.2.1.1,z1.2.2.1.2.1,z1.2.2.1.2.2.1,z1.2.2.1.2.2.2.1,z1.2.2.1.2.2.2.2.2.1,z1.2.2.1.2.2.2.2.2.2.1,z1.2.2.1.2.2.2.2.2.2.2.1,z1.2.2.1.2.2.2.2.2.2.2.2.1,z1.2.2.1.2.2.2.2.2.2.2.2.2),((0:Int),(z1.2.2.1.1,z1.2.2.1.2.1,z1.2.2.1.2.2.1,z1.2.2.1.2.2.2.1,z1.2.2.1.2.2.2.2.2.1,z1.2.2.1.2.2.2.2.2.2.1,z1.2.2.1.2.2.2.2.2.2.2.1,z1.2.2.1.2.2.2.2.2.2.2.2.1,z1.2.2.1.2.2.2.2.2.2.2.2.2).2.2.2.2.1),big)) fun z1 =>
   .br
   (.ob (.ob (.obT (.ob (.ob (.obT (.ob (.ob (.ob (.obC _ (jsI (zb (val (y10 u6 (py4 u10 u6 u9 l u52 z1.2.2.1).1)) z1.2.2.2.1.1.toNat []) (↑(za (val (y10 u6 (py4 u10 u6 u9 l u52 z1.2.2.1).1))):Int) (val (y10 u6 (py4 u10 u6 u9 l u52 z1.2.2.1).1)) ((py4 u10 u6 u9 l u52 z1.2.2.1).2.2) ((py4 u10 u6 u9 l u52 z1.2.2.1).2.1) ((py4 u10 u6 u9 l u52 z1.2.2.1).1) ((py3 u10 u6 u9 l z1.2.2.1).2.1) ((py3 u10 u6 u9 l z1.2.2.1).1) (z1.2.2.1.2.2.2.2.2.2.2.2) (z1.2.2.1.2.2.2.2.2.2.2.1) (z1.2.2.1.2.2.2.2.2.2.1) (each0_EngineGraphUnits) (each0_EngineGraphName) (z1.2.2.1.2.2.2.2.2.1) (u6) (z1.2.2.1.2.2.2.1) (u10) (z1.2.2.1.2.2.1) (z1.2.2.2.1.1) (z1.2.2.2.1.2) (u52) (z1.2.2.1.1) (u9) (in_) (l)) (.next)))))))))))
   (.exit (.call (.call (.next))))))))))) (fun _=>⟨rfl,trivial⟩))
   (
   .exit (.obT (.obT (.rc)))))))
   (.loop (l0) (fun kk=>(((0:Int),0,0,zh (zf (↑(za (val (y6 u6 (4:Int)))):Int)) (NC.toFrs (zA [NC.r (Cont.frs .f32 (32:Nat) [])] (NC.d (D.v zJ)))),(val (y16 u6)).1,(val (y16 u6)).2.1,(val (y16 u6)).2.2),big)) fun z0 =>
   .br
   (.loopQ (l1 z0.2) [.c fun _=>0,.c fun vv=>vv.2.2.1.1,.c fun _=>0,.c fun vv=>vv.2.2.1.2.1,.c fun vv=>vv.2.2.1.2.2.1,.c fun vv=>vv.2.2.1.2.2.2.1,.c fun _=>(↑in_.length:Int),.c fun vv=>vv.2.2.1.2.2.2.2.1,.c fun _=>u10,.c fun _=>in_,.c fun _=>l,.c fun _=>0,.c fun vv=>vv.2.2.1.2.2.2.2.2.1,.c fun vv=>vv.2.2.1.2.2.2.2.2.2.1,.p fun vv=>za vv.2.2.1.2.2.2.2.2.2.2.1=(0:Nat),.c fun _=>u6,.c fun _=>u9,.c fun _=>each0_EngineGraphName,.c fun vv=>vv.2.2.1.2.2.2.2.2.2.2.2.1,.c fun vv=>vv.2.2.1.2.2.2.2.2.2.2.2.2,.c fun _=>each0_EngineGraphUnits,.c fun _=>u52] (fun kk=>(z0.1,kk,(z0.1.1,z0.1.2.2.1,z0.1.2.1,z0.1.2.2.1,0,z0.1.2.2.2.1,z0.1.2.2.2.2.1,[],z0.1.2.2.2.2.2.1,z0.1.2.2.2.2.2.2),big)) (fun z1 =>
   .br
   (.ob (.ob (.ob (.ob (.ob (.next))))))
   (.exit (.call (.call (.call (.call (.loop (l2 z0.2) (fun kk=>(z1.1,kk,(z1.2.2.1.1,z1.2.2.1.2.1,z1.2.2.1.2.2.1,z1.2.2.1.2.2.2.1,z1.2.2.1.2.2.2.2.2.1,z1.2.2.1.2.2.2.2.2.2.1,z1.2.2.1.2.2.2.2.2.2.2.1,z1.2.2.1.2.2.2.2.2.2.2.2.1,z1.2.2.1.2.2.2.2.2.2.2.2.2),((0:Int),(z1.2.2.1.1,z1.2.2.1.2.1,z1.2.2.1.2.2.1,z1.2.2.1.2.2.2.1,z1.2.2.1.2.2.2.2.2.1,z1.2.2.1.2.2.2.2.2.2.1,z1.2.2.1.2.2.2.2.2.2.2.1,z1.2.2.1.2.2.2.2.2.2.2.2.1,z1.2.2.1.2.2.2.2.2.2.2.2.2).2.2.2.2.1),big)) fun z1 =>
   .br
   (.ob (.ob (.obT (.ob (.ob (.obT (.ob (.ob (.ob (.obC _ (jsI (zb (val (y10 u6 (py4 u10 u6 u9 l u52 z1.2.2.1).1)) z1.2.2.2.1.1.toNat []) (↑(za (val (y10 u6 (py4 u10 u6 u9 l u52 z1.2.2.1).1))):Int) (val (y10 u6 (py4 u10 u6 u9 l u52 z1.2.2.1).1)) ((py4 u10 u6 u9 l u52 z1.2.2.1).2.2) ((py4 u10 u6 u9 l u52 z1.2.2.1).2.1) ((py4 u10 u6 u9 l u52 z1.2.2.1).1) ((py3 u10 u6 u9 l z1.2.2.1).2.1) ((py3 u10 u6 u9 l z1.2.2.1).1) (z1.2.2.1.2.2.2.2.2.2.2.2) (z1.2.2.1.2.2.2.2.2.2.2.1) (z1.2.2.1.2.2.2.2.2.2.1) (each0_EngineGraphUnits) (each0_EngineGraphName) (z1.2.2.1.2.2.2.2.2.1) (u6) (z1.2.2.1.2.2.2.1) (u10) (z1.2.2.1.2.2.1) (z1.2.2.2.1.1) (z1.2.2.2.1.2) (u52) (z1.2.2.1.1) (u9) (in_) (l)) (.next)))))))))))
   (.exit (.call (.call (.next))))))))))) (fun _=>⟨rfl,trivial⟩))
   (.exit (.obT (.obT (.rc))))))))) (by kernel_rfl)⟩
 ·cases h)
attribute [irreducible] y31
end Go.Sh
end

section
namespace Go.Sh
open Go Go.Proofs Go.RowKit Go.Sx
abbrev sp_117:jab->jab:=sp_117_118
def sp_117_ok {sp:jab} (h:jam Tryz.prog sp):jam Tryz.prog (sp_117 sp):=sp_117_118_ok h
set_option maxRecDepth 100000
def jC1:List SV:=[.a [.d,.x (.st zS [])],.c (.x (.bb .f32 32 [])),.c (.r (.recs 2 []))]
def jbI (u5:zY) (u1:List (List NC)) (in_:List (List (List Nat))) (l:List (List Int)):Option (List (List (List Nat)) × Int × Int) :=
 if(jdN u5 u1)=true then
  ze (jbq u5 u1) fun r0 =>
  some (([],0,nzI r0))
 else
  ze (jav u5 u1) fun r1 =>
  ze (y41 u5 u1 r1 in_ l) fun r2 =>
  if(r2 != 0)=true then
  some (([],0,r2))
  else
  ze (y31 u5 u1 r1 in_ l r1) fun r3 =>
  some ((r3.1,r3.2,0))
def jxw:List Lf->Option GT|[.d (.s u5),.x (.st [.s,.i .i64,.ints .i64,.ints .i64,.ints .i64,.i .i64,.recs 5,.i .i64] u1),.x (.bb .f32 32 in_),.r (.recs 2 l)]=>some (.leaf (ok (jbI u5 u1 in_ l)) [.c (.m 79 [(110:Nat)] (.bb .f32 32 ((val (jbI u5 u1 in_ l)).1))),.c (.d (.i .i64 ((val (jbI u5 u1 in_ l)).2.1))),.c (.d (.i .i64 ((val (jbI u5 u1 in_ l)).2.2)))])|_=>none
abbrev sp_63:jab->jab:=jal 63 true (jak jC1 jxw)
def sp_63_ok:KO sp_63:=jag (kT (sp_80_ok (sp_116_ok (sp_118_ok (sp_117_ok jaf)))) Tryz.func63 (by kernel_rfl) fun ls t h ho=>by
 unfold jxw at h;split at h
 ·rename_i u5 u1 in_ l;cases h;have ho:=jad ho
  generalize val (jbI u5 u1 in_ l)=r at ho ⊢
  exact⟨by kernel_rfl,fun _ _ _=>none,Sk.vd ho (.brB
   (.call (.obT (.obT (.obT (.ret (fun r=>(Ob (za r.1=(0:Nat)) ∧
 (Ob ((0:Int)=r.2.1) ∧
 (Ob (nzI (val (jbq u5 u1))=r.2.2) ∧
 True)))) ⟨⟨rfl⟩,⟨⟨rfl⟩,⟨⟨rfl⟩,trivial⟩⟩⟩)))))
   (.call (.call (.brB
   (.obT (.obT (.obT (.ret (fun r=>(Ob (za r.1=(0:Nat)) ∧
 (Ob ((0:Int)=r.2.1) ∧
 (Ob (val (y41 u5 u1 (val (jav u5 u1)) in_ l)=r.2.2) ∧
 True)))) ⟨⟨rfl⟩,⟨⟨rfl⟩,⟨⟨rfl⟩,trivial⟩⟩⟩))))
   (.call (.obT (.obT (.obT (.rc))))))))) (by kernel_rfl)⟩
 ·cases h)
end Go.Sh
end

section
namespace Go.Sh
open Go Go.Proofs Go.RowKit Go.Sx
set_option maxRecDepth 100000
end Go.Sh
end

section
namespace Go.Sh
open Go Go.Proofs Go.RowKit Go.Sx
open Go.IntKind (wrap)
set_option maxRecDepth 100000
def jyR:List SV:=[.a [.r (.ints .i64 []),.d],.c (.d),.c (.d)]
def jc1 (u91:List Int) (u92 i by_:Int):Option (List Int × Int) :=
 ze (jaQ u91) fun r0 =>
 if(za r0+za [i])*8<=140737488355328∧za r0+za [i]<=9223372036854775807 then some ((r0++[i],wrap .i64 (u92+by_)))
 else none
def jqr:List Lf->Option GT|[.r (.ints .i64 u91),.d (.i .i64 u92),.d (.i .i64 i),.d (.i .i64 by_)]=>some (.leaf (ok (jc1 u91 u92 i by_)) [.s [.row 3 (.ints .i64 ((val (jc1 u91 u92 i by_)).1)),.d (.i .i64 ((val (jc1 u91 u92 i by_)).2))]])|_=>none
abbrev sp_133:jab->jab:=jal 133 true (jak jyR jqr)
def sp_133_ok:KO sp_133:=jag (kT (sp_136_ok jaf) Tryz.func133 (by kernel_rfl) fun ls t h ho=>by
 unfold jqr at h;split at h
 ·rename_i u91 u92 i by_;cases h;have ho:=jad ho
  generalize val (jc1 u91 u92 i by_)=r at ho ⊢
  exact⟨by kernel_rfl,fun _ _ _=>none,Sk.vd ho (.call (.ob (.obT (.rc)))) (by kernel_rfl)⟩
 ·cases h)
end Go.Sh
end

section
namespace Go.Sh
open Go Go.Proofs Go.RowKit Go.Sx
open Go.IntKind (wrap)
set_option maxRecDepth 100000
def jrO:List SV:=[.c (.p [.d,.x (.st zS []),.r (.ints .i64 [])])]
def y216 (u6:List (List NC)) (u9:List Int) (x0:Int × List (List NC)) (x1:(Int × List (List NC))):Option ((Int × List (List NC)) ⊕ ((Int × Int × List Int × List Int) ⊕ (List (List NC)))) :=
 if x1.1<(↑(za (nL u6 (zf (zb u9 x0.1.toNat (0:Int))) (2:Nat))):Int)then if 0<=x1.1∧x1.1<(↑(za (nL u6 (zf (zb u9 x0.1.toNat (0:Int))) (2:Nat))):Int)then
  if zf x1.1<za (nL u6 (zf (zb u9 x0.1.toNat (0:Int))) (2:Nat))then if 0<=zb (nL u6 (zf (zb u9 x0.1.toNat (0:Int))) (2:Nat)) x1.1.toNat (0:Int)∧zb (nL u6 (zf (zb u9 x0.1.toNat (0:Int))) (2:Nat)) x1.1.toNat 0<(↑x1.2.length:Int)then
   if zf (zb (nL u6 (zf (zb u9 x0.1.toNat (0:Int))) (2:Nat)) x1.1.toNat (0:Int))<za x1.2 then if 0<=x1.1∧x1.1<(↑(za (nL u6 (zf (zb u9 x0.1.toNat (0:Int))) (3:Nat))):Int)then
    if zf x1.1<za (nL u6 (zf (zb u9 x0.1.toNat (0:Int))) (3:Nat))then
     ze (jc1 (nL x1.2 (zf (zb (nL u6 (zf (zb u9 x0.1.toNat (0:Int))) (2:Nat)) x1.1.toNat (0:Int))) (0:Nat)) (nI x1.2 (zf (zb (nL u6 (zf (zb u9 x0.1.toNat (0:Int))) (2:Nat)) x1.1.toNat (0:Int))) (1:Nat)) (zb u9 x0.1.toNat (0:Int)) (wrap .i64 (zb (nL u6 (zf (zb u9 x0.1.toNat (0:Int))) (3:Nat)) x1.1.toNat 0+nI u6 (zf (zb u9 x0.1.toNat (0:Int))) (5:Nat)))) fun r0 =>
     if(x1.1==0)=true then
     if 0<=zb u9 x0.1.toNat (0:Int)∧zb u9 x0.1.toNat 0<(↑x1.2.length:Int)then if zf (zb u9 x0.1.toNat (0:Int))<za x1.2 then some (.inl ((wrap .i64 (x1.1+1),qz x1.2 (zf (zb u9 x0.1.toNat (0:Int))) [NC.r (Cont.ints .i64 r0.1),NC.d (D.i .i64 r0.2)])))
      else none
     else none
     else
     if 0<=zb u9 x0.1.toNat (0:Int)∧zb u9 x0.1.toNat 0<(↑x1.2.length:Int)then if zf (zb u9 x0.1.toNat (0:Int))<za x1.2 then
      if(r0.2 != nI x1.2 (zf (zb u9 x0.1.toNat (0:Int))) (1:Nat))=true then if 0<=zb u9 x0.1.toNat (0:Int)∧zb u9 x0.1.toNat 0<(↑x1.2.length:Int)then
       if zf (zb u9 x0.1.toNat (0:Int))<za x1.2 then some (.inr ((.inl ((nI x1.2 (zf (zb u9 x0.1.toNat (0:Int))) (1:Nat),r0.2,nL x1.2 (zf (zb u9 x0.1.toNat (0:Int))) (0:Nat),r0.1)))))
       else none
       else none
      else some (.inl ((wrap .i64 (x1.1+1),x1.2)))
      else none
     else none
    else none
    else none
   else none
   else none
  else none
  else none
 else some (.inr (.inr x1.2))
def jni (x0:Int × List (List NC)) (u7:Int × Int × List Int × List Int):Option ((Int × List (List NC)) ⊕ ((Int × Int × List Int × List Int) ⊕ (List (List NC)))) :=some (.inr ((.inl ((u7.1,u7.2.1,u7.2.2.1,u7.2.2.2)))))
def jnj (x0:Int × List (List NC)) (u20:List (List NC)):Option ((Int × List (List NC)) ⊕ ((Int × Int × List Int × List Int) ⊕ (List (List NC)))) :=some (.inl ((wrap .i64 (x0.1+1),u20)))
def y217 (x0:Int × List (List NC)):((Int × Int × List Int × List Int) ⊕ (List (List NC)))->Option ((Int × List (List NC)) ⊕ ((Int × Int × List Int × List Int) ⊕ (List (List NC)))) :=(qy (jni x0) (jnj x0))
def jhF (u6:List (List NC)) (u9:List Int) (x0:(Int × List (List NC))):Option ((Int × List (List NC)) ⊕ ((Int × Int × List Int × List Int) ⊕ (List (List NC)))) :=
 if x0.1<(↑u9.length:Int)then if 0<=x0.1∧x0.1<(↑u9.length:Int)then
  if zf x0.1<za u9 then if 0<=zb u9 x0.1.toNat (0:Int)∧zb u9 x0.1.toNat 0<(↑u6.length:Int)then
   if zf (zb u9 x0.1.toNat (0:Int))<za u6 then if((↑(za (nL u6 (zf (zb u9 x0.1.toNat (0:Int))) (2:Nat))):Int)==0)=true then
    if 0<=zb u9 x0.1.toNat (0:Int)∧zb u9 x0.1.toNat 0<(↑x0.2.length:Int)then if zf (zb u9 x0.1.toNat (0:Int))<za x0.2 then ze (jae (y216 u6 u9 x0) big (((0:Int),qz x0.2 (zf (zb u9 x0.1.toNat (0:Int))) [NC.r (Cont.ints .i64 [zb u9 x0.1.toNat (0:Int)]),NC.d (D.i .i64 0)]))) (y217 x0)
     else none
    else none
    else
    ze (jae (y216 u6 u9 x0) big (((0:Int),x0.2))) (y217 x0)
   else none
   else none
  else none
  else none
 else some (.inr (.inr x0.2))
def jnk (u3:Int × Int × List Int × List Int):Option (List (List NC) × List Int × Int × List Int × Int × Bool) :=some ([],u3.2.2.1,u3.1,u3.2.2.2,u3.2.1,true)
def jnl (u4:List (List NC)):Option (List (List NC) × List Int × Int × List Int × Int × Bool) :=some ((u4,[],0,[],0,false))
def jhG:((Int × Int × List Int × List Int) ⊕ (List (List NC)))->Option (List (List NC) × List Int × Int × List Int × Int × Bool) :=(qy (jnk) (jnl))
def y25 (u10:zY) (u6:List (List NC)) (u9:List Int):Option (List (List NC) × List Int × Int × List Int × Int × Bool) :=
 if 0<=(↑u6.length:Int)∧(↑u6.length:Int)=(↑u6.length:Int)∧(↑(32:Nat):Int)*(↑u6.length:Int)<=281474976710656∧(↑u6.length:Int)<=9223372036854775807 then ze (jae (jhF u6 u9) big (((0:Int),zh (zf (↑u6.length:Int)) [NC.r (Cont.ints .i64 []),NC.d (D.i .i64 0)]))) (jhG)
 else none
def ji6:List Lf->Option GT|[.d (.s u10),.x (.st [.s,.i .i64,.ints .i64,.ints .i64,.ints .i64,.i .i64,.recs 5,.i .i64] u6),.r (.ints .i64 u9)]=>some (.leaf (ok (y25 u10 u6 u9)) [.c (.x 140 (.st ([NK.ints .i64,NK.i .i64]) ((val (y25 u10 u6 u9)).1))),.s [.fe (.ints .i64 ((val (y25 u10 u6 u9)).2.1)),.d (.i .i64 ((val (y25 u10 u6 u9)).2.2.1)),.row 3 (.ints .i64 ((val (y25 u10 u6 u9)).2.2.2.1)),.d (.i .i64 ((val (y25 u10 u6 u9)).2.2.2.2.1))],.c (.d (.b ((val (y25 u10 u6 u9)).2.2.2.2.2)))])|_=>none
abbrev sp_88:jab->jab:=jal 88 true (jak jrO ji6)
def sp_88_ok:KO sp_88:=jag (kT (sp_133_ok jaf) Tryz.func88 (by kernel_rfl) fun ls t h ho=>by
 unfold ji6 at h;split at h
 ·rename_i u10 u6 u9;cases h;have ho:=jad ho
  generalize val (y25 u10 u6 u9)=r at ho ⊢
  let l0:=lp0 (jhF u6 u9) jhG r fun z=>⟨[(0,.w (.c (.p 2 0 1 0))),(2,.w (.c (.o 3))),(3,.w (.c (.p 4 0 1 0))),(21,.w (.c (.o 1))),(22,.w (.c (.d (.i .i64 ((↑u9.length:Int)))))),(23,.w (.c (.d (.i .i64 z.1.1))))],[(2,.ebox [.d (.s u10),.o 0,.o 1]),(3,.xrow 140 (XC.st [NK.ints .i64,NK.i .i64] z.1.2)),(4,.box 141 [.d (.v (zx none (0:Nat) (0:Nat))),.d (.i .i64 0),.d (.v (zx none (0:Nat) (0:Nat))),.d (.i .i64 0)]),(1,.ext (.ints .i64 u9)),(0,.xext (XC.st zS u6))],5⟩
  let l1 (m1:Nat):Lp ((Int × List (List NC)) × Nat × (Int × List (List NC)) × Nat) ((Int × List (List NC))) (((Int × Int × List Int × List Int) ⊕ (List (List NC)))) (((Int × List (List NC)) ⊕ ((Int × Int × List Int × List Int) ⊕ (List (List NC))))) (List (List NC) × List Int × Int × List Int × Int × Bool):=⟨fun z=>z.2.2.1,fun z=>z.2.2.2,fun z x n=>(z.1,z.2.1,x,n),fun z=>y216 u6 u9 z.1,fun z=>y217 z.1,fun z=>(l0).cx (z.1,m1),fun z=>z.2.1,fun z=>⟨[(0,.w (.c (.p 2 0 1 0))),(2,.w (.c (.o 3))),(3,.w (.c (.p 4 0 1 0))),(6,.w (.c (.d (.i .i64 (zb u9 z.1.1.toNat (0:Int)))))),(7,.w (.c (.p 5 0 1 0))),(21,.w (.c (.o 1))),(22,.w (.c (.d (.i .i64 ((↑u9.length:Int)))))),(23,.w (.c (.d (.i .i64 (z.1.1))))),(46,.w (.c (.o 6))),(47,.w (.c (.d (.i .i64 ((↑(za (nL u6 (zf (zb u9 z.1.1.toNat (0:Int))) (2:Nat))):Int)))))),(48,.w (.c (.d (.i .i64 z.2.2.1.1))))],[(2,.ebox [.d (.s u10),.o 0,.o 1]),(3,.xrow 140 (XC.st [NK.ints .i64,NK.i .i64] z.2.2.1.2)),(4,.box 141 [.d (.v (zx none (0:Nat) (0:Nat))),.d (.i .i64 0),.d (.v (zx none (0:Nat) (0:Nat))),.d (.i .i64 0)]),(5,.box 118 [.d (.s (nS u6 (zf (zb u9 z.1.1.toNat (0:Int))) (0:Nat))),.d (.i .i64 (nI u6 (zf (zb u9 z.1.1.toNat (0:Int))) (1:Nat))),.o 6,.o 7,.o 8,.d (.i .i64 (nI u6 (zf (zb u9 z.1.1.toNat (0:Int))) (5:Nat))),.o 9,.d (.i .i64 (nI u6 (zf (zb u9 z.1.1.toNat (0:Int))) (7:Nat)))]),(1,.ext (.ints .i64 u9)),(6,.ext (.ints .i64 (nL u6 (zf (zb u9 z.1.1.toNat (0:Int))) (2:Nat)))),(0,.xext (XC.st zS u6)),(7,.ext (.ints .i64 (nL u6 (zf (zb u9 z.1.1.toNat (0:Int))) (3:Nat)))),(8,.ext (.ints .i64 (nL u6 (zf (zb u9 z.1.1.toNat (0:Int))) (4:Nat)))),(9,.ext (.recs 5 (nR u6 (zf (zb u9 z.1.1.toNat (0:Int))) (6:Nat))))],10⟩⟩
  exact⟨by kernel_rfl,(fun gs id _=>match id with
   |0=>l0.li
   |2=>(l1 (gs.getD 0 0)).li
   |_=>none),Sk.vd ho (.obT (.ob (.obT (.loop (l0) (fun kk=>(((0:Int),zh (zf (↑u6.length:Int)) [NC.r (Cont.ints .i64 []),NC.d (D.i .i64 0)]),big)) fun z0 =>
   .br
   (.ob (.ob (.obT (.ob (.ob (.brB
   (.ob (.ob (.loop (l1 z0.2) (fun kk=>(z0.1,kk,((0:Int),qz z0.1.2 (zf (zb u9 z0.1.1.toNat (0:Int))) [NC.r (Cont.ints .i64 [zb u9 z0.1.1.toNat (0:Int)]),NC.d (D.i .i64 0)]),big)) fun z1 =>
   .br
   (.ob (.ob (.ob (.ob (.ob (.ob (.call (.brB
   (.ob (.ob (.next)))
   (.ob (.ob (.brB
   (.ob (.ob (.exit (.exit (.obT (.obT (.obT (.ret (fun r=>(Ob (za r.1=(0:Nat)) ∧
 (Ob (nL z1.2.2.1.2 (zf (zb u9 z1.1.1.toNat (0:Int))) (0:Nat)=r.2.1) ∧
 (Ob (nI z1.2.2.1.2 (zf (zb u9 z1.1.1.toNat (0:Int))) (1:Nat)=r.2.2.1) ∧
 (Ob ((val (jc1 (nL z1.2.2.1.2 (zf (zb (nL u6 (zf (zb u9 z1.1.1.toNat (0:Int))) (2:Nat)) z1.2.2.1.1.toNat (0:Int))) (0:Nat)) (nI z1.2.2.1.2 (zf (zb (nL u6 (zf (zb u9 z1.1.1.toNat (0:Int))) (2:Nat)) z1.2.2.1.1.toNat (0:Int))) (1:Nat)) (zb u9 z1.1.1.toNat (0:Int)) (wrap .i64 (zb (nL u6 (zf (zb u9 z1.1.1.toNat (0:Int))) (3:Nat)) z1.2.2.1.1.toNat 0+nI u6 (zf (zb u9 z1.1.1.toNat (0:Int))) (5:Nat))))).1=r.2.2.2.1) ∧
 (Ob ((val (jc1 (nL z1.2.2.1.2 (zf (zb (nL u6 (zf (zb u9 z1.1.1.toNat (0:Int))) (2:Nat)) z1.2.2.1.1.toNat (0:Int))) (0:Nat)) (nI z1.2.2.1.2 (zf (zb (nL u6 (zf (zb u9 z1.1.1.toNat (0:Int))) (2:Nat)) z1.2.2.1.1.toNat (0:Int))) (1:Nat)) (zb u9 z1.1.1.toNat (0:Int)) (wrap .i64 (zb (nL u6 (zf (zb u9 z1.1.1.toNat (0:Int))) (3:Nat)) z1.2.2.1.1.toNat 0+nI u6 (zf (zb u9 z1.1.1.toNat (0:Int))) (5:Nat))))).2=r.2.2.2.2.1) ∧
 (Ob (true=r.2.2.2.2.2) ∧
 True))))))) ⟨⟨rfl⟩,⟨⟨rfl⟩,⟨⟨rfl⟩,⟨⟨rfl⟩,⟨⟨rfl⟩,⟨⟨rfl⟩,trivial⟩⟩⟩⟩⟩⟩))))))))
   (.next))))))))))))
   (.exit (.next)))))
   (.loop (l1 z0.2) (fun kk=>(z0.1,kk,((0:Int),z0.1.2),big)) fun z1 =>
   .br
   (.ob (.ob (.ob (.ob (.ob (.ob (.call (.brB
   (.ob (.ob (.next)))
   (.ob (.ob (.brB
   (.ob (.ob (.exit (.exit (.obT (.obT (.obT (.ret (fun r=>(Ob (za r.1=(0:Nat)) ∧
 (Ob (nL z1.2.2.1.2 (zf (zb u9 z1.1.1.toNat (0:Int))) (0:Nat)=r.2.1) ∧
 (Ob (nI z1.2.2.1.2 (zf (zb u9 z1.1.1.toNat (0:Int))) (1:Nat)=r.2.2.1) ∧
 (Ob ((val (jc1 (nL z1.2.2.1.2 (zf (zb (nL u6 (zf (zb u9 z1.1.1.toNat (0:Int))) (2:Nat)) z1.2.2.1.1.toNat (0:Int))) (0:Nat)) (nI z1.2.2.1.2 (zf (zb (nL u6 (zf (zb u9 z1.1.1.toNat (0:Int))) (2:Nat)) z1.2.2.1.1.toNat (0:Int))) (1:Nat)) (zb u9 z1.1.1.toNat (0:Int)) (wrap .i64 (zb (nL u6 (zf (zb u9 z1.1.1.toNat (0:Int))) (3:Nat)) z1.2.2.1.1.toNat 0+nI u6 (zf (zb u9 z1.1.1.toNat (0:Int))) (5:Nat))))).1=r.2.2.2.1) ∧
 (Ob ((val (jc1 (nL z1.2.2.1.2 (zf (zb (nL u6 (zf (zb u9 z1.1.1.toNat (0:Int))) (2:Nat)) z1.2.2.1.1.toNat (0:Int))) (0:Nat)) (nI z1.2.2.1.2 (zf (zb (nL u6 (zf (zb u9 z1.1.1.toNat (0:Int))) (2:Nat)) z1.2.2.1.1.toNat (0:Int))) (1:Nat)) (zb u9 z1.1.1.toNat (0:Int)) (wrap .i64 (zb (nL u6 (zf (zb u9 z1.1.1.toNat (0:Int))) (3:Nat)) z1.2.2.1.1.toNat 0+nI u6 (zf (zb u9 z1.1.1.toNat (0:Int))) (5:Nat))))).2=r.2.2.2.2.1) ∧
 (Ob (true=r.2.2.2.2.2) ∧
 True))))))) ⟨⟨rfl⟩,⟨⟨rfl⟩,⟨⟨rfl⟩,⟨⟨rfl⟩,⟨⟨rfl⟩,⟨⟨rfl⟩,trivial⟩⟩⟩⟩⟩⟩))))))))
   (.next))))))))))))
   (.exit (.next)))))))))
   (.exit (.obT (.obT (.obT (.ret (fun r=>(Ob (z0.1.2=r.1) ∧
 (Ob (za r.2.1=(0:Nat)) ∧
 (Ob ((0:Int)=r.2.2.1) ∧
 (Ob (za r.2.2.2.1=(0:Nat)) ∧
 (Ob ((0:Int)=r.2.2.2.2.1) ∧
 (Ob (false=r.2.2.2.2.2) ∧
 True))))))) ⟨⟨rfl⟩,⟨⟨rfl⟩,⟨⟨rfl⟩,⟨⟨rfl⟩,⟨⟨rfl⟩,⟨⟨rfl⟩,trivial⟩⟩⟩⟩⟩⟩))))))))) (by kernel_rfl)⟩
 ·cases h)
end Go.Sh
end

section
namespace Go.Sh
open Go Go.Proofs Go.RowKit Go.Sx
open Go.IntKind (wrap)
set_option maxRecDepth 100000
def jts:List SV:=[.a [.d,.x (.st zS [])]]
def ji7 (r2:List (List NC) × List Int × Int × List Int × Int × Bool) (x0:(Int × List Int)):Option ((Int × List Int) ⊕ (List Int)) :=
 if x0.1<(↑r2.1.length:Int)then if 0<=x0.1∧x0.1<(↑r2.1.length:Int)then
  if zf x0.1<za r2.1 then if(za x0.2+za [nI r2.1 x0.1.toNat (1:Nat)])*8<=140737488355328∧za x0.2+za [nI r2.1 x0.1.toNat (1:Nat)]<=9223372036854775807 then some (.inl ((wrap .i64 (x0.1+1),x0.2++[nI r2.1 x0.1.toNat (1:Nat)])))
   else none
  else none
  else none
 else some (.inr x0.2)
def ji8 (u3:List Int):Option (List Int × Int) :=some ((u3,0))
def jvK (u5:zY) (u1:List (List NC)):Option (List Int × Int) :=
 if(jdN u5 u1)=true then
  ze (jbq u5 u1) fun r0 =>
  some ([],nzI r0)
 else
  ze (jav u5 u1) fun r1 =>
  ze (y25 u5 u1 r1) fun r2 =>
  if(r2.2.2.2.2.2)=true then
  some (([],13))
  else
  ze (jae (ji7 r2) big (((0:Int),[]))) (ji8)
def jkv:List Lf->Option GT|[.d (.s u5),.x (.st [.s,.i .i64,.ints .i64,.ints .i64,.ints .i64,.i .i64,.recs 5,.i .i64] u1)]=>some (.leaf (ok (jvK u5 u1)) [.c (.row 3 (.ints .i64 ((val (jvK u5 u1)).1))),.c (.d (.i .i64 ((val (jvK u5 u1)).2)))])|_=>none
abbrev sp_31:jab->jab:=jal 31 true (jak jts jkv)
def sp_31_ok:KO sp_31:=jag (kT (sp_80_ok (sp_88_ok jaf)) Tryz.func31 (by kernel_rfl) fun ls t h ho=>by
 unfold jkv at h;split at h
 ·rename_i u5 u1;cases h;have ho:=jad ho
  generalize val (jvK u5 u1)=r at ho ⊢
  let l0:=lp0 (ji7 (val (y25 u5 u1 (val (jav u5 u1))))) ji8 r fun z=>⟨[(9,.w (.c (.o 1))),(27,.w (.c (.o 2))),(28,.w (.c (.d (.i .i64 ((↑(za (val (y25 u5 u1 (val (jav u5 u1)))).1):Int)))))),(29,.w (.c (.d (.i .i64 z.1.1))))],[(1,.row 3 (.ints .i64 z.1.2)),(2,.xrow 140 (XC.st [NK.ints .i64,NK.i .i64] (val (y25 u5 u1 (val (jav u5 u1)))).1))],3⟩
  exact⟨by kernel_rfl,(fun _ id _=>match id with
   |0=>l0.li
   |_=>none),Sk.vd ho (.brB
   (.call (.obT (.obT (.ret (fun r=>(Ob (za r.1=(0:Nat)) ∧
 (Ob (nzI (val (jbq u5 u1))=r.2) ∧
 True))) ⟨⟨rfl⟩,⟨⟨rfl⟩,trivial⟩⟩))))
   (.call (.call (.brB
   (.obT (.obT (.ret (fun r=>(Ob (za r.1=(0:Nat)) ∧
 (Ob ((13:Int)=r.2) ∧
 True))) ⟨⟨rfl⟩,⟨⟨rfl⟩,trivial⟩⟩)))
   (.loopQ (l0) [.c fun _=>(↑(za (val (y25 u5 u1 (val (jav u5 u1)))).1):Int),.c fun vv=>vv.1.1,.p fun vv=>za vv.1.2=(0:Nat),.c fun _=>(val (y25 u5 u1 (val (jav u5 u1)))).1] (fun kk=>(((0:Int),[]),big)) (fun z0 =>
   .br
   (.ob (.ob (.ob (.next))))
   (.exit (.obT (.obT (.rc))))) (fun _=>⟨rfl,trivial⟩)))))) (by kernel_rfl)⟩
 ·cases h)
end Go.Sh
end

section
namespace Go.Sh
open Go Go.Proofs Go.RowKit Go.Sx
variable {g:List (List NC)} {l:List Int}
def jsJ {i:Nat} (h:jbg g i=0):jd0 (nI g i 1) (nL g i 2).length (nL g i 3).length (nL g i 4).length=true∧jct (nI g i 1) (nL g i 3) (nL g i 4) (nI g i 5)=true∧jgG (nL g i 2)=false∧inB (nI g i 1) 0 4=true:=by
 unfold jbg at h
 repeat' (split at h)
 all_goals first|omega|skip
 all_goals
  rename_i h1 h2 h3 h4 h5 h6 h7 h8 h9 h10;simp at *
 all_goals simp_all
def jC2 {i:Nat} (h:jbg g i=0):(nL g i 3).length=(nL g i 2).length∧((nL g i 2).length=0<->nI g i 1=0):=by
 have h1:=(jsJ h).1;unfold jd0 at h1;split at h1
 ·rename_i hk;simp only[inB,zk,decide_eq_true_eq,beq_iff_eq]at h1 hk;omega
 ·rename_i hk;split at h1
  all_goals
   simp only[inB,zk,decide_eq_true_eq,beq_iff_eq]at h1 hk;omega
def jEf {i:Nat} (h:jbg g i=0):(∀k,k<(nL g i 3).length->0<=(nL g i 3).getD k 0∧(nL g i 3).getD k 0<=64)∧0<=nI g i 5∧nI g i 5<=64:=by
 have h1:=(jsJ h).2.1;unfold jct at h1;rw[zk,zk,zk]at h1;obtain⟨⟨⟨ha,_⟩,hd⟩,_⟩:=h1;simp only[inB,zk,decide_eq_true_eq]at hd;refine⟨fun k hk=>?_,hd⟩;rw[Bool.not_eq_true',xC]at ha;have:=ha ((nL g i 3).getD k 0) (by simp[zb,hk])
 generalize (nL g i 3).getD k 0=c at *
 simp only[inB,gj,Bool.not_eq_false',zk,decide_eq_true_eq]at this;exact this
inductive WayTo (g:List (List NC)):List Int->Int->Nat->Prop where
 |one {i:Nat} (hi:i<g.length) (h:nI g i 1=0):WayTo g [(i:Int)] 0 i
 |on {w:List Int} {n:Int} {u i k:Nat} (h:WayTo g w n u) (hi:i<g.length) (hk:k<(nL g i 2).length) (he:(nL g i 2).getD k 0=(u:Int)):WayTo g (w++[(i:Int)]) (n+((nL g i 3).getD k 0+nI g i 5)) i
def WayTo.bound (hall:∀i,i<g.length->jbg g i=0) {w:List Int} {n:Int} {i:Nat} (h:WayTo g w n i):0<=n∧n<=128*(w.length:Int)∧i<g.length∧1<=w.length:=by
 induction h with
 |one hi h=>simp;omega
 | @on w n u i k h hi hk he ih =>
  obtain⟨h1,h2,h3⟩:=jEf (hall i hi);have:=h1 k (by have:=(jC2 (hall i hi)).1;omega);simp only[qc,zB,qe];omega
end Go.Sh
end

section
namespace Go.Sh
open Go Go.Proofs Go.RowKit Go.Sx
variable {g:List (List NC)} {l:List Int}
def jj1 (h:Rg g l) {nm:ByteArray} (hs:nm.size<1000) (h0:(cg nm g).2=0):jb1 nm g=none∧jbD nm g=some (nm,l,0) :=⟨by rw[jBA h.fw hs h0,h.ord],jBB h.fw hs h0 h.ord⟩
end Go.Sh
end

section
namespace Go.Sh
open Go Go.Proofs Go.RowKit Go.Sx Go.Sx06
variable {g:List (List NC)} {l:List Int}
def jyS {α:Type} (l:List α) (d:α):l=(zm l.length).map fun c=>l.getD c d:=by
 apply List.ext_getElem
 ·simp
 ·intro i h1 h2;simp only[List.getElem_map,List.getElem_range];rw[jan h1]
def jfE (outs:List (List (List Nat))) (o:List (List Nat)):List (List (List Nat)):=(zm outs.length).map fun c=>outs.getD c []++[o.getD c []]
def jC3 {outs:List (List (List Nat))} {o:List (List Nat)} (hl:o.length=outs.length) (hn:outs.length<1000) (hr:∀c,c<outs.length->(outs.getD c []).length<1000) :
  jae (y37 o) big (0,outs)=some (jfE outs o):=by
 have hrec:∀x:List (List Nat),NC.toFrs (zA [NC.r (Cont.frs FloatKind.f32 32 x)] (NC.d (D.v zJ)))=x:=fun x=>rfl
 have e0:outs=(zm outs.length).map fun c=>if c<0 then outs.getD c []++[o.getD c []]else outs.getD c []:=by
  conv=>lhs;rw[jyS outs []]
  exact jbt fun x _=>by rw[if_neg (by omega)]
 have key:∀i,i<outs.length->y37 o ((i:Int),(zm outs.length).map fun c=>if c<i then outs.getD c []++[o.getD c []]else outs.getD c []) =
   some (.inl (((i+1:Nat):Int),(zm outs.length).map fun c=>if c<i+1 then outs.getD c []++[o.getD c []]else outs.getD c [])):=fun i hi=>by
  have hri:=hr i hi;unfold y37;simp only[hrec,zg];rw[jbP _ hi,if_neg (show ¬i<i by omega)];simp only[qh,x7,zB,qe];rw[if_pos (by omega),if_pos (by omega),if_pos (by omega),if_pos (by omega),if_pos hi,if_pos (by omega),if_pos (by omega),if_pos (by simpa using hi),jai (by omega),jhy]
  have er:((zm outs.length).map fun x=>if x=i then outs.getD i []++[o.getD i []]else if x<i then outs.getD x []++[o.getD x []]else outs.getD x [])=(zm outs.length).map fun c=>if c<i+1 then outs.getD c []++[o.getD c []]else outs.getD c []:=jbt fun x hx=>by
   by_cases hxi:x=i
   ·subst hxi;rw[if_pos rfl,if_pos (by omega)]
   ·rw[if_neg hxi]
    by_cases hlt:x<i
    ·rw[if_pos hlt,if_pos (by omega)]
    ·rw[if_neg hlt,if_neg (by omega)]
  rw[er];rfl
 have hit:=jat (body:=y37 o) (fun i=>((i:Int),(zm outs.length).map fun c=>if c<i then outs.getD c []++[o.getD c []]else outs.getD c [])) (y:=jfE outs o) (k:=outs.length) key (by
  unfold y37;dsimp only;rw[if_neg (by omega)];unfold jfE;exact congrArg (fun x=>some (Sum.inr x)) (jbt fun x hx=>by rw[if_pos hx])) (by omega)
 have e1:((0:Int),outs)=(((0:Nat):Int),(zm outs.length).map fun c=>if c<0 then outs.getD c []++[o.getD c []]else outs.getD c []):=by rw[<-e0];rfl
 rw[e1];exact hit
def jC4 (outs:List (List (List Nat))) (o:List (List Nat)):(jfE outs o).length=outs.length:=by simp[jfE]
def jxx {outs:List (List (List Nat))} {o:List (List Nat)} {c:Nat} (hc:c<outs.length):(jfE outs o).getD c []=outs.getD c []++[o.getD c []]:=jbP _ hc
def inK (t:List (List (List Nat))) (k:Nat):List (List Nat):=t.map fun r=>r.getD k []
def jvL {t:List (List (List Nat))} (ht:TR g t) {k:Nat} (hk:k<(t.getD 0 []).length):BR g (inK t k):=by
 refine⟨by unfold inK;rw[qh];exact ht.len,fun c hc=>?_⟩;have hc:c<t.length:=by simpa [inK]using hc
 have e:(inK t k).getD c []=(t.getD c []).getD k []:=jrA (fun r:List (List Nat)=>r.getD k []) [] hc;rw[e];exact ht.blk c k hc hk
def jEg {t:List (List (List Nat))} (ht:TR g t) (hn:t.length<1000) {k:Nat} (hk:k<(t.getD 0 []).length) (cuts n:Int) (outs:List (List (List Nat))) (b:Int) (P:List (List Nat)) (fs:List (List (List Int))) :
  jae (y21 t) big (cuts,(k:Int),n,(k:Int),0,outs,b,[],P,fs)=some (cuts,(k:Int),n,(k:Int),outs,b,inK t k,P,fs):=by
 have key:∀i,i<t.length->y21 t (cuts,(k:Int),n,(k:Int),(i:Int),outs,b,(t.take i).map fun r=>r.getD k [],P,fs)=some (.inl (cuts,(k:Int),n,(k:Int),((i+1:Nat):Int),outs,b,(t.take (i+1)).map fun r=>r.getD k [],P,fs)):=fun i hi=>by
  have hrow:=ht.row i hi;unfold y21;simp only[zg];rw[if_pos (by omega),if_pos (by omega),if_pos hi,if_pos (by omega),if_pos (by omega),if_pos (by simp only[qh,List.length_take,zB,qe];omega),jai (by omega),jdv hi [],xa];rfl
 have hlast:y21 t (cuts,(k:Int),n,(k:Int),(t.length:Int),outs,b,(t.take t.length).map fun r=>r.getD k [],P,fs)=some (.inr (cuts,(k:Int),n,(k:Int),outs,b,inK t k,P,fs)):=by
  unfold y21;dsimp only;rw[if_neg (by omega),yk];rfl
 have hb:t.length<18446744073709551616:=by omega
 obtain⟨F,hF⟩:∃F:Nat->(Int × Int × Int × Int × Int × List (List (List Nat)) × Int × List (List Nat) × List (List Nat) × List (List (List Int))),F=fun(i:Nat)=>(cuts,(k:Int),n,(k:Int),(i:Int),outs,b,(t.take i).map fun r=>r.getD k [],P,fs):=⟨_,rfl⟩
 have key':∀i,i<t.length->y21 t (F i)=some (.inl (F (i+1))):=fun i hi=>by rw[hF];exact key i hi
 have hlast':y21 t (F t.length)=some (.inr (cuts,(k:Int),n,(k:Int),outs,b,inK t k,P,fs)):=by rw[hF];exact hlast
 have hit:=jat F key' hlast' hb;rw[hF]at hit;exact hit
def plI (g:List (List NC)) (l:List Int) (fbk:Nat->Nat->Bool) (t:List (List (List Nat))):Nat->List (List Nat) × List (List (List Int)) × List (List (List Nat)) × Int
 |0=>(P0 g.length,fs0 g,zh (jaJ g 4).length [],0)
 |k+1 =>
  ((jbE g l (fbk k) (plI g l fbk t k).1 (plI g l fbk t k).2.1 (inK t k)).2.2.1,(jbE g l (fbk k) (plI g l fbk t k).1 (plI g l fbk t k).2.1 (inK t k)).2.2.2,jfE (plI g l fbk t k).2.2.1 (jbE g l (fbk k) (plI g l fbk t k).1 (plI g l fbk t k).2.1 (inK t k)).1,(plI g l fbk t k).2.2.2+(jbE g l (fbk k) (plI g l fbk t k).1 (plI g l fbk t k).2.1 (inK t k)).2.1)
def jmV (h:Rg g l) (fbk:Nat->Nat->Bool) {t:List (List (List Nat))} (ht:TR g t):∀k,k<=(t.getD 0 []).length -> PR g.length (plI g l fbk t k).1∧FR g (plI g l fbk t k).2.1∧(plI g l fbk t k).2.2.1.length=(jaJ g 4).length∧(∀c,c<(jaJ g 4).length->((plI g l fbk t k).2.2.1.getD c []).length=k)∧0<=(plI g l fbk t k).2.2.2∧(plI g l fbk t k).2.2.2<=k*200000
 |0,_=>⟨jyP _,jvx g,by simp[plI],fun c hc=>by show((zh (jaJ g 4).length []).getD c []).length=0;rw[jd3 hc];rfl,Int.le_refl 0,by simp[plI]⟩
 |k+1,hk=>by
  obtain⟨h1,h2,h3,h4,h5⟩:=jmV h fbk ht k (by omega);obtain⟨r1,r2,r3,r4⟩:=jvz h (fbk k) h1 h2 (jvL ht (k:=k) (by omega));refine⟨r1,r2,?_,fun c hc=>?_,?_⟩
  ·show(jfE _ _).length=_
   rw[jC4,h3]
  ·show((jfE _ _).getD c []).length=_
   rw[jxx (by omega),qc,h4 c hc];rfl
  ·unfold plI;dsimp only
   push_cast
   omega
def jC5 (h:Rg g l) (nm:ByteArray) {t:List (List (List Nat))} (ht:TR g t) {f:List (List Int)} (hf:f.length<=24) (hz:∀i,i<f.length->jcZ g.length f i=0) :
  y31 nm g l t f l=some ((plI g l (fun k=>jaL (jaE f (k:Int) g.length)) t (t.getD 0 []).length).2.2.1,(plI g l (fun k=>jaL (jaE f (k:Int) g.length)) t (t.getD 0 []).length).2.2.2):=by
 have hn:=h.n;have hkl:=jdw g 4 g.length;have hk4:(jaJ g 4).length<1000:=by unfold jaJ;omega
 have hkl0:=jdw g 0 g.length;have htl:t.length<1000:=by rw[ht.len];unfold jaJ;omega
 have hsht:=ht.sht
 generalize hfb:(fun k:Nat=>jaL (jaE f (k:Int) g.length))=fbk
 have key:∀k,k<(t.getD 0 []).length->y38 nm g l t f l ((plI g l fbk t k).2.2.2,((t.getD 0 []).length:Int),(k:Int),(plI g l fbk t k).2.2.1,(k:Int),(plI g l fbk t k).1,(plI g l fbk t k).2.1) =
   some (.inl ((plI g l fbk t (k+1)).2.2.2,((t.getD 0 []).length:Int),((k+1:Nat):Int),(plI g l fbk t (k+1)).2.2.1,((k+1:Nat):Int),(plI g l fbk t (k+1)).1,(plI g l fbk t (k+1)).2.1)):=fun k hk=>by
  obtain⟨p1,p2,p3,p4,p5⟩:=jmV h fbk ht k (by omega);have hB:=jvL ht hk;obtain⟨r1,r2,r3,r4⟩:=jvz h (fbk k) p1 p2 hB
  have hs:plI g l fbk t (k+1)=((jbE g l (fbk k) (plI g l fbk t k).1 (plI g l fbk t k).2.1 (inK t k)).2.2.1,(jbE g l (fbk k) (plI g l fbk t k).1 (plI g l fbk t k).2.1 (inK t k)).2.2.2,jfE (plI g l fbk t k).2.2.1 (jbE g l (fbk k) (plI g l fbk t k).1 (plI g l fbk t k).2.1 (inK t k)).1,(plI g l fbk t k).2.2.2+(jbE g l (fbk k) (plI g l fbk t k).1 (plI g l fbk t k).2.1 (inK t k)).2.1):=rfl
  rw[hs]
  generalize (plI g l fbk t k).2.2.2=cuts at *
  generalize (plI g l fbk t k).2.2.1=outs at *
  generalize (plI g l fbk t k).2.1=fs at *
  generalize (plI g l fbk t k).1=P at *
  obtain⟨y,y1,y2,y3⟩:=jvr (g:=g) nm l f (k:Int) hn hf hz
  have hwho:jcy g (fun i=>y.getD i false)=jcy g (fbk k):=by
   rw[y3,<-hfb]
  have hw:=jqn h (fbk k);obtain⟨hR,_⟩:=je4 h p1 p2 hB hw g.length (zp _);unfold y38;dsimp only;rw[if_pos (by omega),jEg ht htl hk,jaa];unfold y179;dsimp only;rw[y1,jaa,jn3 h nm _ y2,jaa];dsimp only;rw[hwho,jxv h p1 p2 hB hw,jaa];dsimp only;rw[jvw hR.gr hn,jaa,jC3 (o:=jmU g _) (by unfold jmU;rw[qh,p3]) (by omega) (fun c hc=>by rw[p4 c (by omega)];omega),jaa];unfold y178;dsimp only;rw[jqm hn hR.cl hR.cr,jaa,jsG p1 hR.gr hn,jaa];have hc:=jhA hR.cr g.length (zp _);dsimp only;rw[jai (x:=cuts+_) (by omega),jai (by omega),show((k+1:Nat):Int)=(k:Int)+1 from rfl];rfl
 have hit:=jat (body:=y38 nm g l t f l) (fun k=>((plI g l fbk t k).2.2.2,((t.getD 0 []).length:Int),(k:Int),(plI g l fbk t k).2.2.1,(k:Int),(plI g l fbk t k).1,(plI g l fbk t k).2.1))
  (y:=((plI g l fbk t (t.getD 0 []).length).2.2.2,(plI g l fbk t (t.getD 0 []).length).2.2.1)) (k:=(t.getD 0 []).length) key (by
   unfold y38;dsimp only;rw[if_neg (by omega)]) (by omega)
 have e0:((plI g l fbk t 0).2.2.2,((t.getD 0 []).length:Int),((0:Nat):Int),(plI g l fbk t 0).2.2.1,((0:Nat):Int),(plI g l fbk t 0).1,(plI g l fbk t 0).2.1)=(0,((t.getD 0 []).length:Int),0,zh (jaJ g 4).length [],0,P0 g.length,fs0 g):=rfl;rw[e0]at hit;have hrec:NC.toFrs (zA [NC.r (Cont.frs FloatKind.f32 32 [])] (NC.d (D.v zJ)))=[]:=rfl;unfold y31;rw[jgb hn,jaa,if_pos (by omega),jvy h,jaa,hrec,zg];dsimp only
 by_cases c0:0<t.length
 ·rw[if_pos (by omega),if_pos (by omega),if_pos c0,hit];rfl
 ·have e1:t=[]:=z5 (by omega);subst e1;rw[if_neg (by simp)]
  change (jae _ big (0,((([]:List (List (List Nat))).getD 0 []).length:Int),0,zh (jaJ g 4).length [],0,P0 g.length,fs0 g)).bind _=_
  rw[hit];rfl
def jC6 (h:Rg g l) {nm:ByteArray} (hs:nm.size<1000) (h0:(cg nm g).2=0) {t:List (List (List Nat))} (htl:t.length<1000000000) (h32:T32 t) (f:List (List Int)) :
  jbI nm g t f=some (if teG (jaJ g 0).length t≠0 then([],0,teG (jaJ g 0).length t)else if(cf g.length f).2≠0 then([],0,(cf g.length f).2)else
   ((plI g l (fun k=>jaL (jaE f (k:Int) g.length)) t (t.getD 0 []).length).2.2.1,(plI g l (fun k=>jaL (jaE f (k:Int) g.length)) t (t.getD 0 []).length).2.2.2,0)):=by
 obtain⟨h1,h2⟩:=jj1 h hs h0;unfold jbI jdN jbq jav;rw[h1,h2]
 show ze (y41 nm g l t f) _=_
 rw[jBQ h.n nm l htl h32 f,jaa]
 by_cases c1:teG (jaJ g 0).length t=0
 ·rw[if_neg (show ¬teG (jaJ g 0).length t≠0 by omega),if_neg (show ¬teG (jaJ g 0).length t≠0 by omega)]
  by_cases c2:(cf g.length f).2=0
  ·obtain⟨_,z1,z2⟩:=jxs c2;rw[if_neg (show ¬(cf g.length f).2≠0 by omega),if_neg (by rw[c2];simp)]
   show ze (y31 nm g l t f l) _=_
   rw[jC5 h nm (jAs h32 c1) z1 z2];rfl
  ·rw[if_pos c2,if_pos (by simpa using c2)]
 ·rw[if_pos c1,if_pos c1,if_pos (by simpa using c1)]
end Go.Sh
end

section
namespace Go.Sh
open Go Go.Proofs Go.RowKit Go.Sx Go.Sx06
variable {g:List (List NC)} {l:List Int}
def jC7 {G:List (List Int)} (hG:GR g.length G):∀b∈jmU g G,b.length=32:=fun b hb=>by
 have h1:=hG.1;obtain⟨u,hu,rfl⟩:=qn.1 hb;obtain⟨v,hv,rfl,_⟩:=jxu hu;rw[zg,jvs (by omega),qh];exact(hG.2 v hv).1
end Go.Sh
end

section
namespace Go.Sh
open Go Go.Proofs Go.RowKit Go.Sx
open Go.IntKind (wrap)
set_option maxRecDepth 100000
def ji9:List SV:=[.c (.p [.d,.x (.st zS []),.r (.ints .i64 [])]),.a [.d,.x (.ff .f32 []),.x (.rr 4 [])]]
def y32 (u6:List (List NC)) (u11:List (List Nat)) (u12:List (List (List Int))) (x0:Int):Option (Int ⊕ (Unit ⊕ Unit)) :=
 if x0<(↑u6.length:Int)then if 0<=x0∧x0<(↑u6.length:Int)then
  if zf x0<za u6 then if 0<=x0∧x0<(↑u11.length:Int)then
   if zf x0<za u11 then if((↑(za (zb u11 x0.toNat [])):Int)!=128)=true then some (.inr ((.inl ())))
    else
    if 0<=x0∧x0<(↑u12.length:Int)then if zf x0<za u12 then
     if((↑(za (zb u12 x0.toNat [])):Int)!=(↑(za (nR u6 x0.toNat (6:Nat))):Int))=true then some (.inr ((.inl ())))
     else some (.inl (wrap .i64 (x0+1)))
     else none
    else none
   else none
   else none
  else none
  else none
 else some (.inr ((.inr ())))
def jgR (u3:Unit):Option Bool :=some false
def jgS (u4:Unit):Option Bool :=some true
def y196:(Unit ⊕ Unit)->Option Bool :=(qy (jgR) (jgS))
def y39 (u6:List (List NC)) (u11:List (List Nat)) (u12:List (List (List Int))):Option Bool :=
 if((↑u11.length:Int)!=(↑u6.length:Int))=true then some false
 else if((↑u12.length:Int)!=(↑u6.length:Int))=true then some false
  else
  ze (jae (y32 u6 u11 u12) big (0:Int)) (y196)
def y209:List Lf->Option GT|[.d (.s u10),.x (.st [.s,.i .i64,.ints .i64,.ints .i64,.ints .i64,.i .i64,.recs 5,.i .i64] u6),.r (.ints .i64 u9),.d (.i .i64 u15),.x (.ff .f32 u11),.x (.rr 4 u12)]=>some (.leaf (ok (y39 u6 u11 u12)) [.c (.d (.b ((val (y39 u6 u11 u12)))))])|_=>none
abbrev sp_141:jab->jab:=jal 141 true (jak ji9 y209)
def sp_141_ok:KO sp_141:=jag (kT jaf Tryz.func141 (by kernel_rfl) fun ls t h ho=>by
 unfold y209 at h;split at h
 ·rename_i u10 u6 u9 u15 u11 u12;cases h;have ho:=jad ho
  generalize val (y39 u6 u11 u12)=r at ho ⊢
  let l0:=lp0 (y32 u6 u11 u12) y196 r fun z=>⟨[(3,.w (.c (.p 5 0 1 0))),(30,.w (.c (.o 0))),(31,.w (.c (.d (.i .i64 ((↑u6.length:Int)))))),(32,.w (.c (.d (.i .i64 z.1))))],[(5,.box 78 [.d (.i .i64 u15),.o 3,.o 4]),(0,.xext (XC.st zS u6)),(3,.xext (XC.ff .f32 u11)),(4,.xext (XC.rr (4:Nat) u12))],6⟩
  exact⟨by kernel_rfl,(fun _ id _=>match id with
   |0=>l0.li
   |_=>none),Sk.vd ho (.obT (.brB
   (.obT (.rc))
   (.brB
   (.obT (.rc))
   (.obT (.loop (l0) (fun kk=>((0:Int),big)) fun z0 =>
   .br
   (.ob (.ob (.ob (.ob (.brB
   (.exit (.obT (.rc)))
   (.ob (.ob (.brB
   (.exit (.obT (.rc)))
   (.next)))))))))
   (.exit (.obT (.rc)))))))) (by kernel_rfl)⟩
 ·cases h)
attribute [irreducible] y39
def jkJ:List SV:=[.c (.p [.d,.x (.st zS []),.r (.ints .i64 [])]),.c (.r (.ints .i64 []))]
def y49 (u6:List (List NC)) (l:List Int) (x0:Int):Option (Int ⊕ (Int ⊕ Unit)) :=
 if x0<(↑l.length:Int)then if 0<=x0∧x0<(↑l.length:Int)then
  if zf x0<za l then
   ze (y34 (zb l x0.toNat (0:Int)) (0:Int) (wrap .i64 ((↑u6.length:Int)-1))) fun r0 =>
   if(!r0)=true then
   some (.inr ((.inl (6:Int))))
   else
   if x0>0 then if 0<=wrap .i64 (x0-1)∧wrap .i64 (x0-1)<(↑l.length:Int)then
    if zf (wrap .i64 (x0-1))<za l then if zb l x0.toNat 0<=zb l (zf (wrap .i64 (x0-1))) (0:Int)then some (.inr ((.inl (9:Int))))
     else
     some (.inl (wrap .i64 (x0+1)))
    else none
    else none
   else some (.inl (wrap .i64 (x0+1)))
  else none
  else none
 else some (.inr ((.inr ())))
def jii (u3:Int):Option Int :=some u3
def jij (u4:Unit):Option Int :=some (0:Int)
def y218:(Int ⊕ Unit)->Option Int :=(qy (jii) (jij))
def y33 (u6:List (List NC)) (l:List Int):Option Int :=ze (jae (y49 u6 l) big (0:Int)) (y218)
def y232:List Lf->Option GT|[.d (.s u10),.x (.st [.s,.i .i64,.ints .i64,.ints .i64,.ints .i64,.i .i64,.recs 5,.i .i64] u6),.r (.ints .i64 u9),.r (.ints .i64 l)]=>some (.leaf (ok (y33 u6 l)) [.c (.d (.i .i64 ((val (y33 u6 l)))))])|_=>none
abbrev sp_101:jab->jab:=jal 101 true (jak jkJ y232)
def sp_101_ok:KO sp_101:=jag (kT (sp_84_ok jaf) Tryz.func101 (by kernel_rfl) fun ls t h ho=>by
 unfold y232 at h;split at h
 ·rename_i u10 u6 u9 l;cases h;have ho:=jad ho
  generalize val (y33 u6 l)=r at ho ⊢
  let l0:=lp0 (y49 u6 l) y218 r fun z=>⟨[(0,.w (.c (.p 2 0 1 0))),(1,.w (.c (.o 3))),(7,.w (.c (.o 3))),(8,.w (.c (.d (.i .i64 ((↑l.length:Int)))))),(9,.w (.c (.d (.i .i64 z.1))))],[(2,.ebox [.d (.s u10),.o 0,.o 1]),(3,.ext (.ints .i64 l)),(0,.xext (XC.st zS u6)),(1,.ext (.ints .i64 u9))],4⟩
  exact⟨by kernel_rfl,(fun _ id _=>match id with
   |0=>l0.li
   |_=>none),Sk.vd ho ((.loop (l0) (fun kk=>((0:Int),big)) fun z0 =>
   .br
   (.ob (.ob (.obT (.call (.brB
   (.exit (.obT (.rc)))
   (.br
   (.ob (.ob (.br
   (.exit (.obT (.rc)))
   (.next))))
   (.next)))))))
   (.exit (.obT (.rc))))) (by kernel_rfl)⟩
 ·cases h)
attribute [irreducible] y33
def jmk:List SV:=[.c (.p [.d,.x (.st zS []),.r (.ints .i64 [])]),.a [.d,.x (.ff .f32 []),.x (.rr 4 [])]]
def y59 (u6:List (List NC)) (u11:List (List Nat)) (u12:List (List (List Int))) (x0:Int):Option (Int ⊕ (Int ⊕ Unit)) :=
 if x0<(↑u6.length:Int)then if 0<=x0∧x0<(↑u6.length:Int)then
  if zf x0<za u6 then if 0<=x0∧x0<(↑u11.length:Int)then
   if zf x0<za u11 then
    ze (jlM (zb u11 x0.toNat [])) fun r5 =>
    if(r5 != 0)=true then
    some (.inr (.inl r5))
    else
    if 0<=x0∧x0<(↑u12.length:Int)then if zf x0<za u12 then
     ze (jdd (nR u6 x0.toNat (6:Nat)) zO (zb u12 x0.toNat [])) fun r6 =>
     if(r6.2.2.2 != 0)=true then some (.inr (.inl r6.2.2.2))
     else some (.inl (wrap .i64 (x0+1)))
     else none
    else none
   else none
   else none
  else none
  else none
 else some (.inr ((.inr ())))
def jja (u3:Int):Option Int :=some u3
def jjb (u4:Unit):Option Int :=some (0:Int)
def y233:(Int ⊕ Unit)->Option Int :=(qy (jja) (jjb))
def y47 (u6:List (List NC)) (u15:Int) (u11:List (List Nat)) (u12:List (List (List Int))):Option Int :=
 ze (y34 u15 (0:Int) (16:Int)) fun r0 =>
 ze (y50 r0 (2:Int)) fun r1 =>
 ze (y39 u6 u11 u12) fun r2 =>
 ze (y50 r2 (10:Int)) fun r3 =>
 ze (jcH [r1,r3]) fun r4 =>
 if(r4 != 0)=true then some r4
 else ze (jae (y59 u6 u11 u12) big (0:Int)) (y233)
def y246:List Lf->Option GT|[.d (.s u10),.x (.st [.s,.i .i64,.ints .i64,.ints .i64,.ints .i64,.i .i64,.recs 5,.i .i64] u6),.r (.ints .i64 u9),.d (.i .i64 u15),.x (.ff .f32 u11),.x (.rr 4 u12)]=>some (.leaf (ok (y47 u6 u15 u11 u12)) [.c (.d (.i .i64 ((val (y47 u6 u15 u11 u12)))))])|_=>none
abbrev sp_98:jab->jab:=jal 98 true (jak jmk y246)
def sp_98_ok:KO sp_98:=jag (kT (sp_84_ok (sp_77_ok (sp_141_ok (sp_76_ok (sp_142_ok (sp_143_ok jaf)))))) Tryz.func98 (by kernel_rfl) fun ls t h ho=>by
 unfold y246 at h;split at h
 ·rename_i u10 u6 u9 u15 u11 u12;cases h;have ho:=jad ho
  generalize val (y47 u6 u15 u11 u12)=r at ho ⊢
  let l0:=lp0 (y59 u6 u11 u12) y233 r fun z=>⟨[(3,.w (.c (.p 5 0 1 0))),(30,.w (.c (.o 0))),(31,.w (.c (.d (.i .i64 ((↑u6.length:Int)))))),(32,.w (.c (.d (.i .i64 z.1))))],[(5,.box 78 [.d (.i .i64 u15),.o 3,.o 4]),(0,.xext (XC.st zS u6)),(3,.xext (XC.ff .f32 u11)),(4,.xext (XC.rr (4:Nat) u12))],6⟩
  exact⟨by kernel_rfl,(fun _ id _=>match id with
   |0=>l0.li
   |_=>none),Sk.vd ho (.call (.call (.call (.call (.call (.brB
   (.obT (.rc))
   (.obT (.loop (l0) (fun kk=>((0:Int),big)) fun z0 =>
   .br
   (.ob (.ob (.ob (.ob (.call (.brB
   (.exit (.obT (.rc)))
   (.ob (.ob (.call (.obT (.brB
   (.exit (.obT (.rc)))
   (.next))))))))))))
   (.exit (.obT (.rc))))))))))) (by kernel_rfl)⟩
 ·cases h)
attribute [irreducible] y47
end Go.Sh
end

section
namespace Go.Sh
open Go Go.Proofs Go.RowKit Go.Sx
open Go.IntKind (wrap)
set_option maxRecDepth 100000
def jBX:List SV:=[.a [.d,.x (.st zS [])],.a [.d,.x (.ff .f32 []),.x (.rr 4 [])],.a [.r (.frs .f32 32 []),.r (.ints .i64 [])]]
def jef (u61:List Int) (x0:(Int × List Bool)):Option ((Int × List Bool) ⊕ (List Bool)) :=
 if x0.1<(↑u61.length:Int)then if 0<=x0.1∧x0.1<(↑u61.length:Int)then
  if zf x0.1<za u61 then if 0<=zb u61 x0.1.toNat (0:Int)∧zb u61 x0.1.toNat 0<(↑x0.2.length:Int)then
   if zf (zb u61 x0.1.toNat (0:Int))<za x0.2 then some (.inl ((wrap .i64 (x0.1+1),qz x0.2 (zf (zb u61 x0.1.toNat (0:Int))) true)))
   else none
   else none
  else none
  else none
 else some (.inr x0.2)
def jml (u1:List (List NC)) (u11:List (List Nat)) (u12:List (List (List Int))) (u53:List (List Nat)) (r1:List Int) (r9:Int × List Int × List (List Nat) × List (List (List Int)) × List Int) (x1:(Int × List (List Nat) × List (List (List Int)) × List Int)):Option ((Int × List (List Nat) × List (List (List Int)) × List Int) ⊕ (List (List Nat) × List (List (List Int)) × List Int)) :=
 if x1.1<(↑r1.length:Int)then if 0<=x1.1∧x1.1<(↑r1.length:Int)then
  if zf x1.1<za r1 then
   ze (y60 u1 u11 u12 u53 r9.2.1 (zb r1 x1.1.toNat (0:Int)) x1.2.1 x1.2.2.1 x1.2.2.2) fun r10 =>
   some (.inl ((wrap .i64 (x1.1+1),r10.1,r10.2.1,r10.2.2)))
  else none
  else none
 else some (.inr (x1.2.1,x1.2.2.1,x1.2.2.2))
def jmm (u1:List (List NC)) (u11:List (List Nat)) (r9:Int × List Int × List (List Nat) × List (List (List Int)) × List Int) (u7:List (List Nat) × List (List (List Int)) × List Int):Option (List (List Nat) × Int × Int × List (List Nat) × List (List (List Int)) × Int) :=
 ze (y10 u1 u7.1) fun r11 =>
 ze (y53 u7.2.2) fun r12 =>
 ze (y61 u1 r9.1 u11 u7.1) fun r13 =>
 some ((r11,r12,r13.1,r13.2,u7.2.1,0))
def jmn (u5:zY) (u1:List (List NC)) (u15:Int) (u11:List (List Nat)) (u12:List (List (List Int))) (u53:List (List Nat)) (r1:List Int) (u3:List Bool):Option (List (List Nat) × Int × Int × List (List Nat) × List (List (List Int)) × Int) :=
 ze (y7 u5 u1 r1 u15 u3) fun r9 =>
 ze (jae (jml u1 u11 u12 u53 r1 r9) big (((0:Int),r9.2.2.1,r9.2.2.2.1,r9.2.2.2.2))) (jmm u1 u11 r9)
def jbu (u5:zY) (u1:List (List NC)) (u15:Int) (u11:List (List Nat)) (u12:List (List (List Int))) (u53:List (List Nat)) (u61:List Int):Option (List (List Nat) × Int × Int × List (List Nat) × List (List (List Int)) × Int) :=
 if(jdN u5 u1)=true then
  ze (jbq u5 u1) fun r0 =>
  some (([],0,0,[],[],nzI r0))
 else
  ze (jav u5 u1) fun r1 =>
  ze (y47 u1 u15 u11 u12) fun r2 =>
  ze (y50 (decide (u15<16)) (16:Int)) fun r3 =>
  ze (y6 u1 (0:Int)) fun r4 =>
  ze (y50 ((↑u53.length:Int)==(↑r4.length:Int)) (10:Int)) fun r5 =>
  ze (y95 u53) fun r6 =>
  ze (y33 u1 u61) fun r7 =>
  ze (jcH [r2,r3,r5,r6,r7]) fun r8 =>
  if(r8 != 0)=true then
  some (([],0,0,[],[],r8))
  else
  if 0<=(↑u1.length:Int)∧(↑u1.length:Int)=(↑u1.length:Int)∧(↑(1:Nat):Int)*(↑u1.length:Int)<=281474976710656∧(↑u1.length:Int)<=9223372036854775807 then ze (jae (jef u61) big (((0:Int),zh (zf (↑u1.length:Int)) false))) (jmn u5 u1 u15 u11 u12 u53 r1)
  else none
def jvM:List Lf->Option GT|[.d (.s u5),.x (.st [.s,.i .i64,.ints .i64,.ints .i64,.ints .i64,.i .i64,.recs 5,.i .i64] u1),.d (.i .i64 u15),.x (.ff .f32 u11),.x (.rr 4 u12),.r (.frs .f32 32 u53),.r (.ints .i64 u61)]=>some (.leaf (ok (jbu u5 u1 u15 u11 u12 u53 u61)) [.s [.row 110 (.frs .f32 32 ((val (jbu u5 u1 u15 u11 u12 u53 u61)).1)),.d (.i .i64 ((val (jbu u5 u1 u15 u11 u12 u53 u61)).2.1))],.s [.d (.i .i64 ((val (jbu u5 u1 u15 u11 u12 u53 u61)).2.2.1)),.x 157 (.ff .f32 ((val (jbu u5 u1 u15 u11 u12 u53 u61)).2.2.2.1)),.x 158 (.rr 4 ((val (jbu u5 u1 u15 u11 u12 u53 u61)).2.2.2.2.1))],.c (.d (.i .i64 ((val (jbu u5 u1 u15 u11 u12 u53 u61)).2.2.2.2.2)))])|_=>none
abbrev sp_53:jab->jab:=jal 53 true (jak jBX jvM)
def sp_53_ok:KO sp_53:=jag (kT (sp_80_ok (sp_98_ok (sp_77_ok (sp_99_ok (sp_100_ok (sp_101_ok (sp_76_ok (sp_102_ok (sp_103_ok (sp_104_ok (sp_105_ok (sp_106_ok jaf)))))))))))) Tryz.func53 (by kernel_rfl) fun ls t h ho=>by
 unfold jvM at h;split at h
 ·rename_i u5 u1 u15 u11 u12 u53 u61;cases h;have ho:=jad ho
  generalize val (jbu u5 u1 u15 u11 u12 u53 u61)=r at ho ⊢
  let l0:=lp0 (jef u61) (jmn u5 u1 u15 u11 u12 u53 (val (jav u5 u1))) r fun z=>⟨[(4,.w (.c (.p 5 0 1 0))),(5,.w (.c (.p 6 0 1 0))),(6,.w (.c (.p 7 0 1 0))),(7,.w (.c (.p 8 0 1 0))),(9,.w (.c (.p 9 0 1 0))),(11,.w (.c (.o 10))),(58,.w (.c (.o 4))),(59,.w (.c (.d (.i .i64 ((↑u61.length:Int)))))),(60,.w (.c (.d (.i .i64 z.1.1))))],[(5,.box 78 [.d (.i .i64 u15),.o 1,.o 2]),(6,.box 81 [.o 3,.o 4]),(7,.box 85 [.d (.v (zx none (0:Nat) (0:Nat))),.d (.i .i64 0)]),(8,.box 78 [.d (.i .i64 0),.d (.v (zx none (0:Nat) (0:Nat))),.d (.v (zx none (0:Nat) (0:Nat)))]),(9,.box 130 [.d (.s u5),.o 0,.o 11]),(10,.row 4 (.bools z.1.2)),(4,.ext (.ints .i64 u61)),(1,.xext (XC.ff .f32 u11)),(2,.xext (XC.rr (4:Nat) u12)),(3,.ext (.frs .f32 32 u53)),(0,.xext (XC.st zS u1)),(11,.row 3 (.ints .i64 (val (jav u5 u1))))],12⟩
  let l1:Lp (List Bool × (Int × List (List Nat) × List (List (List Int)) × List Int) × Nat) ((Int × List (List Nat) × List (List (List Int)) × List Int)) ((List (List Nat) × List (List (List Int)) × List Int)) ((List (List Nat) × Int × Int × List (List Nat) × List (List (List Int)) × Int)) (List (List Nat) × Int × Int × List (List Nat) × List (List (List Int)) × Int):=⟨fun z=>z.2.1,fun z=>z.2.2,fun z x n=>(z.1,x,n),fun z=>jml u1 u11 u12 u53 (val (jav u5 u1)) (val (y7 u5 u1 (val (jav u5 u1)) u15 z.1)),fun z=>jmm u1 u11 (val (y7 u5 u1 (val (jav u5 u1)) u15 z.1)),fun z=>top r,fun z=>0,fun z=>⟨[(6,.w (.c (.p 5 0 1 0))),(7,.w (.c (.p 6 0 1 0))),(14,.w (.c (.p 7 0 1 0))),(77,.w (.c (.o 8))),(78,.w (.c (.d (.i .i64 ((↑(za (val (jav u5 u1))):Int)))))),(79,.w (.c (.d (.i .i64 z.2.1.1))))],[(5,.box 85 [.d (.v (zx none (0:Nat) (0:Nat))),.d (.i .i64 0)]),(6,.box 78 [.d (.i .i64 0),.d (.v (zx none (0:Nat) (0:Nat))),.d (.v (zx none (0:Nat) (0:Nat)))]),(7,.box 205 [.p 9 0 1 0,.d (.i .i64 ((val (y7 u5 u1 (val (jav u5 u1)) u15 z.1)).1)),.o 1,.o 2,.o 3,.o 10,.o 11,.o 12,.o 13]),(8,.row 3 (.ints .i64 (val (jav u5 u1)))),(9,.box 130 [.d (.s u5),.o 0,.o 8]),(1,.xext (XC.ff .f32 u11)),(2,.xext (XC.rr (4:Nat) u12)),(3,.ext (.frs .f32 32 u53)),(10,.row 3 (.ints .i64 ((val (y7 u5 u1 (val (jav u5 u1)) u15 z.1)).2.1))),(11,.row 110 (.frs .f32 32 z.2.1.2.1)),(12,.xrow 158 (XC.rr (4:Nat) z.2.1.2.2.1)),(13,.row 3 (.ints .i64 z.2.1.2.2.2)),(0,.xext (XC.st zS u1))],14⟩⟩
  exact⟨by kernel_rfl,(fun _ id _=>match id with
   |0=>l0.li
   |2=>l1.li
   |_=>none),Sk.vd ho (.brB
   (.call (.obT (.obT (.obT (.ret (fun r=>(Ob (za r.1=(0:Nat)) ∧
 (Ob ((0:Int)=r.2.1) ∧
 (Ob ((0:Int)=r.2.2.1) ∧
 (Ob (za r.2.2.2.1=(0:Nat)) ∧
 (Ob (za r.2.2.2.2.1=(0:Nat)) ∧
 (Ob (nzI (val (jbq u5 u1))=r.2.2.2.2.2) ∧
 True))))))) ⟨⟨rfl⟩,⟨⟨rfl⟩,⟨⟨rfl⟩,⟨⟨rfl⟩,⟨⟨rfl⟩,⟨⟨rfl⟩,trivial⟩⟩⟩⟩⟩⟩)))))
   (.call (.call (.call (.call (.call (.call (.call (.call (.brB
   (.obT (.obT (.obT (.ret (fun r=>(Ob (za r.1=(0:Nat)) ∧
 (Ob ((0:Int)=r.2.1) ∧
 (Ob ((0:Int)=r.2.2.1) ∧
 (Ob (za r.2.2.2.1=(0:Nat)) ∧
 (Ob (za r.2.2.2.2.1=(0:Nat)) ∧
 (Ob (val (jcH [val (y47 u1 u15 u11 u12),val (y50 (decide (u15<16)) (16:Int)),val (y50 ((↑u53.length:Int)==(↑(za (val (y6 u1 (0:Int)))):Int)) (10:Int)),val (y95 u53),val (y33 u1 u61)])=r.2.2.2.2.2) ∧
 True))))))) ⟨⟨rfl⟩,⟨⟨rfl⟩,⟨⟨rfl⟩,⟨⟨rfl⟩,⟨⟨rfl⟩,⟨⟨rfl⟩,trivial⟩⟩⟩⟩⟩⟩))))
   (.ob (.loop (l0) (fun kk=>(((0:Int),zh (zf (↑u1.length:Int)) false),big)) fun z0 =>
   .br
   (.ob (.ob (.ob (.ob (.next)))))
   (.exit (.call (.loop (l1) (fun kk=>(z0.1.2,((0:Int),(val (y7 u5 u1 (val (jav u5 u1)) u15 z0.1.2)).2.2.1,(val (y7 u5 u1 (val (jav u5 u1)) u15 z0.1.2)).2.2.2.1,(val (y7 u5 u1 (val (jav u5 u1)) u15 z0.1.2)).2.2.2.2),big)) fun z0 =>
   .br
   (.ob (.ob (.call (.next))))
   (.exit (.call (.call (.call (.obT (.obT (.obT (.rc))))))))))))))))))))))) (by kernel_rfl)⟩
 ·cases h)
attribute [irreducible] jbu
end Go.Sh
end

section
namespace Go.Sh
open Go Go.Proofs Go.RowKit Go.Sx
open Go.IntKind (wrap)
set_option maxRecDepth 100000
def jAt:List SV:=[.a [.d,.x (.st zS [])]]
def je5 (u5:zY) (u1:List (List NC)):Option (Int × List (List Nat) × List (List (List Int)) × Int) :=
 if(jdN u5 u1)=true then
  ze (jbq u5 u1) fun r0 =>
  some (((0:Int),[],[],nzI r0))
 else
  ze (jav u5 u1) fun r1 =>
  ze (y16 u1) fun r2 =>
  some ((r2.1,r2.2.1,r2.2.2,0))
def jsK:List Lf->Option GT|[.d (.s u5),.x (.st [.s,.i .i64,.ints .i64,.ints .i64,.ints .i64,.i .i64,.recs 5,.i .i64] u1)]=>some (.leaf (ok (je5 u5 u1)) [.s [.d (.i .i64 ((val (je5 u5 u1)).1)),.x 157 (.ff .f32 ((val (je5 u5 u1)).2.1)),.x 158 (.rr 4 ((val (je5 u5 u1)).2.2.1))],.c (.d (.i .i64 ((val (je5 u5 u1)).2.2.2)))])|_=>none
abbrev sp_69:jab->jab:=jal 69 true (jak jAt jsK)
def sp_69_ok:KO sp_69:=jag (kT (sp_80_ok (sp_120_ok jaf)) Tryz.func69 (by kernel_rfl) fun ls t h ho=>by
 unfold jsK at h;split at h
 ·rename_i u5 u1;cases h;have ho:=jad ho
  generalize val (je5 u5 u1)=r at ho ⊢
  exact⟨by kernel_rfl,fun _ _ _=>none,Sk.vd ho (.brB
   (.call (.obT (.obT (.ret (fun r=>(Ob ((0:Int)=r.1) ∧
 (Ob (za r.2.1=(0:Nat)) ∧
 (Ob (za r.2.2.1=(0:Nat)) ∧
 (Ob (nzI (val (jbq u5 u1))=r.2.2.2) ∧
 True))))) ⟨⟨rfl⟩,⟨⟨rfl⟩,⟨⟨rfl⟩,⟨⟨rfl⟩,trivial⟩⟩⟩⟩))))
   (.call (.call (.obT (.obT (.rc)))))) (by kernel_rfl)⟩
 ·cases h)
attribute [irreducible] je5
def jqs:List SV:=[.a [.d,.x (.ff .f32 []),.x (.rr 4 [])],.a [.d,.x (.ff .f32 []),.x (.rr 4 [])]]
def y89 (u62 u63:List (List Nat)) (x0:Int):Option (Int ⊕ (Unit ⊕ Unit)) :=
 if x0<(↑u62.length:Int)then if 0<=x0∧x0<(↑u62.length:Int)then
  if zf x0<za u62 then if 0<=x0∧x0<(↑u63.length:Int)then
   if zf x0<za u63 then
    ze (jmf (zb u62 x0.toNat []) (zb u63 x0.toNat [])) fun r0 =>
    if(!r0)=true then
    some (.inr ((.inl ())))
    else
    some (.inl (wrap .i64 (x0+1)))
   else none
   else none
  else none
  else none
 else some (.inr ((.inr ())))
def jmo (u24:List (List (List Int))) (u25:List (List (List Int))) (u3:Unit):Option Bool :=some false
def y90 (u24:List (List (List Int))) (u25:List (List (List Int))) (x1:Int) (x2:Int):Option (Int ⊕ (Unit ⊕ Unit)) :=
 if 0<=x1∧x1<(↑u24.length:Int)then if zf x1<za u24 then
  if x2<(↑(za (zb u24 x1.toNat [])):Int)then if 0<=x1∧x1<(↑u24.length:Int)then
   if zf x1<za u24 then if 0<=x2∧x2<(↑(za (zb u24 x1.toNat [])):Int)then
    if zf x2<za (zb u24 x1.toNat [])then if 0<=x1∧x1<(↑u25.length:Int)then
     if zf x1<za u25 then if 0<=x2∧x2<(↑(za (zb u25 x1.toNat [])):Int)then
      if zf x2<za (zb u25 x1.toNat [])then if(!(zb (zb (zb u24 x1.toNat []) x2.toNat []) (0:Nat) (0:Int)==zb (zb (zb u25 x1.toNat []) x2.toNat []) (0:Nat) (0:Int)&&zb (zb (zb u24 x1.toNat []) x2.toNat []) (1:Nat) (0:Int)==zb (zb (zb u25 x1.toNat []) x2.toNat []) (1:Nat) (0:Int)&&(zb (zb (zb u24 x1.toNat []) x2.toNat []) (2:Nat) (0:Int)==zb (zb (zb u25 x1.toNat []) x2.toNat []) (2:Nat) (0:Int)&&zb (zb (zb u24 x1.toNat []) x2.toNat []) (3:Nat) (0:Int)==zb (zb (zb u25 x1.toNat []) x2.toNat []) (3:Nat) (0:Int))))=true then some (.inr ((.inl ())))
       else
       some (.inl (wrap .i64 (x2+1)))
      else none
      else none
     else none
     else none
    else none
    else none
   else none
   else none
  else some (.inr ((.inr ())))
  else none
 else none
def jmp (x1:Int) (u22:Unit):Option (Int ⊕ (Unit ⊕ Unit)) :=some (.inr ((.inl ())))
def jmq (x1:Int) (u26:Unit):Option (Int ⊕ (Unit ⊕ Unit)) :=some (.inl (wrap .i64 (x1+1)))
def jgT (x1:Int):(Unit ⊕ Unit)->Option (Int ⊕ (Unit ⊕ Unit)) :=(qy (jmp x1) (jmq x1))
def y63 (u24:List (List (List Int))) (u25:List (List (List Int))) (x1:Int):Option (Int ⊕ (Unit ⊕ Unit)) :=
 if x1<(↑u24.length:Int)then if 0<=x1∧x1<(↑u24.length:Int)then
  if zf x1<za u24 then if 0<=x1∧x1<(↑u25.length:Int)then
   if zf x1<za u25 then if((↑(za (zb u24 x1.toNat [])):Int)!=(↑(za (zb u25 x1.toNat [])):Int))=true then some (.inr ((.inl ())))
    else
    ze (jae (y90 u24 u25 x1) big (0:Int)) (jgT x1)
   else none
   else none
  else none
  else none
 else some (.inr ((.inr ())))
def jmr (u7:Unit):Option Bool :=some false
def jms (u20:Unit):Option Bool :=some true
def jgU:(Unit ⊕ Unit)->Option Bool :=(qy (jmr) (jms))
def jmt (u24:List (List (List Int))) (u25:List (List (List Int))) (u4:Unit):Option Bool :=ze (jae (y63 u24 u25) big (0:Int)) (jgU)
def jgV (u24:List (List (List Int))) (u25:List (List (List Int))):(Unit ⊕ Unit)->Option Bool :=(qy (jmo u24 u25) (jmt u24 u25))
def jo0 (u93:Int) (u62:List (List Nat)) (u24:List (List (List Int))) (u94:Int) (u63:List (List Nat)) (u25:List (List (List Int))):Option Bool :=
 if(u93 != u94)=true then some false
 else if((↑u62.length:Int)!=(↑u63.length:Int))=true then some false
  else
  if((↑u24.length:Int)!=(↑u25.length:Int))=true then some false
  else ze (jae (y89 u62 u63) big (0:Int)) (jgV u24 u25)
def jhH:List Lf->Option GT|[.d (.i .i64 u93),.x (.ff .f32 u62),.x (.rr 4 u24),.d (.i .i64 u94),.x (.ff .f32 u63),.x (.rr 4 u25)]=>some (.leaf (ok (jo0 u93 u62 u24 u94 u63 u25)) [.c (.d (.b ((val (jo0 u93 u62 u24 u94 u63 u25)))))])|_=>none
abbrev sp_59:jab->jab:=jal 59 true (jak jqs jhH)
def sp_59_ok:KO sp_59:=jag (kT (sp_110_ok jaf) Tryz.func59 (by kernel_rfl) fun ls t h ho=>by
 unfold jhH at h;split at h
 ·rename_i u93 u62 u24 u94 u63 u25;cases h;have ho:=jad ho
  generalize val (jo0 u93 u62 u24 u94 u63 u25)=r at ho ⊢
  let l0:=lp0 (y89 u62 u63) (jgV u24 u25) r fun z=>⟨[(2,.w (.c (.p 4 0 1 0))),(3,.w (.c (.p 5 0 1 0))),(5,.w (.c (.d (.i .i64 z.1))))],[(4,.box 78 [.d (.i .i64 u93),.o 0,.o 1]),(5,.box 78 [.d (.i .i64 u94),.o 2,.o 3]),(0,.xext (XC.ff .f32 u62)),(1,.xext (XC.rr (4:Nat) u24)),(2,.xext (XC.ff .f32 u63)),(3,.xext (XC.rr (4:Nat) u25))],6⟩
  let l1:Lp (Unit × Int × Nat) Int (Unit ⊕ Unit) Bool Bool:=⟨fun z=>z.2.1,fun z=>z.2.2,fun z x n=>((),x,n),fun z=>y63 u24 u25,fun z=>jgU,fun z=>top r,fun z=>0,fun z=>⟨[(2,.w (.c (.p 4 0 1 0))),(3,.w (.c (.p 5 0 1 0))),(6,.w (.c (.d (.i .i64 z.2.1))))],[(4,.box 78 [.d (.i .i64 u93),.o 0,.o 1]),(5,.box 78 [.d (.i .i64 u94),.o 2,.o 3]),(0,.xext (XC.ff .f32 u62)),(1,.xext (XC.rr (4:Nat) u24)),(2,.xext (XC.ff .f32 u63)),(3,.xext (XC.rr (4:Nat) u25))],6⟩⟩
  let l2 (m1:Nat):Lp (Unit × Int × Nat × Int × Nat) Int (Unit ⊕ Unit) ((Int ⊕ (Unit ⊕ Unit))) Bool:=⟨fun z=>z.2.2.2.1,fun z=>z.2.2.2.2,fun z x n=>((),z.2.1,z.2.2.1,x,n),fun z=>y90 u24 u25 z.2.1,fun z=>jgT z.2.1,fun z=>(l1).cx (((),z.2.1,m1)),fun z=>z.2.2.1,fun z=>⟨[(2,.w (.c (.p 4 0 1 0))),(3,.w (.c (.p 5 0 1 0))),(6,.w (.c (.d (.i .i64 z.2.1)))),(7,.w (.c (.d (.i .i64 z.2.2.2.1))))],[(4,.box 78 [.d (.i .i64 u93),.o 0,.o 1]),(5,.box 78 [.d (.i .i64 u94),.o 2,.o 3]),(0,.xext (XC.ff .f32 u62)),(1,.xext (XC.rr (4:Nat) u24)),(2,.xext (XC.ff .f32 u63)),(3,.xext (XC.rr (4:Nat) u25))],6⟩⟩
  exact⟨by kernel_rfl,(fun gs id _=>match id with
   |0=>l0.li
   |2=>l1.li
   |4=>(l2 (gs.getD 0 0)).li
   |_=>none),Sk.vd ho (.brB
   (.obT (.rc))
   (.brB
   (.obT (.rc))
   (.brB
   (.obT (.rc))
   (.loop (l0) (fun kk=>((0:Int),big)) fun z0 =>
   .br
   (.ob (.ob (.ob (.ob (.call (.brB
   (.exit (.obT (.rc)))
   (.next)))))))
   (.exit (.loop (l1) (fun kk=>((),0,big)) fun z0 =>
   .br
   (.ob (.ob (.ob (.ob (.brB
   (.exit (.obT (.rc)))
   (.loop (l2 z0.2.2) (fun kk=>((),z0.2.1,kk,0,big)) fun z1 =>
   .ob (.ob (.br
   (.ob (.ob (.ob (.ob (.ob (.ob (.ob (.ob (.brB
   (.exit (.exit (.obT (.rc))))
   (.next))))))))))
   (.exit (.next))))))))))
   (.exit (.obT (.rc))))))))) (by kernel_rfl)⟩
 ·cases h)
attribute [irreducible] jo0
def jtt:List SV:=[.a [.d,.x (.st zS [])]]
def jo1 (u1:List (List NC)):Option (List Int) :=
 ze (jmc u1 (4:Int)) fun r0 =>
 some r0
def jkw:List Lf->Option GT|[.d (.s u5),.x (.st [.s,.i .i64,.ints .i64,.ints .i64,.ints .i64,.i .i64,.recs 5,.i .i64] u1)]=>some (.leaf (ok (jo1 u1)) [.c (.row 3 (.ints .i64 ((val (jo1 u1)))))])|_=>none
abbrev sp_70:jab->jab:=jal 70 true (jak jtt jkw)
def sp_70_ok:KO sp_70:=jag (kT (sp_121_ok jaf) Tryz.func70 (by kernel_rfl) fun ls t h ho=>by
 unfold jkw at h;split at h
 ·rename_i u5 u1;cases h;have ho:=jad ho
  generalize val (jo1 u1)=r at ho ⊢
  exact⟨by kernel_rfl,fun _ _ _=>none,Sk.vd ho (.call (.obT (.rc))) (by kernel_rfl)⟩
 ·cases h)
attribute [irreducible] jo1
end Go.Sh
end

section
namespace Go.Sh
open Go Go.Proofs Go.RowKit Go.Sx
open Go.IntKind (wrap)
set_option maxRecDepth 100000
def jwA:List SV:=[.a [.d,.x (.st zS [])]]
def jrP (u1:List (List NC)) (x0:(Int × List (List Nat) × List (List (List Int)))):Option ((Int × List (List Nat) × List (List (List Int))) ⊕ (List (List Nat) × List (List (List Int)))) :=
 if x0.1<(↑u1.length:Int)then if(za x0.2.1+za (qt (fun r=>NC.toFlts (zA r (NC.d (D.v zJ)))) [[NC.r (Cont.floats .f32 (zh (128:Nat) (0:Nat)))]]))*24<=140737488355328∧za x0.2.1+za (qt (fun r=>NC.toFlts (zA r (NC.d (D.v zJ)))) [[NC.r (Cont.floats .f32 (zh (128:Nat) (0:Nat)))]])<=9223372036854775807 then
  if 0<=x0.1∧x0.1<(↑u1.length:Int)then if zf x0.1<za u1 then
   if 0<=(↑(za (nR u1 x0.1.toNat (6:Nat))):Int)∧(↑(za (nR u1 x0.1.toNat (6:Nat))):Int)=(↑(za (nR u1 x0.1.toNat (6:Nat))):Int)∧(↑(32:Nat):Int)*(↑(za (nR u1 x0.1.toNat (6:Nat))):Int)<=281474976710656∧(↑(za (nR u1 x0.1.toNat (6:Nat))):Int)<=9223372036854775807 then if(za x0.2.2+za (qt (fun r=>NC.toRecs (zA r (NC.d (D.v zJ)))) [[NC.r (Cont.recs (za [D.i .i64 0,D.i .i64 0,D.i .i64 0,D.i .i64 0]) (zh (zf (↑(za (nR u1 x0.1.toNat (6:Nat))):Int)) [(0:Int),0,0,0]))]]))*24<=140737488355328∧za x0.2.2+za (qt (fun r=>NC.toRecs (zA r (NC.d (D.v zJ)))) [[NC.r (Cont.recs (za [D.i .i64 0,D.i .i64 0,D.i .i64 0,D.i .i64 0]) (zh (zf (↑(za (nR u1 x0.1.toNat (6:Nat))):Int)) [(0:Int),0,0,0]))]])<=9223372036854775807 then some (.inl ((wrap .i64 (x0.1+1),x0.2.1++qt (fun r=>NC.toFlts (zA r (NC.d (D.v zJ)))) [[NC.r (Cont.floats .f32 (zh (128:Nat) (0:Nat)))]],x0.2.2++qt (fun r=>NC.toRecs (zA r (NC.d (D.v zJ)))) [[NC.r (Cont.recs (za [D.i .i64 0,D.i .i64 0,D.i .i64 0,D.i .i64 0]) (zh (zf (↑(za (nR u1 x0.1.toNat (6:Nat))):Int)) [(0:Int),0,0,0]))]])))
    else none
   else none
   else none
  else none
  else none
 else some (.inr (x0.2.1,x0.2.2))
def jmu (u3:List (List Nat) × List (List (List Int))):Option (Int × List (List Nat) × List (List (List Int))) :=some (((0:Int),u3.1,u3.2))
def jj2 (u1:List (List NC)):Option (Int × List (List Nat) × List (List (List Int))) :=ze (jae (jrP u1) big (((0:Int),[],[]))) (jmu)
def jn5:List Lf->Option GT|[.d (.s u5),.x (.st [.s,.i .i64,.ints .i64,.ints .i64,.ints .i64,.i .i64,.recs 5,.i .i64] u1)]=>some (.leaf (ok (jj2 u1)) [.s [.d (.i .i64 ((val (jj2 u1)).1)),.x 157 (.ff .f32 ((val (jj2 u1)).2.1)),.x 158 (.rr 4 ((val (jj2 u1)).2.2))]])|_=>none
abbrev sp_71:jab->jab:=jal 71 true (jak jwA jn5)
def jkx (u5:zY) (u1:List (List NC)) (r:Int × List (List Nat) × List (List (List Int))) (z0:((Int × List (List Nat) × List (List (List Int))) × Nat)):Prop :=joH Tryz.prog (sp0) 32 1 [0] ((jcI (bodyOf Tryz.f71)).getD 0 #[]) ⟨[(1,.w (.c (.p 1 0 1 0))),(2,.w (.c (.p 2 0 1 0))),(3,.w (.c (.p 3 0 1 0))),(4,.w (.c (.d (.i .i64 z0.1.1))))],[(3,.box 78 [.d (.i .i64 0),.o 4,.o 5]),(2,.box 78 [.d (.i .i64 0),.d (.v (zx none (0:Nat) (0:Nat))),.d (.v (zx none (0:Nat) (0:Nat)))]),(1,.box 24 [.d (.s u5),.o 0]),(5,.xrow 158 (XC.rr (4:Nat) z0.1.2.2)),(4,.xrow 157 (XC.ff .f32 z0.1.2.1)),(0,.xext (XC.st zS u1))],6⟩
 ⟨[(1,.w (.c (.p 1 0 1 0))),(2,.w (.c (.p 2 0 1 0))),(3,.w (.c (.p 3 0 1 0))),(4,.w (.c (.d (.i .i64 z0.1.1))))],[(3,.box 78 [.d (.i .i64 0),.o 8,.o 5]),(2,.box 78 [.d (.i .i64 0),.d (.v (zx none (0:Nat) (0:Nat))),.d (.v (zx none (0:Nat) (0:Nat)))]),(1,.box 24 [.d (.s u5),.o 0]),(5,.xrow 158 (XC.rr (4:Nat) z0.1.2.2)),(8,.xrow 157 (XC.ff .f32 (z0.1.2.1++qt (fun r=>NC.toFlts (zA r (NC.d (D.v zJ)))) [[NC.r (Cont.floats .f32 (zh (128:Nat) (0:Nat)))]]))),(0,.xext (XC.st zS u1))],9⟩
 (((za z0.1.2.1+za (qt (fun r=>NC.toFlts (zA r (NC.d (D.v zJ)))) [[NC.r (Cont.floats .f32 (zh (128:Nat) (0:Nat)))]]))*24<=140737488355328∧za z0.1.2.1+za (qt (fun r=>NC.toFlts (zA r (NC.d (D.v zJ)))) [[NC.r (Cont.floats .f32 (zh (128:Nat) (0:Nat)))]])<=9223372036854775807)∧((0:Int)<=128∧(128:Int)=(128:Int)∧(↑(4:Nat):Int)*128<=281474976710656∧(128:Int)<=9223372036854775807)∧True)
def jo2 (u5:zY) (u1:List (List NC)) (r:Int × List (List Nat) × List (List (List Int))) (z0:((Int × List (List Nat) × List (List (List Int))) × Nat)):jkx u5 u1 r z0:=fun h =>
 have t:=trivial;have e:Ob True:=⟨trivial⟩
 have q2:=oR ((0:Nat));have q3:=oR (z0.1.1);have q4:=oR ((0:Int));have q5:=oR (zx none (0:Nat) (0:Nat));have q6:=oR (u5);have q7:=oR (z0.1.2.2);have q8:=oR (z0.1.2.1++qt (fun r=>NC.toFlts (zA r (NC.d (D.v zJ)))) [[NC.r (Cont.floats .f32 (zh (128:Nat) (0:Nat)))]]);have q9:=oR (u1);have q1:Ob _:=⟨h.1⟩
 have q0:Ob _:=⟨h.2.1⟩
 have s0:=ai (ai e (ai (ai q1 (ai (ai e (ai (ai e (ai q2 (ai q2 (ai q2 (ai q3 (ai q4 (ai q4 (ai q5 (ai q5 (ai q6 (ai q7 (ai q8 (ai q9 t))))))))))))) t)) t)) t)) t;have s1:=ai e s0;have s2:=ai e (ai (ai e (ai (ai q0 s0) t)) (ai (ai q0 (ai s1 (ai s1 t))) t))
 @js _ _ (by kernel_rfl) s2
def jky (u5:zY) (u1:List (List NC)) (r:Int × List (List Nat) × List (List (List Int))) (z0:((Int × List (List Nat) × List (List (List Int))) × Nat)):Prop :=joH Tryz.prog (sp0) 32 1 [0,2,4] ((jcI (bodyOf Tryz.f71)).getD 1 #[]) ⟨[(1,.w (.c (.p 1 0 1 0))),(2,.w (.c (.p 2 0 1 0))),(3,.w (.c (.p 3 0 1 0))),(4,.w (.c (.d (.i .i64 z0.1.1))))],[(3,.box 78 [.d (.i .i64 0),.o 8,.o 5]),(2,.box 78 [.d (.i .i64 0),.d (.v (zx none (0:Nat) (0:Nat))),.d (.v (zx none (0:Nat) (0:Nat)))]),(1,.box 24 [.d (.s u5),.o 0]),(5,.xrow 158 (XC.rr (4:Nat) z0.1.2.2)),(8,.xrow 157 (XC.ff .f32 (z0.1.2.1++qt (fun r=>NC.toFlts (zA r (NC.d (D.v zJ)))) [[NC.r (Cont.floats .f32 (zh (128:Nat) (0:Nat)))]]))),(0,.xext (XC.st zS u1))],9⟩
 ⟨[(1,.w (.c (.p 1 0 1 0))),(2,.w (.c (.p 2 0 1 0))),(3,.w (.c (.p 3 0 1 0))),(4,.w (.c (.d (.i .i64 z0.1.1))))],[(3,.box 78 [.d (.i .i64 0),.o 8,.o 12]),(2,.box 78 [.d (.i .i64 0),.d (.v (zx none (0:Nat) (0:Nat))),.d (.v (zx none (0:Nat) (0:Nat)))]),(1,.box 24 [.d (.s u5),.o 0]),(12,.xrow 158 (XC.rr (4:Nat) (z0.1.2.2++qt (fun r=>NC.toRecs (zA r (NC.d (D.v zJ)))) [[NC.r (Cont.recs (za [D.i .i64 0,D.i .i64 0,D.i .i64 0,D.i .i64 0]) (zh (zf (↑(za (nR u1 z0.1.1.toNat (6:Nat))):Int)) [(0:Int),0,0,0]))]]))),(8,.xrow 157 (XC.ff .f32 (z0.1.2.1++qt (fun r=>NC.toFlts (zA r (NC.d (D.v zJ)))) [[NC.r (Cont.floats .f32 (zh (128:Nat) (0:Nat)))]]))),(0,.xext (XC.st zS u1))],13⟩
 (((za z0.1.2.2+za (qt (fun r=>NC.toRecs (zA r (NC.d (D.v zJ)))) [[NC.r (Cont.recs (za [D.i .i64 0,D.i .i64 0,D.i .i64 0,D.i .i64 0]) (zh (zf (↑(za (nR u1 z0.1.1.toNat (6:Nat))):Int)) [(0:Int),0,0,0]))]]))*24<=140737488355328∧za z0.1.2.2+za (qt (fun r=>NC.toRecs (zA r (NC.d (D.v zJ)))) [[NC.r (Cont.recs (za [D.i .i64 0,D.i .i64 0,D.i .i64 0,D.i .i64 0]) (zh (zf (↑(za (nR u1 z0.1.1.toNat (6:Nat))):Int)) [(0:Int),0,0,0]))]])<=9223372036854775807)∧(0<=(↑(za (nR u1 z0.1.1.toNat (6:Nat))):Int)∧(↑(za (nR u1 z0.1.1.toNat (6:Nat))):Int)=(↑(za (nR u1 z0.1.1.toNat (6:Nat))):Int)∧(↑(32:Nat):Int)*(↑(za (nR u1 z0.1.1.toNat (6:Nat))):Int)<=281474976710656∧(↑(za (nR u1 z0.1.1.toNat (6:Nat))):Int)<=9223372036854775807)∧(zf z0.1.1<za u1)∧(0<=z0.1.1∧z0.1.1<(↑u1.length:Int))∧True)
def jo3 (u5:zY) (u1:List (List NC)) (r:Int × List (List Nat) × List (List (List Int))) (z0:((Int × List (List Nat) × List (List (List Int))) × Nat)):jky u5 u1 r z0:=fun h =>
 have t:=trivial;have e:Ob True:=⟨trivial⟩
 have q4:=oR ((0:Nat));have q5:=oR (z0.1.1);have q6:=oR ((0:Int));have q7:=oR (zx none (0:Nat) (0:Nat));have q8:=oR (u5);have q9:=oR (z0.1.2.2++qt (fun r=>NC.toRecs (zA r (NC.d (D.v zJ)))) [[NC.r (Cont.recs (za [D.i .i64 0,D.i .i64 0,D.i .i64 0,D.i .i64 0]) (zh (zf (↑(za (nR u1 z0.1.1.toNat (6:Nat))):Int)) [(0:Int),0,0,0]))]]);have q10:=oR (z0.1.2.1++qt (fun r=>NC.toFlts (zA r (NC.d (D.v zJ)))) [[NC.r (Cont.floats .f32 (zh (128:Nat) (0:Nat)))]]);have q11:=oR (u1);have q3:Ob _:=⟨h.1⟩
 have q2:Ob _:=⟨h.2.1⟩
 have q1:Ob _:=⟨h.2.2.1⟩
 have q0:Ob _:=⟨h.2.2.2.1⟩
 have s0:=ai (ai e (ai (ai q3 (ai (ai e (ai (ai e (ai q4 (ai q4 (ai q4 (ai q5 (ai q6 (ai q6 (ai q7 (ai q7 (ai q8 (ai q9 (ai q10 (ai q11 t))))))))))))) t)) t)) t)) t;have s1:=ai e (ai (ai q2 s0) t);have s2:=ai s1 t;have s3:=ai e (ai (ai q1 s2) t);have s4:=ai s3 t;have s5:=ai e (ai (ai q0 s4) t);have s6:=ai e s0;have s7:=ai e (ai e (ai e (ai (ai e (ai s5 t)) (ai (ai e (ai s5 (ai (ai q0 (ai (ai e s4) (ai (ai e (ai s3 (ai (ai q1 (ai (ai e s2) (ai (ai e (ai s1 (ai (ai q2 (ai s6 (ai s6 t))) t))) t))) t))) t))) t))) t))))
 @js _ _ (by kernel_rfl) s7
def sp_71_ok:KO sp_71:=jag (kL [(12,[1,2,3,4],[1,2,3,4],[0]),(18,[1,2,3,4],[1,2,3,4],[0,2,4])] jaf Tryz.func71 (by kernel_rfl) fun ls t h ho=>by
 unfold jn5 at h;split at h
 ·rename_i u5 u1;cases h;have ho:=jad ho
  generalize val (jj2 u1)=r at ho ⊢
  let l0:=lp0 (jrP u1) jmu r fun z=>⟨[(1,.w (.c (.p 1 0 1 0))),(2,.w (.c (.p 2 0 1 0))),(3,.w (.c (.p 3 0 1 0))),(4,.w (.c (.d (.i .i64 z.1.1))))],[(1,.box 24 [.d (.s u5),.o 0]),(2,.box 78 [.d (.i .i64 0),.d (.v (zx none (0:Nat) (0:Nat))),.d (.v (zx none (0:Nat) (0:Nat)))]),(3,.box 78 [.d (.i .i64 0),.o 4,.o 5]),(0,.xext (XC.st zS u1)),(4,.xrow 157 (XC.ff .f32 z.1.2.1)),(5,.xrow 158 (XC.rr (4:Nat) z.1.2.2))],6⟩
  exact⟨by kernel_rfl,(fun _ id _=>match id with
   |0=>l0.li
   |_=>none),Sk.vd ho ((.loopQ (l0) [.c fun _=>0,.c fun _=>0,.c fun _=>0,.c fun vv=>vv.1.1,.c fun _=>u5,.c fun _=>(0:Int),.c fun _=>zx none (0:Nat) (0:Nat),.c fun _=>zx none (0:Nat) (0:Nat),.c fun _=>(0:Int),.c fun _=>u1,.p fun vv=>za vv.1.2.1=(0:Nat),.p fun vv=>za vv.1.2.2=(0:Nat)] (fun kk=>(((0:Int),[],[]),big)) (fun z0 =>
   .br
   (.obC ((0:Int)<=128∧(128:Int)=(128:Int)∧(512:Int)<=281474976710656∧(128:Int)<=9223372036854775807) (by decide) (.ob (.obC (jkx u5 u1 r z0) (jo2 u5 u1 r z0) (.ob (.ob (.ob (.ob (.obC (jky u5 u1 r z0) (jo3 u5 u1 r z0) (.next)))))))))
   (.exit (.obT (.rc)))) (fun _=>⟨rfl,⟨rfl,trivial⟩⟩))) (by kernel_rfl)⟩
 ·cases h)
attribute [irreducible] jj2
end Go.Sh
end

section
namespace Go.Sh
open Go Go.Proofs Go.RowKit Go.Sx
open Go.IntKind (wrap)
set_option maxRecDepth 100000
def jqt:List SV:=[.a [.d,.x (.ff .f32 []),.x (.rr 4 [])]]
def y91 (u11:List (List Nat)) (x0:(Int × List (List Nat))):Option ((Int × List (List Nat)) ⊕ (List (List Nat))) :=
 if x0.1<(↑u11.length:Int)then if 0<=x0.1∧x0.1<(↑u11.length:Int)then
  if zf x0.1<za u11 then if(0+za (zb u11 x0.1.toNat []))*4<=140737488355328∧0+za (zb u11 x0.1.toNat [])<=9223372036854775807 then
   if(za x0.2+za (qt (fun r=>NC.toFlts (zA r (NC.d (D.v zJ)))) [[NC.r (Cont.floats .f32 ([]++zb u11 x0.1.toNat []))]]))*24<=140737488355328∧za x0.2+za (qt (fun r=>NC.toFlts (zA r (NC.d (D.v zJ)))) [[NC.r (Cont.floats .f32 ([]++zb u11 x0.1.toNat []))]])<=9223372036854775807 then some (.inl ((wrap .i64 (x0.1+1),x0.2++qt (fun r=>NC.toFlts (zA r (NC.d (D.v zJ)))) [[NC.r (Cont.floats .f32 ([]++zb u11 x0.1.toNat []))]])))
   else none
   else none
  else none
  else none
 else some (.inr x0.2)
def y92 (u12:List (List (List Int))) (x1:(Int × List (List (List Int)))):Option ((Int × List (List (List Int))) ⊕ (List (List (List Int)))) :=
 if x1.1<(↑u12.length:Int)then if 0<=x1.1∧x1.1<(↑u12.length:Int)then
  if zf x1.1<za u12 then if(0+za (zb u12 x1.1.toNat []))*32<=140737488355328∧0+za (zb u12 x1.1.toNat [])<=9223372036854775807 then
   if(za x1.2+za (qt (fun r=>NC.toRecs (zA r (NC.d (D.v zJ)))) [[NC.r (Cont.recs (za [D.i .i64 0,D.i .i64 0,D.i .i64 0,D.i .i64 0]) ([]++zb u12 x1.1.toNat []))]]))*24<=140737488355328∧za x1.2+za (qt (fun r=>NC.toRecs (zA r (NC.d (D.v zJ)))) [[NC.r (Cont.recs (za [D.i .i64 0,D.i .i64 0,D.i .i64 0,D.i .i64 0]) ([]++zb u12 x1.1.toNat []))]])<=9223372036854775807 then some (.inl ((wrap .i64 (x1.1+1),x1.2++qt (fun r=>NC.toRecs (zA r (NC.d (D.v zJ)))) [[NC.r (Cont.recs (za [D.i .i64 0,D.i .i64 0,D.i .i64 0,D.i .i64 0]) ([]++zb u12 x1.1.toNat []))]])))
   else none
   else none
  else none
  else none
 else some (.inr x1.2)
def jgW (u15:Int) (u3:List (List Nat)) (u7:List (List (List Int))):Option (Int × List (List Nat) × List (List (List Int))) :=some (u15,u3,u7)
def y206 (u15:Int) (u12:List (List (List Int))) (u3:List (List Nat)):Option (Int × List (List Nat) × List (List (List Int))) :=ze (jae (y92 u12) big (((0:Int),[]))) (jgW u15 u3)
def y5 (u15:Int) (u11:List (List Nat)) (u12:List (List (List Int))):Option (Int × List (List Nat) × List (List (List Int))) :=ze (jae (y91 u11) big (((0:Int),[]))) (y206 u15 u12)
def jhI:List Lf->Option GT|[.d (.i .i64 u15),.x (.ff .f32 u11),.x (.rr 4 u12)]=>some (.leaf (ok (y5 u15 u11 u12)) [.s [.d (.i .i64 ((val (y5 u15 u11 u12)).1)),.x 157 (.ff .f32 ((val (y5 u15 u11 u12)).2.1)),.x 158 (.rr 4 ((val (y5 u15 u11 u12)).2.2))]])|_=>none
abbrev sp_54:jab->jab:=jal 54 true (jak jqt jhI)
def jfO (u15:Int) (u11:List (List Nat)) (u12:List (List (List Int))) (r:Int × List (List Nat) × List (List (List Int))) (z0:((Int × List (List Nat)) × Nat)):Prop :=joH Tryz.prog (sp0) 48 2 [0,3,5] ((jcI (bodyOf Tryz.f54)).getD 0 #[]) ⟨[(1,.w (.c (.p 2 0 1 0))),(2,.w (.c (.p 3 0 1 0))),(3,.w (.c (.p 4 0 1 0))),(4,.w (.c (.d (.i .i64 z0.1.1))))],[(4,.box 78 [.d (.i .i64 u15),.o 5,.d (.v (zx none (0:Nat) (0:Nat)))]),(3,.box 78 [.d (.i .i64 0),.d (.v (zx none (0:Nat) (0:Nat))),.d (.v (zx none (0:Nat) (0:Nat)))]),(2,.box 78 [.d (.i .i64 u15),.o 0,.o 1]),(5,.xrow 157 (XC.ff .f32 z0.1.2)),(1,.xext (XC.rr (4:Nat) u12)),(0,.xext (XC.ff .f32 u11))],6⟩
 ⟨[(1,.w (.c (.p 2 0 1 0))),(2,.w (.c (.p 3 0 1 0))),(3,.w (.c (.p 4 0 1 0))),(4,.w (.c (.d (.i .i64 z0.1.1))))],[(4,.box 78 [.d (.i .i64 u15),.o 10,.d (.v (zx none (0:Nat) (0:Nat)))]),(3,.box 78 [.d (.i .i64 0),.d (.v (zx none (0:Nat) (0:Nat))),.d (.v (zx none (0:Nat) (0:Nat)))]),(2,.box 78 [.d (.i .i64 u15),.o 0,.o 1]),(10,.xrow 157 (XC.ff .f32 (z0.1.2++qt (fun r=>NC.toFlts (zA r (NC.d (D.v zJ)))) [[NC.r (Cont.floats .f32 ([]++zb u11 z0.1.1.toNat []))]]))),(1,.xext (XC.rr (4:Nat) u12)),(0,.xext (XC.ff .f32 u11))],11⟩
 (((za z0.1.2+za (qt (fun r=>NC.toFlts (zA r (NC.d (D.v zJ)))) [[NC.r (Cont.floats .f32 ([]++zb u11 z0.1.1.toNat []))]]))*24<=140737488355328∧za z0.1.2+za (qt (fun r=>NC.toFlts (zA r (NC.d (D.v zJ)))) [[NC.r (Cont.floats .f32 ([]++zb u11 z0.1.1.toNat []))]])<=9223372036854775807)∧((0+za (zb u11 z0.1.1.toNat []))*4<=140737488355328∧0+za (zb u11 z0.1.1.toNat [])<=9223372036854775807)∧(zf z0.1.1<za u11)∧(0<=z0.1.1∧z0.1.1<(↑u11.length:Int))∧True)
def jj3 (u15:Int) (u11:List (List Nat)) (u12:List (List (List Int))) (r:Int × List (List Nat) × List (List (List Int))) (z0:((Int × List (List Nat)) × Nat)):jfO u15 u11 u12 r z0:=fun h =>
 have t:=trivial;have e:Ob True:=⟨trivial⟩
 have q4:=oR ((0:Nat));have q5:=oR (z0.1.1);have q6:=oR (u15);have q7:=oR (zx none (0:Nat) (0:Nat));have q8:=oR ((0:Int));have q9:=oR (z0.1.2++qt (fun r=>NC.toFlts (zA r (NC.d (D.v zJ)))) [[NC.r (Cont.floats .f32 ([]++zb u11 z0.1.1.toNat []))]]);have q10:=oR (u12);have q11:=oR (u11);have q3:Ob _:=⟨h.1⟩
 have q2:Ob _:=⟨h.2.1⟩
 have q1:Ob _:=⟨h.2.2.1⟩
 have q0:Ob _:=⟨h.2.2.2.1⟩
 have s0:=ai (ai e (ai (ai q3 (ai (ai e (ai (ai e (ai q4 (ai q4 (ai q4 (ai q5 (ai q6 (ai q7 (ai q8 (ai q7 (ai q7 (ai q6 (ai q9 (ai q10 (ai q11 t)))))))))))))) t)) t)) t)) t;have s1:=ai (ai q2 s0) t;have s2:=ai (ai q1 s1) t;have s3:=ai e (ai (ai q0 s2) t);have s4:=ai e (ai s3 t);have s5:=ai e s2;have s6:=ai e s1;have s7:=ai s6 t;have s8:=ai s5 (ai (ai q1 s7) t);have s9:=ai e (ai s3 (ai (ai q0 s8) t));have s10:=ai e s0;have s11:=ai s6 (ai (ai q2 (ai s10 (ai s10 t))) t);have s12:=ai s5 (ai (ai q1 s11) t);have s13:=ai e (ai s3 (ai (ai q0 s12) t));have s14:=ai e (ai e (ai e (ai (ai e (ai s4 (ai s9 t))) (ai (ai e (ai s4 (ai s13 t))) (ai (ai e (ai s9 (ai s13 (ai (ai q0 (ai (ai e s8) (ai (ai e s12) (ai (ai q1 (ai (ai e s7) (ai (ai e s11) t))) t)))) t)))) t)))))
 @js _ _ (by kernel_rfl) s14
def jfP (u15:Int) (u11:List (List Nat)) (u12:List (List (List Int))) (r:Int × List (List Nat) × List (List (List Int))) (z0:(List (List Nat) × (Int × List (List (List Int))) × Nat)):Prop :=joH Tryz.prog (sp0) 48 2 [0,3,5] ((jcI (bodyOf Tryz.f54)).getD 1 #[]) ⟨[(1,.w (.c (.p 2 0 1 0))),(2,.w (.c (.p 3 0 1 0))),(3,.w (.c (.p 4 0 1 0))),(5,.w (.c (.d (.i .i64 z0.2.1.1))))],[(4,.box 78 [.d (.i .i64 u15),.o 5,.o 6]),(3,.box 78 [.d (.i .i64 0),.d (.v (zx none (0:Nat) (0:Nat))),.d (.v (zx none (0:Nat) (0:Nat)))]),(2,.box 78 [.d (.i .i64 u15),.o 0,.o 1]),(6,.xrow 158 (XC.rr (4:Nat) z0.2.1.2)),(5,.xrow 157 (XC.ff .f32 z0.1)),(1,.xext (XC.rr (4:Nat) u12)),(0,.xext (XC.ff .f32 u11))],7⟩
 ⟨[(1,.w (.c (.p 2 0 1 0))),(2,.w (.c (.p 3 0 1 0))),(3,.w (.c (.p 4 0 1 0))),(5,.w (.c (.d (.i .i64 z0.2.1.1))))],[(4,.box 78 [.d (.i .i64 u15),.o 5,.o 11]),(3,.box 78 [.d (.i .i64 0),.d (.v (zx none (0:Nat) (0:Nat))),.d (.v (zx none (0:Nat) (0:Nat)))]),(2,.box 78 [.d (.i .i64 u15),.o 0,.o 1]),(11,.xrow 158 (XC.rr (4:Nat) (z0.2.1.2++qt (fun r=>NC.toRecs (zA r (NC.d (D.v zJ)))) [[NC.r (Cont.recs (za [D.i .i64 0,D.i .i64 0,D.i .i64 0,D.i .i64 0]) ([]++zb u12 z0.2.1.1.toNat []))]]))),(5,.xrow 157 (XC.ff .f32 z0.1)),(1,.xext (XC.rr (4:Nat) u12)),(0,.xext (XC.ff .f32 u11))],12⟩
 (((za z0.2.1.2+za (qt (fun r=>NC.toRecs (zA r (NC.d (D.v zJ)))) [[NC.r (Cont.recs (za [D.i .i64 0,D.i .i64 0,D.i .i64 0,D.i .i64 0]) ([]++zb u12 z0.2.1.1.toNat []))]]))*24<=140737488355328∧za z0.2.1.2+za (qt (fun r=>NC.toRecs (zA r (NC.d (D.v zJ)))) [[NC.r (Cont.recs (za [D.i .i64 0,D.i .i64 0,D.i .i64 0,D.i .i64 0]) ([]++zb u12 z0.2.1.1.toNat []))]])<=9223372036854775807)∧((0+za (zb u12 z0.2.1.1.toNat []))*32<=140737488355328∧0+za (zb u12 z0.2.1.1.toNat [])<=9223372036854775807)∧(zf z0.2.1.1<za u12)∧(0<=z0.2.1.1∧z0.2.1.1<(↑u12.length:Int))∧True)
def jj4 (u15:Int) (u11:List (List Nat)) (u12:List (List (List Int))) (r:Int × List (List Nat) × List (List (List Int))) (z0:(List (List Nat) × (Int × List (List (List Int))) × Nat)):jfP u15 u11 u12 r z0:=fun h =>
 have t:=trivial;have e:Ob True:=⟨trivial⟩
 have q4:=oR ((0:Nat));have q5:=oR (z0.2.1.1);have q6:=oR (u15);have q7:=oR ((0:Int));have q8:=oR (zx none (0:Nat) (0:Nat));have q9:=oR (z0.2.1.2++qt (fun r=>NC.toRecs (zA r (NC.d (D.v zJ)))) [[NC.r (Cont.recs (za [D.i .i64 0,D.i .i64 0,D.i .i64 0,D.i .i64 0]) ([]++zb u12 z0.2.1.1.toNat []))]]);have q10:=oR (z0.1);have q11:=oR (u12);have q12:=oR (u11);have q3:Ob _:=⟨h.1⟩
 have q2:Ob _:=⟨h.2.1⟩
 have q1:Ob _:=⟨h.2.2.1⟩
 have q0:Ob _:=⟨h.2.2.2.1⟩
 have s0:=ai (ai e (ai (ai q3 (ai (ai e (ai (ai e (ai q4 (ai q4 (ai q4 (ai q5 (ai q6 (ai q7 (ai q8 (ai q8 (ai q6 (ai q9 (ai q10 (ai q11 (ai q12 t)))))))))))))) t)) t)) t)) t;have s1:=ai (ai q2 s0) t;have s2:=ai (ai q1 s1) t;have s3:=ai e (ai (ai q0 s2) t);have s4:=ai e (ai s3 t);have s5:=ai e s2;have s6:=ai e s1;have s7:=ai s6 t;have s8:=ai s5 (ai (ai q1 s7) t);have s9:=ai e (ai s3 (ai (ai q0 s8) t));have s10:=ai e s0;have s11:=ai s6 (ai (ai q2 (ai s10 (ai s10 t))) t);have s12:=ai s5 (ai (ai q1 s11) t);have s13:=ai e (ai s3 (ai (ai q0 s12) t));have s14:=ai e (ai e (ai e (ai (ai e (ai s4 (ai s9 t))) (ai (ai e (ai s4 (ai s13 t))) (ai (ai e (ai s9 (ai s13 (ai (ai q0 (ai (ai e s8) (ai (ai e s12) (ai (ai q1 (ai (ai e s7) (ai (ai e s11) t))) t)))) t)))) t)))))
 @js _ _ (by kernel_rfl) s14
def sp_54_ok:KO sp_54:=jag (kL [(16,[1,2,3,4],[1,2,3,4],[0,3,5]),(35,[1,2,3,5],[1,2,3,5],[0,3,5])] jaf Tryz.func54 (by kernel_rfl) fun ls t h ho=>by
 unfold jhI at h;split at h
 ·rename_i u15 u11 u12;cases h;have ho:=jad ho
  generalize val (y5 u15 u11 u12)=r at ho ⊢
  let l0:=lp0 (y91 u11) (y206 u15 u12) r fun z=>⟨[(1,.w (.c (.p 2 0 1 0))),(2,.w (.c (.p 3 0 1 0))),(3,.w (.c (.p 4 0 1 0))),(4,.w (.c (.d (.i .i64 z.1.1))))],[(2,.box 78 [.d (.i .i64 u15),.o 0,.o 1]),(3,.box 78 [.d (.i .i64 0),.d (.v (zx none (0:Nat) (0:Nat))),.d (.v (zx none (0:Nat) (0:Nat)))]),(4,.box 78 [.d (.i .i64 u15),.o 5,.d (.v (zx none (0:Nat) (0:Nat)))]),(0,.xext (XC.ff .f32 u11)),(1,.xext (XC.rr (4:Nat) u12)),(5,.xrow 157 (XC.ff .f32 z.1.2))],6⟩
  let l1:Lp (List (List Nat) × (Int × List (List (List Int))) × Nat) ((Int × List (List (List Int)))) ((List (List (List Int)))) ((Int × List (List Nat) × List (List (List Int)))) (Int × List (List Nat) × List (List (List Int))):=⟨fun z=>z.2.1,fun z=>z.2.2,fun z x n=>(z.1,x,n),fun z=>y92 u12,fun z=>jgW u15 z.1,fun z=>top r,fun z=>0,fun z=>⟨[(1,.w (.c (.p 2 0 1 0))),(2,.w (.c (.p 3 0 1 0))),(3,.w (.c (.p 4 0 1 0))),(5,.w (.c (.d (.i .i64 z.2.1.1))))],[(2,.box 78 [.d (.i .i64 u15),.o 0,.o 1]),(3,.box 78 [.d (.i .i64 0),.d (.v (zx none (0:Nat) (0:Nat))),.d (.v (zx none (0:Nat) (0:Nat)))]),(4,.box 78 [.d (.i .i64 u15),.o 5,.o 6]),(0,.xext (XC.ff .f32 u11)),(1,.xext (XC.rr (4:Nat) u12)),(5,.xrow 157 (XC.ff .f32 z.1)),(6,.xrow 158 (XC.rr (4:Nat) z.2.1.2))],7⟩⟩
  exact⟨by kernel_rfl,(fun _ id _=>match id with
   |0=>l0.li
   |2=>l1.li
   |_=>none),Sk.vd ho ((.loopQ (l0) [.c fun _=>0,.c fun _=>0,.c fun _=>0,.c fun vv=>vv.1.1,.c fun _=>u15,.c fun _=>(0:Int),.c fun _=>zx none (0:Nat) (0:Nat),.c fun _=>zx none (0:Nat) (0:Nat),.c fun _=>u15,.c fun _=>zx none (0:Nat) (0:Nat),.c fun _=>u11,.c fun _=>u12,.p fun vv=>za vv.1.2=(0:Nat)] (fun kk=>(((0:Int),[]),big)) (fun z0 =>
   .br
   (.ob (.ob (.ob (.ob (.obC (jfO u15 u11 u12 r z0) (jj3 u15 u11 u12 r z0) (.next))))))
   (.exit (.loopQ (l1) [.c fun _=>0,.c fun _=>0,.c fun _=>0,.c fun vv=>vv.2.1.1,.c fun _=>u15,.c fun _=>(0:Int),.c fun _=>zx none (0:Nat) (0:Nat),.c fun _=>zx none (0:Nat) (0:Nat),.c fun _=>u15,.c fun _=>u11,.c fun _=>u12,.c fun vv=>vv.1,.p fun vv=>za vv.2.1.2=(0:Nat)] (fun kk=>(z0.1.2,((0:Int),[]),big)) (fun z0 =>
   .br
   (.ob (.ob (.ob (.ob (.obC (jfP u15 u11 u12 r z0) (jj4 u15 u11 u12 r z0) (.next))))))
   (.exit (.obT (.rc)))) (fun _=>⟨rfl,trivial⟩)))) (fun _=>⟨rfl,trivial⟩))) (by kernel_rfl)⟩
 ·cases h)
attribute [irreducible] y5
end Go.Sh
end

section
namespace Go.Sh
open Go Go.Proofs Go.RowKit Go.Sx Go.Sx06
variable {g:List (List NC)} {l:List Int}
def jAu {x:List Int} (hl:x.length<1000) (h:∀k,k<x.length->x.getD k 0=0):jcH x=some 0:=by
 have hit:jae (y94 x) big 0=some (.inr ()):=jat (body:=y94 x) (fun i=>(i:Int)) (k:=x.length) (fun i hi=>by
  unfold y94;rw[if_pos (by omega),if_pos (by omega),zg,if_pos hi,h i hi,if_neg (by simp),jai (by omega)];rfl) (by unfold y94;rw[if_neg (by omega)]) (by omega)
 unfold jcH;rw[hit];rfl
def jAv {r:List Nat} {n:Nat} (hl:r.length=n) (h:∀j,j<n->se (r.getD j 0)=0):ja7 r=0:=jrw fun b hb=>by
 obtain⟨j,hj,rfl⟩:=xF hb;rw[<-jan (d:=0) hj];exact h j (by omega)
def jAw (h:Rg g l) {P:List (List Nat)} {fs:List (List (List Int))} (hP:PR g.length P) (hF:FR g fs):y39 g P fs=some true:=by
 have hn:=h.n;have h1:=hP.1;have h2:=hF.1
 have hit:jae (y32 g P fs) big 0=some (.inr ()):=jat (body:=y32 g P fs) (fun i=>(i:Int)) (k:=g.length) (fun i hi=>by
  have e1:=(hP.2 i hi).1;have e2:=(jl2 (hF.2 i hi)).1;unfold y32;simp only[zg,e1,e2];rw[if_pos (by omega),if_pos (by omega),if_pos hi,if_pos (by omega),if_pos (by omega),if_neg (by simp),if_pos (by omega),if_pos (by omega),if_neg (by simp),jai (by omega)];rfl) (by unfold y32;rw[if_neg (by omega)]) (by omega)
 unfold y39;rw[if_neg (by simp;omega),if_neg (by simp;omega),hit];rfl
def jwB (h:Rg g l) {P:List (List Nat)} {fs:List (List (List Int))} (hP:PR g.length P) (hF:FR g fs) {b:Int} (hb:0<=b∧b<=16):y47 g b P fs=some 0:=by
 have hn:=h.n;have h1:=hP.1;have h2:=hF.1
 have hz:∀(c s:List (List Int)),ja5 c=0->(csS c s).2=0->∃r,jdd c Z32 s=some r∧r.2.2.2=0:=fun c s hc hs =>
  ⟨_,jqk hc hs (x:=zh 32 0) (by simp) (fun y hy=>by rw[List.eq_of_mem_replicate hy];unfold inR;omega),rfl⟩
 have hit:jae (y59 g P fs) big 0=some (.inr ()):=jat (body:=y59 g P fs) (fun i=>(i:Int)) (k:=g.length) (fun i hi=>by
  obtain⟨e1,e2⟩:=hP.2 i hi;obtain⟨r,hr,hr0⟩:=hz _ _ (h.unit hi).ca (hF.2 i hi);unfold y59;simp only[zg];rw[if_pos (by omega),if_pos (by omega),if_pos hi,if_pos (by omega),if_pos (by omega),jiY (by omega),jaa,jAv e1 e2,if_neg (by simp),if_pos (by omega),if_pos (by omega)]
  show ze (jdd (nR g i 6) Z32 (fs.getD i [])) _=_
  rw[hr,jaa,hr0,if_neg (by simp),jai (by omega)];rfl) (by unfold y59;rw[if_neg (by omega)]) (by omega)
 have hw:inB b 0 16=true:=by rw[jdE];exact hb
 unfold y47;rw[jbl,hw];simp only[jaa,jff,jAw h hP hF,if_true];rw[jAu (by simp) (fun k hk=>by match k,hk with|0,_=>rfl|1,_=>rfl),jaa,if_neg (by simp),hit];rfl
structure AscU (n:Nat) (x:List Int):Prop where
 len:x.length<100000
 rng:∀k,k<x.length->0<=x.getD k 0∧x.getD k 0<(n:Int)
 asc:∀k,k+1<x.length->x.getD k 0<x.getD (k+1) 0
def jvN (hn:g.length<1000) {x:List Int} (hx:AscU g.length x):y33 g x=some 0:=by
 have hl:=hx.len
 have hit:jae (y49 g x) big 0=some (.inr ()):=jat (body:=y49 g x) (fun i=>(i:Int)) (k:=x.length) (fun i hi=>by
  obtain⟨r1,r2⟩:=hx.rng i hi;have hw:inB (x.getD i 0) 0 ((g.length:Int)-1)=true:=by rw[jdE];omega
  unfold y49;simp only[zg];rw[if_pos (by omega),if_pos (by omega),if_pos hi,jai (x:=(g.length:Int)-1) (by omega),jbl,hw,jaa,if_neg (by simp)]
  by_cases h0:(i:Int)>0
  ·have e:=hx.asc (i-1) (by omega);rw[show i-1+1=i by omega]at e;have e2:((i:Int)-1).toNat=i-1:=by omega
   rw[if_pos h0,jai (x:=(i:Int)-1) (by omega),e2,if_pos (by omega),if_pos (by omega),if_neg (by omega),jai (by omega)];rfl
  ·rw[if_neg h0,jai (by omega)];rfl) (by unfold y49;rw[if_neg (by omega)]) (by omega)
 unfold y33;rw[hit];rfl
def jBZ {n:Nat} (hn:n<1000) {x:List Int} (hx:AscU n x):jae (jef x) big (0,zh n false)=some ((zm n).map fun i=>jaL x i):=by
 have hl:=hx.len
 have hit:=jat (body:=jef x) (fun k=>((k:Int),(zm n).map fun i=>jaL (x.take k) i)) (y:=(zm n).map fun i=>jaL x i) (k:=x.length) (fun i hi=>by
  obtain⟨r1,r2⟩:=hx.rng i hi;obtain⟨u,hu⟩:∃u:Nat,x.getD i 0=(u:Int):=⟨(x.getD i 0).toNat,by omega⟩
  unfold jef;simp only[zg,hu,qh,x7];rw[if_pos (by omega),if_pos (by omega),if_pos hi,if_pos (by omega),if_pos (by omega),jhy,jai (by omega),jdv hi 0,hu]
  congr 4
  funext j;unfold jaL;rw[List.any_append]
  by_cases hj:j=u
  ·subst hj;simp
  ·rw[if_neg hj];have:((u:Int)==(j:Int))=false:=by rw[beq_eq_false_iff_ne];omega
   simp[this]) (by
  unfold jef;dsimp only;rw[if_neg (by omega),yk]) (by omega)
 have e0:(zh n false:List Bool)=(zm n).map fun i=>jaL (x.take 0) i:=by
  rw[show(fun i=>jaL (x.take 0) i)=fun _=>false from rfl,List.map_const',x7]
 rw[e0];exact hit
def jC8 (h:Rg g l) {nm:ByteArray} (hs:nm.size<1000) (h0:(cg nm g).2=0) {P:List (List Nat)} {fs:List (List (List Int))} {B:List (List Nat)} (hP:PR g.length P) (hF:FR g fs) (hB:BR g B) {b:Nat} (hb:b<16) {x:List Int} (hx:AscU g.length x) :
  jbu nm g b P fs B x=some ((jbE g l (jaL x) P fs B).1,(jbE g l (jaL x) P fs B).2.1,((b+1:Nat):Int),(jbE g l (jaL x) P fs B).2.2.1,(jbE g l (jaL x) P fs B).2.2.2,0):=by
 have hn:=h.n;obtain⟨o1,o2⟩:=jj1 h hs h0;have hBl:=hB.1;have hk0:=jdw g 0 g.length;have hk:B.length<1000:=by rw[hBl];unfold jaJ;omega
 have hb32:∀y∈B,y.length=32:=fun y hy=>by
  obtain⟨c,hc,rfl⟩:=xF hy;rw[<-jan (d:=[]) hc];exact(hB.2 c hc).1
 have hbe:blE B=0:=jAr fun y hy=>by
  obtain⟨c,hc,rfl⟩:=xF hy;rw[<-jan (d:=[]) hc];exact jAv (hB.2 c hc).1 (hB.2 c hc).2
 have hw:=jqn h (jaL x);obtain⟨hR,_⟩:=je4 h hP hF hB hw g.length (zp _)
 have hwho:jcy g (fun i=>((zm g.length).map fun i=>jaL x i).getD i false)=jcy g (jaL x):=by
  congr 1
  funext i
  by_cases hi:i<g.length
  ·rw[jbP _ hi]
  ·have:jaL x i=false:=by
    unfold jaL;rw[xC];intro y hy;obtain⟨k,hk,rfl⟩:=xF hy;have:=(hx.rng k hk).2;rw[jan hk]at this;simp;omega
   rw[this];simp only[zb];rw[List.getElem?_eq_none (by simp;omega)];rfl
 have hrun:=jxv h hP hF hB hw;unfold jbu jdN jbq jav;rw[o1,o2,if_neg (by simp)];simp only[qk,jaa,jwB h hP hF (b:=(b:Int)) (by omega),jff,jgb hn,jku (l:=B) (by omega) hb32,hbe,jvN hn hx]
 rw[decide_eq_true (by omega),show(((B.length:Nat):Int)==(((jaJ g 0).length:Nat):Int))=true by rw[hBl];simp,if_pos rfl,jAu (by simp) (fun k hk=>by match k,hk with|0,_=>rfl|1,_=>rfl|2,_=>rfl|3,_=>rfl|4,_=>rfl),jaa,if_neg (by simp),if_pos ⟨by omega,by trivial,by omega,by omega⟩,zg,jBZ hn hx,jaa]
 unfold jmn;rw[jn3 h nm _ (by simp),jaa,hwho];unfold jcJ at hrun;obtain⟨y,hy,hy2⟩:=zK.1 hrun
 have hy3:y=(gw (jaM g P fs B (jcy g (jaL x)) l g.length).1,(jaM g P fs B (jcy g (jaL x)) l g.length).2.1,(jaM g P fs B (jcy g (jaL x)) l g.length).2.2):=by
  unfold jjY at hy2;exact yf hy2
 have hy4:jae (jml g P fs B l ((b:Int),jcy g (jaL x),zh g.length Z32,zh g.length [],zh g.length 0)) big ((0:Int),zh g.length Z32,zh g.length [],zh g.length 0)=some y:=hy;dsimp only;rw[hy4,jaa,hy3];unfold jmm;dsimp only;rw[jvw hR.gr hn,jaa,jqm hn hR.cl hR.cr,jaa,jsG hP hR.gr hn,jaa,jai (by omega)];rfl
end Go.Sh
end

section
namespace Go.Sh
open Go Go.Proofs Go.RowKit Go.Sx Go.Sx06
variable {g:List (List NC)} {l:List Int}
def jwC {t:List (List (List Nat))}:jmi t=some false∨(jmi t=some true∧t.length<=10∧∀r∈t,r.length<=18):=by
 unfold jmi;have hB:∀n:Nat,(decide (4<n)&&(decide (n<=16)||decide (18<n)))=true<->4<n∧(n<=16∨18<n):=fun n=>by simp
 by_cases h:t.length<=10
 ·rw[if_neg (by omega)]
  have key:∀i,i<t.length->jrI t (i:Int)=if(decide (4<(t.getD i []).length)&&(decide ((t.getD i []).length<=16)||decide (18<(t.getD i []).length)))=true then some (.inr (.inl ()))else some (.inl ((i:Int)+1)):=fun i hi=>by
   unfold jrI;simp only[zg];rw[if_pos (by omega),if_pos (by omega),if_pos hi,jai (by omega)]
   by_cases c1:4<(t.getD i []).length
   ·rw[if_pos (by omega),if_pos (by omega),if_pos hi]
    by_cases c2:(t.getD i []).length<=16
    ·rw[if_pos (by omega),if_pos ((hB _).2 (by omega))]
    ·rw[if_neg (by omega),if_pos (by omega),if_pos hi]
     by_cases c3:18<(t.getD i []).length
     ·rw[if_pos (by omega),if_pos ((hB _).2 (by omega))]
     ·rw[if_neg (by omega),if_neg (fun h=>absurd ((hB _).1 h) (by omega))]
   ·rw[if_neg (by omega),if_neg (fun h=>absurd ((hB _).1 h) (by omega))]
  rw[jb0 t [] (fun r=>decide (4<r.length)&&(decide (r.length<=16)||decide (18<r.length))) (body:=jrI t) (.inl ()) (.inr ()) (by omega)
   (fun i hi hp=>by rw[key i hi,if_pos hp]) (fun i hi hp=>by rw[key i hi,if_neg (by rw[hp];simp)]) (by unfold jrI;rw[if_neg (by omega)]),jaa]
  by_cases hany:(t.any fun r=>decide (4<r.length)&&(decide (r.length<=16)||decide (18<r.length)))=true
  ·rw[if_pos hany];exact .inl rfl
  ·rw[if_neg hany];refine .inr ⟨rfl,h,fun r hr=>?_⟩;rw[gj,xC]at hany;have:=hany r hr;simp only[zk,Bool.or_eq_true,decide_eq_true_eq]at this;omega
 ·rw[if_pos (by omega)];exact .inl rfl
def jwD {t:List (List (List Nat))} (hl:t.length<=10) (hr:∀r∈t,r.length<=18):y13 t=some t:=by
 have hrec:∀(n:Nat) (x:List (List Nat)),qt (fun r=>NC.toFrs (zA r (NC.d (D.v zJ)))) [[NC.r (Cont.frs FloatKind.f32 n x)]]=[x]:=fun n x=>rfl
 have hit:jae (jrM t) big (0,[])=some t:=by
  have:=je1 t [] (fun r=>r) (body:=jrM t) (by omega) (fun i hi o ho=>by
   have h1:=hr (t.getD i []) (by rw[jan hi];exact zW hi);unfold jrM;simp only[hrec,zg,qS];rw[if_pos (by omega),if_pos (by omega),if_pos hi,if_pos (by omega),if_pos (by simp only[zB,qe];omega),jai (by omega)]) (fun o=>by
   unfold jrM;dsimp only;rw[if_neg (by omega)])
  rw[g6]at this;exact this
 unfold y13;rw[hit];rfl
def jhJ (a:List Nat) (ha:a.length<1000000):jmf a a=some true:=by
 have hit:jae (jrH a a) big 0=some (.inr ()):=jat (body:=jrH a a) (fun i=>(i:Int)) (k:=a.length) (fun i hi=>by
  unfold jrH;rw[if_pos (by omega),if_pos (by omega),if_pos (by omega),if_pos (by omega),if_pos (by omega),if_neg (by simp),jai (by omega)];rfl) (by unfold jrH;rw[if_neg (by omega)]) (by omega)
 unfold jmf;rw[if_neg (by simp),hit];rfl
def jjc {a:List Nat} (ha:a.length=32):jmg a a=some true:=by
 unfold jmg;rw[if_pos ⟨ha,by decide⟩,if_pos ⟨ha,by decide⟩,List.drop_zero,List.take_of_length_le (by omega),jhJ a (by omega)];rfl
def jCt {a:List (List Nat)} (hl:a.length<1000000) (ha:∀b∈a,b.length=32):jgQ a a=some true:=by
 have hit:jae (jvG a a) big 0=some (.inr ()):=jat (body:=jvG a a) (fun i=>(i:Int)) (k:=a.length) (fun i hi=>by
  unfold jvG;rw[if_pos (by omega),if_pos (by omega),if_pos (by omega),if_pos (by omega),if_pos (by omega),zg,jjc (ha _ (by rw[jan hi];exact zW hi)),jaa,if_neg (by simp),jai (by omega)];rfl) (by unfold jvG;rw[if_neg (by omega)]) (by omega)
 unfold jgQ;rw[if_neg (by simp),hit];rfl
def jxy (kind:Int):jaJ (cpU g) kind=jaJ g kind:=by
 have:(fun i=>nI (cpU g) i 1==kind)=fun i=>nI g i 1==kind:=by
  funext i;rw[(cpI i).1]
 unfold jaJ jgM;rw[jcu,this]
end Go.Sh
end

section
namespace Go.Sh
open Go Go.Proofs Go.RowKit Go.Sx Go.Sx06
open Go.IntKind (wrap)
variable {g:List (List NC)} {l:List Int}
def jAx (h:Rg g l) {nm:ByteArray} (hs:nm.size<1000) (h0:(cg nm g).2=0):je5 nm g=some (0,P0 g.length,fs0 g,0):=by
 obtain⟨o1,o2⟩:=jj1 h hs h0;unfold je5 jdN jbq jav;rw[o1,o2,if_neg (by simp)];simp only[qk,jaa,jvy h]
def jAy (h:Rg g l):jj2 g=some (0,P0 g.length,fs0 g):=by
 have hn:=h.n;have hrec:∀x:List Nat,qt (fun r=>NC.toFlts (zA r (NC.d (D.v zJ)))) [[NC.r (Cont.floats FloatKind.f32 x)]]=[x]:=fun x=>rfl;have hrec2:∀x:List (List Int),qt (fun r=>NC.toRecs (zA r (NC.d (D.v zJ)))) [[NC.r (Cont.recs (za [D.i qP (0:Int),D.i qP (0:Int),D.i qP (0:Int),D.i qP (0:Int)]) x)]]=[x]:=fun x=>rfl
 have hit:jae (jrP g) big (0,[],[])=some (P0 g.length,fs0 g):=jat (body:=jrP g) (fun i=>((i:Int),zh i (zh 128 0),(zm i).map fun i=>zh (nR g i 6).length [0,0,0,0])) (k:=g.length) (fun i hi=>by
  have h6:=(je3 (h.unit hi).ca).1;unfold jrP;simp only[hrec,hrec2,zg];rw[if_pos (by omega),if_pos (by simp only[yc,zB,qe];omega),if_pos (by omega),if_pos hi,if_pos ⟨by omega,by trivial,by omega,by omega⟩,if_pos (by simp only[qh,x7,zB,qe];omega),jai (by omega),@List.range_succ i,xa,List.replicate_succ' (n:=i)];rfl) (by
  unfold jrP;dsimp only;rw[if_neg (by omega)];rfl) (by omega)
 unfold jj2;rw[hit];rfl
def jrQ {P:List (List Nat)} {fs:List (List (List Int))} (b:Int) (hl:P.length<1000) (hr:∀r∈P,r.length<100000) (hf:fs.length<1000) (hq:∀r∈fs,r.length<100000):jo0 b P fs b P fs=some true:=by
 have h1:jae (y89 P P) big 0=some (.inr ()):=jat (body:=y89 P P) (fun i=>(i:Int)) (k:=P.length) (fun i hi=>by
  have:=hr (P.getD i []) (by rw[jan hi];exact zW hi);unfold y89;simp only[zg];rw[if_pos (by omega),if_pos (by omega),if_pos hi,if_pos (by omega),if_pos hi,jhJ _ (by omega),jaa,if_neg (by simp),jai (by omega)];rfl) (by unfold y89;rw[if_neg (by omega)]) (by omega)
 have h2:jae (y63 fs fs) big 0=some (.inr ()):=jat (body:=y63 fs fs) (fun i=>(i:Int)) (k:=fs.length) (fun i hi=>by
  have hlen:=hq (fs.getD i []) (by rw[jan hi];exact zW hi)
  have h3:jae (y90 fs fs (i:Int)) big 0=some (.inr ()):=jat (body:=y90 fs fs (i:Int)) (fun i=>(i:Int)) (k:=(fs.getD i []).length) (fun j hj=>by
   unfold y90;simp only[zg];rw[if_pos (by omega),if_pos hi,if_pos (by omega),if_pos (by omega),if_pos hi,if_pos (by omega),if_pos hj,if_pos (by omega),if_pos hi,if_pos (by omega),if_pos hj,if_neg (by simp),jai (by omega)];rfl) (by unfold y90;simp only[zg];rw[if_pos (by omega),if_pos hi,if_neg (by omega)]) (by omega)
  unfold y63;simp only[zg];rw[if_pos (by omega),if_pos (by omega),if_pos hi,if_pos (by omega),if_pos hi,if_neg (by simp),h3,jaa]
  show some (Sum.inl (wrap qP ((i:Int)+1)))=_
  rw[jai (by omega)];rfl) (by unfold y63;rw[if_neg (by omega)]) (by omega)
 unfold jo0;rw[if_neg (by simp),if_neg (by simp),if_neg (by simp),h1]
 show ze (jae (y63 fs fs) big 0) _=_
 rw[h2];rfl
def jvO {P:List (List Nat)} {fs:List (List (List Int))} (b:Int) (hl:P.length<1000) (hr:∀r∈P,r.length<100000) (hf:fs.length<1000) (hq:∀r∈fs,r.length<100000):y5 b P fs=some (b,P,fs):=by
 have hrec:∀x:List Nat,qt (fun r=>NC.toFlts (zA r (NC.d (D.v zJ)))) [[NC.r (Cont.floats FloatKind.f32 x)]]=[x]:=fun x=>rfl;have hrec2:∀x:List (List Int),qt (fun r=>NC.toRecs (zA r (NC.d (D.v zJ)))) [[NC.r (Cont.recs (za [D.i qP (0:Int),D.i qP (0:Int),D.i qP (0:Int),D.i qP (0:Int)]) x)]]=[x]:=fun x=>rfl
 have h1:jae (y91 P) big (0,[])=some P:=by
  have:=je1 P [] (fun r=>r) (body:=y91 P) (by omega) (fun i hi o ho=>by
   have:=hr (P.getD i []) (by rw[jan hi];exact zW hi);unfold y91;simp only[hrec,zg,qS];rw[if_pos (by omega),if_pos (by omega),if_pos hi,if_pos (by omega),if_pos (by simp only[zB,qe];omega),jai (by omega)]) (fun o=>by
   unfold y91;dsimp only;rw[if_neg (by omega)])
  rw[g6]at this;exact this
 have h2:jae (y92 fs) big (0,[])=some fs:=by
  have:=je1 fs [] (fun r=>r) (body:=y92 fs) (by omega) (fun i hi o ho=>by
   have:=hq (fs.getD i []) (by rw[jan hi];exact zW hi);unfold y92;simp only[hrec2,zg,qS];rw[if_pos (by omega),if_pos (by omega),if_pos hi,if_pos (by omega),if_pos (by simp only[zB,qe];omega),jai (by omega)]) (fun o=>by
   unfold y92;dsimp only;rw[if_neg (by omega)])
  rw[g6]at this;exact this
 unfold y5;rw[h1,jaa];unfold y206;rw[h2];rfl
def jAz {n:Nat} {P:List (List Nat)} (hP:PR n P):∀r∈P,r.length<100000:=fun r hr=>by
 obtain⟨i,hi,rfl⟩:=xF hr;rw[<-jan (d:=[]) hi,(hP.2 i (by rw[<-hP.1];exact hi)).1];omega
def jAA (h:Rg g l) {fs:List (List (List Int))} (hF:FR g fs):∀r∈fs,r.length<100000:=fun r hr=>by
 obtain⟨i,hi,rfl⟩:=xF hr;rw[<-jan (d:=[]) hi];have:=jAm h hF (i:=i) (by rw[<-hF.1];exact hi);omega
def jsL {f:List (List Int)} {n:Nat} (hf:f.length<=24) (hz:∀i,i<f.length->jcZ n f i=0) (b:Int):∀u,u<=1000->AscU u (jaE f b u)
 |0,_=>⟨by simp[jaE],fun k hk=>by simp[jaE]at hk,fun k hk=>by simp[jaE]at hk⟩
 |u+1,hu=>by
  obtain⟨a1,a2,a3⟩:=jsL hf hz b u (by omega)
  have hI:jca f b u f.length=[]∨jca f b u f.length=[(u:Int)]:=by
   have hn:((zm f.length).filter fun i=>fU f i==(u:Int)&&decide (fB f i<=b)).length<=1:=by
    have hN:((zm f.length).filter fun i=>fU f i==(u:Int)&&decide (fB f i<=b)).Nodup:=List.nodup_range.filter _
    generalize hL:((zm f.length).filter fun i=>fU f i==(u:Int)&&decide (fB f i<=b))=L at hN
    match L,hN,hL with
    |[],_,_=>simp
    |[_],_,_=>simp
    |x::y::r,hN,hL =>
     exfalso;have mx:x∈(zm f.length).filter fun i=>fU f i==(u:Int)&&decide (fB f i<=b):=by rw[hL];simp
     have my:y∈(zm f.length).filter fun i=>fU f i==(u:Int)&&decide (fB f i<=b):=by rw[hL];simp
     simp only[List.mem_filter,qZ,zk,beq_iff_eq]at mx my;have hxy:x≠y:=fun e=>by subst e;simp at hN
     rcases Nat.lt_or_gt_of_ne hxy with c|c
     ·exact(jl5 (hz y my.1)).2 x c (by rw[mx.2.1,my.2.1])
     ·exact(jl5 (hz x mx.1)).2 y c (by rw[mx.2.1,my.2.1])
   unfold jca
   generalize ((zm f.length).filter fun i=>fU f i==(u:Int)&&decide (fB f i<=b))=L at hn
   match L,hn with
   |[],_=>exact .inl rfl
   |[_],_=>exact .inr rfl
  have hlen:=jl6 f b u;have hlen2:u*f.length<=1000*24:=Nat.mul_le_mul (by omega) hf
  show AscU (u+1) (jaE f b u++jca f b u f.length)
  rcases hI with e|e
  ·rw[e,yw];exact⟨a1,fun k hk=>⟨(a2 k hk).1,by have:=(a2 k hk).2;omega⟩,a3⟩
  ·rw[e]
   have hg:∀k,k<(jaE f b u).length->(jaE f b u++[(u:Int)]).getD k 0=(jaE f b u).getD k 0:=fun k hk=>by
    rw[jan (by simp;omega),jan hk,List.getElem_append_left hk]
   have hl:(jaE f b u++[(u:Int)]).getD (jaE f b u).length 0=(u:Int):=by
    rw[jan (by simp)];simp
   refine⟨by simp;omega,fun k hk=>?_,fun k hk=>?_⟩
   ·by_cases hk2:k<(jaE f b u).length
    ·rw[hg k hk2];exact⟨(a2 k hk2).1,by have:=(a2 k hk2).2;omega⟩
    ·obtain rfl:k=(jaE f b u).length:=by simp at hk;omega
     rw[hl];omega
   ·by_cases hk2:k+1<(jaE f b u).length
    ·rw[hg k (by omega),hg _ hk2];exact a3 k hk2
    ·have e2:k+1=(jaE f b u).length:=by simp at hk;omega
     rw[hg k (by omega),e2,hl];exact(a2 k (by omega)).2
end Go.Sh
end

section
namespace Go.Sh
open Go Go.Proofs Go.RowKit Go.Sx
set_option maxRecDepth 100000
def jik:List SV:=[]
def jfv:Option (ByteArray × List (List NC)) :=some ((xd #[(112:UInt8)],[[NC.d (D.s (xd #[(109:UInt8),(105:UInt8),(99:UInt8)])),NC.d (D.i .i64 0),NC.r (Cont.ints .i64 []),NC.r (Cont.ints .i64 []),NC.r (Cont.ints .i64 []),NC.d (D.i .i64 0),NC.r (Cont.recs (5:Nat) []),NC.d (D.i .i64 (-1:Int))],[NC.d (D.s (xd #[(100:UInt8)])),NC.d (D.i .i64 2),NC.r (Cont.ints .i64 [(0:Int)]),NC.r (Cont.ints .i64 [(0:Int)]),NC.r (Cont.ints .i64 []),NC.d (D.i .i64 3),NC.r (Cont.recs (5:Nat) []),NC.d (D.i .i64 (-1:Int))],[NC.d (D.s (xd #[(109:UInt8),(105:UInt8),(120:UInt8)])),NC.d (D.i .i64 1),NC.r (Cont.ints .i64 [(0:Int),1]),NC.r (Cont.ints .i64 [(0:Int),0]),NC.r (Cont.ints .i64 [(500:Int),1000]),NC.d (D.i .i64 0),NC.r (Cont.recs (5:Nat) []),NC.d (D.i .i64 (-1:Int))],[NC.d (D.s (xd #[(111:UInt8),(117:UInt8),(116:UInt8)])),NC.d (D.i .i64 4),NC.r (Cont.ints .i64 [(2:Int)]),NC.r (Cont.ints .i64 [(0:Int)]),NC.r (Cont.ints .i64 []),NC.d (D.i .i64 0),NC.r (Cont.recs (5:Nat) []),NC.d (D.i .i64 (-1:Int))]]))
def jwE (r:ByteArray × List (List NC)):Sk (top r) (jfv) :=.obT (.rc)
def jvP (r:ByteArray × List (List NC)) (h:ze (jfv) some=some r):jqP Tryz.f75 (sp0) (fun _ _ _=>none) (jdV jik []) [.s [.d (.s r.1),.x 118 (.st (zS) r.2)]] :=Sk.vc (jwE r) (by kernel_rfl) h
attribute [irreducible] jfv
def jtu:List SV:=[.c (.d)]
def jo4 (n:Int):Option (List Nat) :=some (jeE (32:Nat) zO (0:Nat) (qw .f32 (if(if n<32767 then n else(32767:Int))>(-32767:Int)then if n<32767 then n else(32767:Int)else(-32767:Int))))
def jkz:List Lf->Option GT|[.d (.i .i64 n)]=>some (.leaf (ok (jo4 n)) [.b 32 (.f .f32 ((val (jo4 n))))])|_=>none
abbrev sp_74:jab->jab:=jal 74 true (jak jtu jkz)
def sp_74_ok:KO sp_74:=jag (kT jaf Tryz.func74 (by kernel_rfl) fun ls t h ho=>by
 unfold jkz at h;split at h
 ·rename_i n;cases h;have ho:=jad ho
  generalize val (jo4 n)=r at ho ⊢
  exact⟨by kernel_rfl,fun _ _ _=>none,Sk.vd ho (.obT (.obC ((0:Int)<=0∧(0:Int)<32) (by decide) (.obC ((0:Nat)<32) (by decide) (.obT (.obT (.obT (.ret (fun r=>(Ob (r=jeE (32:Nat) zO (0:Nat) (qw .f32 (if(if n<32767 then n else(32767:Int))>(-32767:Int)then if n<32767 then n else(32767:Int)else(-32767:Int)))) ∧
 True)) ⟨⟨rfl⟩,trivial⟩))))))) (by kernel_rfl)⟩
 ·cases h)
attribute [irreducible] jo4
end Go.Sh
end

section
namespace Go.Sh
open Go Go.Proofs Go.RowKit Go.Sx
set_option maxRecDepth 100000
def jmW:ByteArray:=(val jfv).1
def jmX:List (List NC):=(val jfv).2
def jyT (fr:zY) (fs:List (List NC)):List Lf->Option GT|[]=>some (.leaf True [.s [.d (.s fr),.x 118 (.st (zS) fs)]])|_=>none
abbrev sp_75v (fr:zY) (fs:List (List NC)):jab->jab:=jal 75 true (jak jik (jyT fr fs))
def jtv:jaF Tryz.prog 75 true (jak jik (jyT jmW jmX)):=by
 refine jjP (sp:=sp0) (fn:=Tryz.f75) (body:=bodyOf Tryz.f75) mixed jaf Tryz.func75 (by kernel_rfl) (by kernel_rfl) fun ls t h ho b hb=>?_;unfold jyT at h;split at h
 ·cases h;obtain rfl:=jeu hb;exact⟨zQ (by kernel_rfl),_,_,jvP (jmW,jmX) (by kernel_rfl)⟩
 ·cases h
def sp_75v_ok {sp:jab} (h:jam Tryz.prog sp):jam Tryz.prog (sp_75v jmW jmX sp):=jch jtv h
end Go.Sh
end

section
namespace Go.Sh
open Go Go.Proofs Go.RowKit Go.Sx Go.Sx09
abbrev shV:List NK:=zS
abbrev tsV:List Nat:=[0,0,3,3,3,0,148,0]
def cnB:jn:=Sx09.bodyOf Tryz.f135
def cnO (j:Nat):qu:=((jhw (Sx09.sub [1,1,0] cnB)).getD []).getD j default
def jqu:Op->Call| .call c=>c|_=>default
def jAB {P:zP} {o:qu} {a:Act} {w w':zr} {v:zs} {K:Act->zr->Prop} {Q:Exit->Act->zr->Prop} (h:(xg a.eval o).run P w=.ok (.value v) w') (hK:K (a.put o.dst v) w'):o.wp P a w K Q:=by
 unfold Oper.wp;rw[h];exact hK
def jyU {P:zP} {w:zr} {o:qu} {ev:zZ->zs} {x:zZ} {v:zs} (h1:o.op=.assign x) (h2:ev x=v):(xg ev o).run P w=.ok (.value v) w:=by
 unfold xg;rw[h1];simp[h2]
def jwF {P:zP} {w w':zr} {o:qu} {c:Call} {ev:zZ->zs} {s x:zZ} {t:qI} {v xv v':zs} (hop:o.op=.call c) (hcal:c.callee=.builtin .append) (hargs:c.args=#[s,x]) (hts:c.argTypes=#[t,t])
  (h1:ev s=v) (h2:ev x=xv) (hrun:(Builtin.append_ #[t,t] o.type #[v,xv]).run P w=.ok v' w'):(xg ev o).run P w=.ok (.value v') w':=by
 unfold xg;simp only[hop,hcal,resolve,hargs,hts,List.map_toArray,zL,xp,Sem.run_bind,Sem.run_pure,Result.andThen_ok,invoke,builtin,h1,h2,hrun]
abbrev cV (v:zs):V:=.w (.c (.d (.v v)))
def cnA (v:zs):St:=⟨[(3,cV v),(2,cV (.slice none 0 0)),(0,cV v)],[],0⟩
def cnD (v:zs):St:=⟨[(6,cV v),(5,.w (.c (.o 0))),(4,vb false),(3,cV v),(2,cV (.slice none 0 0)),(0,cV v)],[(0,.xrow 118 (.st shV []))],1⟩
abbrev jyV (c:jn) (st:St) (k:Ex->St->Prop):Prop:=sx Tryz.prog sp0 8 0 1 (fun _ _ _=>none) (jcs Tryz.prog sp0 8) c 0 [] st k
def cn1 (v:zs):jyV (Sx09.sub [0] cnB) ⟨jbo 0 [cV v],[],0⟩ fun ex st=>ex=.normal∧jju Tryz.prog sp0 8 (cl1 Tryz.f135) st fun st=>st=cnA v:=by
 refine js (by kernel_rfl:(Ex.normal=Ex.normal∧cnA v=cnA v)=_) ⟨rfl,rfl⟩
def cn2 (v:zs):jyV (.seq (Sx09.sub [1,0,1] cnB) (Sx09.sub [1,1] cnB)) ((cnA v).put (some 4) ⟨True,vb true,[],0⟩) (jbN Tryz.prog Tryz.f135.results.toList fun v _ _=>v=cV (.slice none 0 0)):=by
 refine js (by kernel_rfl:(Ob True∧cV (.slice none 0 0)=cV (.slice none 0 0))=_) ⟨⟨trivial⟩,rfl⟩
def cn3 (v:zs):jyV (Sx09.sub [1,0,1] cnB) ((cnA v).put (some 4) ⟨True,vb false,[],0⟩) fun ex st=>ex=.normal∧jju Tryz.prog sp0 8 (cnO 0) st fun st=>jju Tryz.prog sp0 8 (cnO 1) st fun st=>st=cnD v:=by
 refine js (by kernel_rfl:(Ex.normal=Ex.normal∧cnD v=cnD v)=_) ⟨rfl,rfl⟩
set_option maxHeartbeats 2000000 in
def jB0 {w:zr} {v0:zs} {aa:Option Addr} {m cap:Nat} (hv:v0=.slice aa m cap) (us:List zs) (hus:us.length=m*8) (hone:∀u∈us,u.oneCell'=true) (hnil:aa=none->m=0)
  (hcell:∀ad,aa=some ad->∀j u,us[j]?=some u->w.cell? (ad.add j)=some u) (hb:m*136<=140737488355328) :
  Calls Tryz.prog 135 #[v0] w fun e w'=>∃v',e=.returned v'∧w'.ownsRow 0 118 8 v' m us∧yn w.heap.size w w'∧∀k,v'.ownBlock=some k->w.heap.size<=k:=by
 refine calls_of_wp (c:=cnB) Tryz.func135 (by kernel_rfl) ?_;have hB:cnB=.seq (Sx09.sub [0] cnB) (.seq (.seq (Sx09.sub [1,0,0] cnB) (Sx09.sub [1,0,1] cnB)) (.seq (Sx09.sub [1,1,0] cnB) .ret)):=by kernel_rfl
 have hD:Sx09.sub [1,1] cnB=.seq (Sx09.sub [1,1,0] cnB) .ret:=by kernel_rfl
 obtain⟨I,hI⟩:∃I:Env,I=fun _=>zJ:=⟨_,rfl⟩
 have hh:HRel I (kd fun k=>k<w.heap.size) [] 0 w:=⟨fun h o hf=>(by cases hf),fun h o h' o' k hf=>(by cases hf),jfd⟩
 have hr:=jfq (n0:=0) (N:=8) (args:=[cV v0]) (zQ rfl) (fun x hx=>by simp only[z6]at hx;subst hx;trivial) (zp _) I w hh (fun k hk=>jbJ.1 hk);have hsp:jam Tryz.prog sp0:=jaf;have hdr:=fun(I:Env) (w:zr)=>jbC (N:=8) (n0:=0) (B:=kd fun k=>k<w.heap.size) (I0:=I) (w0:=w) mixed hsp;have hres:Tryz.f135.results=#[.tmp 2]:=by kernel_rfl
 have run:∀(tmps:Array zs) (W:zr),(results Tryz.f135 tmps).run Tryz.prog W=.ok (tmps.getD 2 zJ) W:=fun tmps W=>by
  unfold results;rw[hres];simp
 rw[hB];refine fz (yl (ja2 hsp (hdr I w) (Sx09.sub [0] cnB) 0 [] _ _ I _ w (cn1 v0) hr (jah.refl _ _) (Bel.refl _ _)) ?_);rintro e a1 w1 ⟨ex,I1,st1,rfl,⟨rfl,hdo⟩,hr1,hag1,hbl1⟩;have hR2:jhw (Sx09.sub [1,0,0] cnB)=some [cl1 Tryz.f135,cl2 Tryz.f135]:=by kernel_rfl
 refine fz (fz (joM hR2 (jcM (by kernel_rfl) (jcS hsp hr1 hag1 hbl1 hdo fun I2 st2 a2 w2 hr2 hag2 hbl2 hk=>?_))));subst hk;have hop:(cl2 Tryz.f135).op=.binOp .eql 22 (.tmp 3) (.const (.slice none 0 0)) 22:=by kernel_rfl
 have hdst:(cl2 Tryz.f135).dst=some 4:=by kernel_rfl
 refine jcM (by kernel_rfl) (jzV (N:=8) (u:=cV v0) (aa:=aa) (n:=m) (cap:=cap) hop (by rw[hdst];rfl) (by kernel_rfl) (by kernel_rfl) hv hr2 fun hr3=>?_);rw[hdst]at hr3 ⊢;unfold wpList;cases aa with
 |none =>
  have hm0:=hnil rfl;subst hm0;obtain rfl:us=[]:=z5 (by omega);have key:=ju4 (cur:=0) (gs:=[]) hsp (hdr I w) (cn2 v0) hr3 hag2 hbl2;rw[hD]at key
  have fin:∀e a4 w4,Qx [] I (kd fun k=>k<w.heap.size) 8 0 w (jbN Tryz.prog Tryz.f135.results.toList fun v _ _=>v=cV (.slice none 0 0)) e a4 w4->bodyPost Tryz.prog Tryz.f135 (fun e w'=>∃v',e=.returned v'∧w'.ownsRow 0 118 8 v' 0 []∧yn w.heap.size w w'∧∀k,v'.ownBlock=some k->w.heap.size<=k) e a4 w4:=by
   rintro e a4 w4 ⟨x,I4,st4,rfl,hk,hr4,_,hbl4⟩
   have done:jbN Tryz.prog Tryz.f135.results.toList (fun v _ _=>v=cV (.slice none 0 0)) .ret st4->a4.defers=[]∧∃v,(results Tryz.f135 a4.tmps).run Tryz.prog w4=.ok v w4∧∃v',Ending.returned v=.returned v'∧w4.ownsRow 0 118 8 v' 0 []∧yn w.heap.size w w4∧∀k,v'.ownBlock=some k->w.heap.size<=k:=fun h=>by
    rw[hres]at h;unfold jbN at h;dsimp only at h;split at h
    ·rename_i l hl;simp only[jfp,jpA]at hl;split at hl
     ·rename_i y l' hy hl';cases hl';cases hl;split at hy
      ·rename_i u2 h2;cases hy;have hu:V.w u2=cV (.slice none 0 0):=h.2;cases hu;have h3:=(hr4.tm 2 _ h2).2;exact⟨hr4.defers,_,run _ _,_,rfl,by rw[h3];exact World.ownsRow_nil w4 0 118 8,hbl4.below,fun k hk=>by rw[h3]at hk;cases hk⟩
      ·cases hy
     ·cases hl
    ·exact h.elim
   cases x with
   |normal=>exact done hk
   |ret=>exact done hk
   |exit j=>exact hk.elim
  refine yl key ?_;intro e a4 w4 hq;cases e with
  |normal=>exact yl hq fin
  |_=>exact fin _ _ _ hq
 |some ad =>
  refine yl (ja2 hsp (hdr I w) (Sx09.sub [1,0,1] cnB) 0 [] _ _ I2 _ w2 (cn3 v0) hr3 hag2 hbl2) ?_;rintro e a3 w3 ⟨ex,I3,st3,rfl,⟨rfl,hdo3⟩,hr4,hag3,hbl3⟩;have hR3:jhw (Sx09.sub [1,1,0] cnB)=some [cnO 0,cnO 1,cnO 2,cnO 3]:=by kernel_rfl
  refine fz (joM hR3 (jcM (by kernel_rfl) (jcS hsp hr4 hag3 hbl3 hdo3 fun I4 st4 a4 w4 hr5 hag4 hbl4 hk4=>jcM (by kernel_rfl) (jcS hsp hr5 hag4 hbl4 hk4 fun I5 st5 a5 w5 hr6 hag5 hbl5 hk5=>?_))));subst hk5;obtain⟨B',gB,hh5⟩:=hr6.heap;obtain⟨us0,hown,_,hblk⟩:=(hh5.ok 0 _ rfl).2.2;have e5:=(hr6.tm 5 _ rfl).2;have e6:=(hr6.tm 6 _ rfl).2;have hsame:∀p:Addr,p.block<w.heap.size->w5.cell? p=w.cell? p:=fun p hp=>World.cell?_of_block (w:=w) (hbl5.block p.block hp);have hsz:szT Tryz.prog 118=some 8:=by kernel_rfl
  have hby:jaU Tryz.prog 118=some 136:=by kernel_rfl
  have hzl:(jaA Tryz.prog 118).map za=some 8:=by kernel_rfl
  obtain⟨zl,hz,hzl⟩:=Option.map_eq_some_iff.1 hzl;cases hi:Tryz.prog.info? 118 with
  |none=>simp[szT,hi]at hsz
  |some i =>
   have hsz':i.size=7+1:=by simpa [szT,hi]using hsz
   have hby':i.bytes=136:=by simpa [jaU,hi]using hby
   cases hzz:i.zero with
   |none=>simp[jaA,hi,hzz]at hz
   |some zv =>
    obtain⟨v1,hv1,hvc,_⟩:=jaX (P:=Tryz.prog) (w:=w) (I:=I) hz
    have hvz:v1=zv:=by
     simp[zeroValue,typeInfo,hi,hzz]at hv1;exact hv1.symm
    subst hvz;have hzs:v1.cells.size=7+1:=by rw[hvc];simp[hzl]
    have hown0:w5.ownsRow 0 118 8 (I5 0) 0 us0:=hown;obtain rfl:us0=[]:=z5 (by rw[hown0.1,yd])
    obtain⟨v',w6,hrun,hown',hgr,hwh⟩:=jej (ty:=(cnO 2).type) (P:=Tryz.prog) (t:=22) (by kernel_rfl) hi hzz hsz' hby' hzs hown0 (xv:=v0) (news:=us) (m:=m) hus hone
     (.inr ⟨ad,cap,hv,fun j u hj=>(hsame _ (xe w _ (hcell ad rfl j u hj))).trans (hcell ad rfl j u hj)⟩) (by omega) (by omega)
    have hop2:(cnO 2).op=.call (jqu (cnO 2).op):=by kernel_rfl
    have hcal:(jqu (cnO 2).op).callee=.builtin .append:=by kernel_rfl
    have hargs:(jqu (cnO 2).op).args=#[.tmp 5,.tmp 6]:=by kernel_rfl
    have hts:(jqu (cnO 2).op).argTypes=#[22,22]:=by kernel_rfl
    have hd2:(cnO 2).dst=some 7:=by kernel_rfl
    have ev5:a5.eval (.tmp 5)=I5 0:=e5;have ev6:a5.eval (.tmp 6)=v0:=e6;refine jcM (by kernel_rfl) (jAB (v:=v') (w':=w6) ?_ (jcM (by kernel_rfl) (jAB (v:=v') (w':=w6) ?_ ?_)))
    ·exact jwF hop2 hcal hargs hts ev5 ev6 hrun
    ·have hop3:(cnO 3).op=.assign (.tmp 7):=by kernel_rfl
     have hs6:a5.tmps.size=8:=hr6.size
     have:(a5.put (cnO 2).dst v').eval (.tmp 7)=v':=by
      rw[hd2];simp[jO,Act.eval,hs6]
     exact jyU hop3 this
    ·unfold wpList;have hd3:(cnO 3).dst=some 2:=by kernel_rfl
     have hs6:a5.tmps.size=8:=hr6.size;refine wp_ret ?_;refine⟨by rw[jb5,jb5];exact hr6.defers,v',?_,v',rfl,by simpa using hown',?_,fun k hk=>?_⟩
     ·rw[run]
      congr 1
      rw[hd2,hd3];simp[jO,hs6]
     ·have hold5:∀k,(I5 0).ownBlock=some k->¬k<w.heap.size:=fun k hk hc=>hblk k hk (.inl (gB.le.kp k hc));exact hbl5.below.trans ⟨hgr.os,hgr.tape,hgr.output,hgr.size,fun k hk=>hgr.block k (zG hk hbl5.size) (fun e=>hold5 k e.symm hk)⟩
     ·rcases hwh k hk with h|h
      ·have:¬k<w.heap.size:=fun hc=>hblk k h (.inl (gB.le.kp k hc));omega
      ·have:=hbl5.size;omega
end Go.Sh
end

section
open Go.RowKit
namespace Go.Sh
open Go Go.Proofs Go.RowKit Go.Sx
def jvQ:Sx.Spec:=fun vs hp nx=>match vs with|[.w (.c (.o h))]=>(match find hp h with|some (.xext (.st sh l))=>(match decide (sh=shV)with|true=>some (.leaf ⟨l.length*136<=140737488355328,.w (.c (.o nx)),(nx,.trow 118 tsV (.st sh l) 0)::hp,nx+1⟩)|false=>none)|_=>none)|_=>none
def jB1 {B:Bd} {w:zr} {v:zs} {X:XC} (h:IsX B w v X):∃(aa:Option Addr) (cap:Nat) (us:List zs),v=.slice aa X.n cap∧us.length=X.n*X.e∧(aa=none->X.n=0)∧(∀ad,aa=some ad->∀j u,us[j]?=some u->w.cell? (ad.add j)=some u) ∧
  (∀u∈us,u.oneCell'=true)∧∀i j,i<X.n->j<X.e->∃u,us[i*X.e+j]?=some u∧(X.cell i j).at B w u:=by
 obtain⟨aa,cap,hv,⟨h1,h2⟩,h3⟩:=h;rcases Nat.eq_zero_or_pos X.n with h0|h0
 ·exact⟨aa,cap,[],hv,by rw[h0,yd];rfl,fun _=>h0,(fun ad _ j u hj=>by simp at hj),(fun u hu=>by cases hu),fun i j hi=>by omega⟩
 ·obtain⟨b,off,rfl,hb,hx⟩:=h3 h0
  have key:∀q,q<X.n*X.e->∃u,w.cell? ⟨b,off+q,none⟩=some u∧u.oneCell'=true:=fun q hq=>by
   have he:0<X.e:=Nat.pos_of_ne_zero fun e=>by rw[e,Nat.mul_zero]at hq;omega
   obtain⟨u,hu,hux⟩:=hx (q/X.e) (q%X.e) (yE (by rw[xI];exact hq)) (ya _ he);rw[show q/X.e*X.e+q%X.e=q by rw[xI];exact yu q X.e]at hu;exact⟨u,hu,jt3 hux⟩
  refine⟨_,cap,(zm (X.n*X.e)).map fun q=>(w.cell? ⟨b,off+q,none⟩).getD zJ,hv,by simp,(fun h=>by cases h),fun ad had j u hj=>?_,fun u hu=>?_,fun i j hi hj=>?_⟩
  ·cases had;have hjl:j<X.n*X.e:=by have:=(zC.1 hj).1;simpa using this
   obtain⟨u',hu',_⟩:=key j hjl;have:((zm (X.n*X.e)).map fun q=>(w.cell? ⟨b,off+q,none⟩).getD zJ)[j]?=some u':=by simp[hjl,hu']
   rw[this]at hj;cases hj;rw[jaT];exact hu'
  ·obtain⟨q,hq,rfl⟩:=qn.1 hu;obtain⟨u',hu',ho⟩:=key q (qZ.1 hq);rw[hu'];exact ho
  ·obtain⟨u,hu,hux⟩:=hx i j hi hj
   have hjl:i*X.e+j<X.n*X.e:=by
    have:(i+1)*X.e<=X.n*X.e:=qb _ hi;rw[qE]at this;omega
   exact⟨u,by simp[hjl,hu],hux⟩
def jyW:jaF Tryz.prog 135 true jvQ:=by
 refine .inl ⟨jdn (body:=Sx09.bodyOf Tryz.f135) Tryz.func135 (by kernel_rfl) (by kernel_rfl),fun I B w args hp nx t h ho hl hh hB=>?_⟩;unfold jvQ at h;split at h
 ·rename_i g;split at h
  ·rename_i sh l hf;split at h
   ·rename_i hsh;have hsh:=of_decide_eq_true hsh;subst hsh;cases h;have hb:l.length*136<=140737488355328:=ho;obtain⟨aa,cap,us,hv,hus,hnil,hcell,hone,hat⟩:=jB1 (hh.ok g _ hf).2.2;have hargs:([V.w (.c (.o g))].map (V.val I)).toArray=#[I g]:=rfl;rw[hargs];refine(jB0 (m:=l.length) hv us hus hone hnil hcell hb).mono ?_;rintro e w' ⟨v',rfl,hown,hbel,hfr⟩;have hbB:Bel B w w':=jc2 hbel hB
    have hok:(O.trow 118 tsV (.st shV l) 0).ok (upd I nx v') B w' nx:=by
     unfold O.ok;simp only[upd_same];refine⟨us,hown,fun i j hi hj=>?_,fun i j i' j' u v k _ _ _ _ _ h0=>absurd h0 (ye _),fun k hk hc=>?_⟩
     ·obtain⟨u,hu,hux⟩:=hat i j hi hj;exact⟨u,hu,fun h0=>absurd h0 (ye _),fun _=>NC.at_bel hux hbB⟩
     ·have:=hB k hc;have:=hfr k hk;omega
    have h1:=hh.add (o:=.trow 118 tsV (.st shV l) 0) (I':=upd I nx v') hbel hB (jar _ _ _) trivial hok (fun k hk=>by
     rw[upd_same]at hk;exact hfr k hk)
    refine⟨upd I nx v',?_,jar _ _ _,zo nx,xu nx,⟨B,Grow.refl _ _ _ _,h1⟩,hbB,fun _=>hbel,fun _ h o k hn hf hk=>?_⟩
    ·simp[RT.sel,V.val,W.val,C.val,upd]
    ·have hf:find ((nx,O.trow 118 tsV (.st shV l) 0)::hp) h=some o:=hf
     by_cases e1:h=nx
     ·subst e1
      have:o=O.trow 118 tsV (.st shV l) 0:=by
       have:=hf;simp only[find,if_pos]at this;exact(yf this).symm
      subst this;rw[upd_same]at hk;exact hfr k hk
     ·simp only[find,if_neg (Ne.symm e1)]at hf;have:=(hh.ok h o hf).1;omega
   ·cases h
  ·cases h
 ·cases h
abbrev sp_135:jab->jab:=jal 135 true jvQ
def sp_135_ok {sp:jab} (h:jam Tryz.prog sp):jam Tryz.prog (sp_135 sp):=jch jyW h
end Go.Sh
end

section
namespace Go.Sx09
open Go Go.Proofs Go.RowKit Go.Shelf Go.Sx
attribute [local go_sem] Oper.semAt_some
end Go.Sx09
end

section
open Go.RowKit
namespace Go.Sh
open Go Go.Proofs Go.RowKit Go.Sx
open Go.Sx09 (juQ)
end Go.Sh
end

section
open Go.RowKit
namespace Go.Sh
open Go Go.Proofs Go.RowKit Go.Sx
end Go.Sh
end

section
open Go.RowKit
namespace Go.Sx
section
variable {P:zP} {l n:Nat} {a:Act} {w:zr} {Q:Exit->Act->zr->Prop}
end
section
variable [Globs] {P:zP} {sp:jab} {B:Kd} {N n0:Nat} {I0:Env} {w0:zr} {ds:List Deferred}
end
def jqv:Nat->jn->jn|0,_=>.skip|n+1,.seq x y=>.seq x (jqv n y)|_+1,c=>c
def jqw:Nat->jn->jn|0,c=>c|n+1,.seq _ y=>jqw n y|_+1,_=>.skip
def jAC:Nat->jn->Bool|0,_=>true|n+1,.seq _ y=>jAC n y|_+1,_=>false
section
variable [Globs] {P:zP} {sp:jab} {B:Kd} {N n0:Nat} {I0:Env} {w0:zr} {ds:List Deferred}
def jxz {fuel:Nat} {loops:jel} {drawn:Array qu->St->(St->Prop)->Prop} (hsp:jam P sp) (hdr:jdy P B N n0 I0 w0 drawn) {Q:Exit->Act->zr->Prop} {k:Ex->St->Prop} :
  ∀(m:Nat) (c:jn) (cur:Nat) (gs:List Nat) (st:St) (I:Env) (a:Act) (w:zr),jAC m c=true->sx P sp N n0 fuel loops drawn (jqv m c) cur gs st k->RelD ds I B N n0 st a w->jah n0 I0 I->Bel B w0 w -> (∀I' st' a' w',k .normal st'->RelD ds I' B N n0 st' a' w'->jah n0 I0 I'->Bel B w0 w'->(jqw m c).wp P Q a' w') -> (∀ex I' st' a' w',ex≠.normal->k ex st'->RelD ds I' B N n0 st' a' w'->jah n0 I0 I'->Bel B w0 w'->Q ex.toExit a' w')->c.wp P Q a w
 |0,c,_,_,st,I,a,w,_,h,hr,hag,hbl,hn,_=>hn I st a w h hr hag hbl
 |m+1,.seq x y,cur,gs,st,I,a,w,hs,h,hr,hag,hbl,hn,he=>by
  simp only[jqv]at h;unfold sx at h;refine fz (yl (ja2 hsp hdr x cur gs st _ I a w h hr hag hbl) ?_);rintro e a' w' ⟨ex,I',st',rfl,hk,hr',hag',hbl'⟩;cases ex with
  |normal=>exact jxz hsp hdr m y cur gs st' I' a' w' hs hk hr' hag' hbl' hn he
  |exit j=>exact he (.exit j) I' st' a' w' (by simp) hk hr' hag' hbl'
  |ret=>exact he .ret I' st' a' w' (by simp) hk hr' hag' hbl'
end
end Go.Sx
end

section
open Go.RowKit
namespace Go.Sh
open Go Go.Proofs Go.RowKit Go.Sx
def cdB:jn:=Sx09.bodyOf Tryz.f91
abbrev spC:jab:=sp_135 (sp_136 (sp_137 sp0))
def jqx:jam Tryz.prog spC:=sp_135_ok (sp_136_ok (sp_137_ok jaf))
def ptU (g:List (List NC)) (k j:Nat) (x:NC):List (List NC):=g.set k (jfx shV (g.getD k []) j x)
def ptA (g:List (List NC)) (k:Nat):List (List NC):=ptU g k 2 (.r (.ints .i64 (val (jaQ (nL g k 2)))))
def ptB (g:List (List NC)) (k:Nat):List (List NC):=ptU (ptA g k) k 3 (.r (.ints .i64 (val (jaQ (nL g k 3)))))
def ptC (g:List (List NC)) (k:Nat):List (List NC):=ptU (ptB g k) k 4 (.r (.ints .i64 (val (jaQ (nL g k 4)))))
def ptD (g:List (List NC)) (k:Nat):List (List NC):=ptU (ptC g k) k 6 (.r (.recs 5 (val (jb8 (nR g k 6)))))
def cpK (g:List (List NC)):Nat->List (List NC)|0=>g|k+1=>ptD (cpK g k) k
def cpM:Nat->Nat|0=>0|k+1=>k*8+7
def jmY (g:List (List NC)) (k j:Nat) (x:NC):(ptU g k j x).length=g.length:=by simp[ptU]
def jC9 (g:List (List NC)) (k:Nat):(ptD g k).length=g.length:=by simp[ptD,ptC,ptB,ptA,jmY]
def jrR (g:List (List NC)):∀k,(cpK g k).length=g.length
 |0=>rfl
 |k+1=>by rw[cpK,jC9,jrR g k]
def hpC (nm:ByteArray) (g0 g:List (List NC)) (m:Nat):Hp:=[(3,.trow 118 tsV (.st shV g) m),(1,.box 24 [.d (.s nm),.o 3]),(2,.box 24 [.d (.s xY),.d (.v (.slice none 0 0))]),(0,.xext (.st shV g0))]
def lpC (nm:ByteArray) (g:List (List NC)):jel:=fun gs id _=>match id with|0=>some ⟨Nat,fun k=>⟨[(12,vi .i64 k),(11,vi .i64 (g.length:Int)),(2,.w (.c (.p 2 0 1 0))),(1,.w (.c (.p 1 0 1 0)))],hpC nm g (cpK g k) (cpM k),4⟩,fun k=>k<=g.length,fun k=>g.length-k⟩|_=>none
def stC (nm:ByteArray) (g0 g:List (List NC)):St:=⟨[(2,.w (.c (.p 2 0 1 0))),(1,.w (.c (.p 1 0 1 0)))],[(3,.mrow 118 tsV (.st shV g) none),(1,.box 24 [.d (.s nm),.o 3]),(2,.box 24 [.d (.s xY),.d (.v (.slice none 0 0))]),(0,.xext (.st shV g0))],4⟩
def jrS {j:Nat} (h:j=0∨j=1∨j=5∨j=7):(shV.getD j .b).isSl=false:=by
 rcases h with rfl|rfl|rfl|rfl<;>rfl
def okU (g:List (List NC)):Prop:=∀k,k<g.length->ok (jaQ (nL (cpK g k) k 2))∧ok (jaQ (nL (cpK g k) k 3))∧ok (jaQ (nL (cpK g k) k 4))∧ok (jb8 (nR (cpK g k) k 6))
abbrev jhK (m n:Nat):Prop:=∀i' j':Nat,j'<8->m<=i' * 8+j'->i' * 8+j'<n->(shV.getD j' .b).isSl=false
set_option maxHeartbeats 2000000 in
def cd_vc (nm:ByteArray) (g:List (List NC)) (h0:g.length*136<=140737488355328) (hok:okU g):sx Tryz.prog spC 53 1 0 (lpC nm g) (jcs Tryz.prog spC 53) (jqv 3 cdB) 0 [] ⟨jbo 0 [.w (.a [.d (.s nm),.o 0])],[(0,.xext (.st shV g))],1⟩
  fun ex st'=>match ex with
   | .normal=>Le 1 st' (stC nm g (cpK g g.length))
   |_=>False:=by
 refine js (by kernel_rfl:(Ob (g.length*136<=140737488355328) ∧ (∃x:Nat,Ob (x<=g.length)∧Ob ((0:Int)=(x:Int))∧Ob ((g.length:Int)=g.length)∧Ob ((0:Nat)=0)∧Ob ((0:Nat)=0)∧Ob (g=cpK g x)∧Ob (cpM x=0)∧Ob (nm=nm)∧Ob (xY=xY)∧Ob (zx none 0 0=zx none 0 0)∧Ob (g=g)∧True) ∧
  ∀x:Nat,x<=g.length->Br (decide ((x:Int)<(g.length:Int)))
   (Ob ((0:Int)<=x∧(x:Int)<((cpK g x).length:Int))∧Ob (x<(cpK g x).length∧cpM x<=x*8+2)∧Ob (ok (jaQ (nL (cpK g x) x 2)))∧Ob (x<(cpK g x).length∧cpM x<=x*8+3)∧Ob (ok (jaQ (nL (cpK g x) x 3)))∧Ob (x<(cpK g x).length∧cpM x<=x*8+4)∧Ob (ok (jaQ (nL (cpK g x) x 4)))∧Ob (x<(cpK g x).length∧cpM x<=x*8+6)∧Ob (ok (jb8 (nR (cpK g x) x 6))) ∧ Ob (x<(cpK g x).length∧cpM x<=x*8+2∧jhK (cpM x) (x*8+2))∧Ob (x<(ptA (cpK g x) x).length∧x*8+2+1<=x*8+3∧jhK (x*8+2+1) (x*8+3))∧Ob (x<(ptB (cpK g x) x).length∧x*8+3+1<=x*8+4∧jhK (x*8+3+1) (x*8+4))∧Ob (x<(ptC (cpK g x) x).length∧x*8+4+1<=x*8+6∧jhK (x*8+4+1) (x*8+6)) ∧ ∃x':Nat,Ob (x'<=g.length)∧Ob (g.length-x'<g.length-x)∧Ob (qP.wrap ((x:Int)+1)=x')∧Ob ((g.length:Int)=g.length)∧Ob ((0:Nat)=0)∧Ob ((0:Nat)=0)∧Ob (ptD (cpK g x) x=cpK g x')∧Ob (cpM x'=x*8+6+1)∧Ob (nm=nm)∧Ob (xY=xY)∧Ob (zx none 0 0=zx none 0 0)∧Ob (g=g)∧True)
   (Ob ((0:Nat)=0)∧Ob ((0:Nat)=0)∧Ob (cpK g x=cpK g g.length)∧Ob (∀i j:Nat,i<(cpK g x).length->j<8->cpM x<=i*8+j->(shV.getD j .b).isSl=false)∧Ob (nm=nm)∧Ob (xY=xY)∧Ob (zx none 0 0=zx none 0 0)∧Ob (g=g)∧True))=_) ?_
 refine⟨⟨h0⟩,⟨0,⟨Nat.zero_le _⟩,⟨rfl⟩,⟨rfl⟩,⟨rfl⟩,⟨rfl⟩,⟨rfl⟩,⟨rfl⟩,⟨rfl⟩,⟨rfl⟩,⟨rfl⟩,⟨rfl⟩,trivial⟩,fun x hx=>Br.intro (fun hlt=>?_) fun hlt=>?_⟩
 ·have hlt:x<g.length:=by have:=of_decide_eq_true hlt;omega
  have hl:=jrR g x
  have hm:cpM x<=x*8∧(x=0∨cpM x+1=x*8):=by
   cases x with
   |zero=>exact⟨zp _,.inl rfl⟩
   |succ n=>exact⟨by show n*8+7<=(n+1)*8;omega,.inr (by show n*8+7+1=(n+1)*8;omega)⟩
  obtain⟨o1,o2,o3,o4⟩:=hok x hlt;have f1:jhK (cpM x) (x*8+2):=fun i' j' hj h1 h2=>jrS (by omega);have f2:jhK (x*8+2+1) (x*8+3):=fun i' j' hj h1 h2=>by omega
  have f3:jhK (x*8+3+1) (x*8+4):=fun i' j' hj h1 h2=>by omega
  have f4:jhK (x*8+4+1) (x*8+6):=fun i' j' hj h1 h2=>jrS (by omega);have lA:(ptA (cpK g x) x).length=g.length:=by simp[ptA,jmY,hl]
  have lB:(ptB (cpK g x) x).length=g.length:=by simp[ptB,jmY,lA]
  have lC:(ptC (cpK g x) x).length=g.length:=by simp[ptC,jmY,lB]
  exact⟨⟨by omega⟩,⟨by omega⟩,⟨o1⟩,⟨by omega⟩,⟨o2⟩,⟨by omega⟩,⟨o3⟩,⟨by omega⟩,⟨o4⟩,⟨by omega,by omega,f1⟩,⟨by omega,by omega,f2⟩,⟨by omega,by omega,f3⟩,⟨by omega,by omega,f4⟩,x+1,⟨hlt⟩,⟨by omega⟩,⟨by rw[jai (by omega)];rfl⟩,⟨rfl⟩,⟨rfl⟩,⟨rfl⟩,⟨rfl⟩,⟨rfl⟩,⟨rfl⟩,⟨rfl⟩,⟨rfl⟩,⟨rfl⟩,trivial⟩
 ·have hlt:=of_decide_eq_false hlt;obtain rfl:x=g.length:=by omega
  refine⟨⟨rfl⟩,⟨rfl⟩,⟨rfl⟩,⟨fun i j hi hj hq=>?_⟩,⟨rfl⟩,⟨rfl⟩,⟨rfl⟩,⟨rfl⟩,trivial⟩;rw[jrR]at hi;refine jrS ?_;cases hn:g.length with
  |zero=>omega
  |succ n=>rw[hn]at hq hi;simp only[cpM]at hq;omega
end Go.Sh
end

section
open Go.RowKit
namespace Go.Sh
open Go Go.Proofs Go.RowKit Go.Sx
def jEn (nm:ByteArray) (g l:List (List NC)):sx Tryz.prog spC 53 1 0 (lpC nm g) (jcs Tryz.prog spC 53) (jqw 3 cdB) 0 [] (stC nm g l) (jbN Tryz.prog Tryz.f91.results.toList fun v hp _=>jfy 1 [.s [.d (.s nm),.m 118 [0,0,3,3,3,0,148,0] (.st zS l)]] v hp) :=js (by kernel_rfl:(Ob True∧Ob (nm=nm)∧Ob (l=l)∧True)=_) ⟨⟨trivial⟩,⟨rfl⟩,⟨rfl⟩,trivial⟩
def okUB (g:List (List NC)):Bool:=(zm g.length).all fun k=>(jaQ (nL (cpK g k) k 2)).isSome&&(jaQ (nL (cpK g k) k 3)).isSome&&(jaQ (nL (cpK g k) k 4)).isSome&&(jb8 (nR (cpK g k) k 6)).isSome
def jAD {g:List (List NC)} (h:okUB g=true):okU g:=fun k hk=>by
 have:=List.all_eq_true.1 h k (qZ.2 hk);simp only[zk]at this;exact⟨this.1.1.1,this.1.1.2,this.1.2,this.2⟩
def jbF (nm:ByteArray) (g:List (List NC)):Option (ByteArray × List (List NC)):=if(decide (g.length*136<=140737488355328)&&okUB g)=true then some (nm,cpK g g.length)else none
def jqy:List SV:=[.a [.d,.x (.st zS [])]]
def jj5:List Lf->Option GT|[.d (.s nm),.x (.st [.s,.i .i64,.ints .i64,.ints .i64,.ints .i64,.i .i64,.recs 5,.i .i64] g)]=>some (.leaf (ok (jbF nm g)) [.s [.d (.s (val (jbF nm g)).1),.m 118 [0,0,3,3,3,0,148,0] (.st zS (val (jbF nm g)).2)]])|_=>none
abbrev sp_91:jab->jab:=jal 91 true (jak jqy jj5)
def jwG:jaF Tryz.prog 91 true (jak jqy jj5):=by
 refine jhj (body:=cdB) Tryz.func91 (by kernel_rfl) (by kernel_rfl) ?_;intro ls t hg ho b hb I0 w hlt hh;unfold jj5 at hg;split at hg
 ·rename_i nm g;cases hg;obtain rfl:=jeu hb;have ho:ok (jbF nm g):=ho
  have hc:(decide (g.length*136<=140737488355328)&&okUB g)=true:=by
   unfold jbF at ho
   by_cases h:(decide (g.length*136<=140737488355328)&&okUB g)=true
   ·exact h
   ·rw[if_neg h]at ho;cases ho
  have hv:val (jbF nm g)=(nm,cpK g g.length):=by
   unfold jbF;rw[if_pos hc];rfl
  rw[zk,decide_eq_true_eq]at hc;have hh0:HRel I0 (kd fun k=>k<w.heap.size) [(0,.xext (.st shV g))] 1 w:=hh
  show Calls Tryz.prog 91 _ w _
  rw[hv];refine jnW (body:=cdB) (n0:=1) (args:=[.w (.a [.d (.s nm),.o 0])]) Tryz.func91 (by kernel_rfl) (zQ (by kernel_rfl)) (fun x hx=>hlt x hx) (zp _) I0 w hh0 (fun k hk=>jbJ.1 hk) fun a hr=>?_;refine jxz jqx (jbC mixed jqx) (cur:=0) (gs:=[]) 3 cdB _ I0 a w (by kernel_rfl) (cd_vc nm g hc.1 (jAD hc.2)) hr (jah.refl _ _) (Bel.refl _ _) ?_ ?_
  ·intro I1 st1 a1 w1 hk1 hr1 hag1 hbl1;have hk1:Le 1 st1 (stC nm g (cpK g g.length)):=hk1;obtain⟨I2,hr2,hag2⟩:=hk1.rel hr1;exact ja2 jqx (jbC mixed jqx) (jqw 3 cdB) 0 [] _ _ I2 a1 w1 (jEn nm g (cpK g g.length)) hr2 (fun x hx=>(hag2 x hx).trans (hag1 x hx)) hbl1
  ·intro ex I1 st1 a1 w1 hne hk1 _ _ _;cases ex with
   |normal=>exact absurd rfl hne
   |exit j=>exact hk1.elim
   |ret=>exact hk1.elim
 ·cases hg
def sp_91_ok {sp:jab} (h:jam Tryz.prog sp):jam Tryz.prog (sp_91 sp):=jch jwG h
end Go.Sh
end

section
namespace Go.Sh
open Go Go.Proofs Go.RowKit Go.Sx
open Go.IntKind (wrap)
set_option maxRecDepth 100000
def jqz:List SV:=[.a [.d,.x (.st zS [])]]
def jgX (x0:Int × List Int × List (List NC)) (r1:List Int) (x1:(Int × Int)):Option ((Int × Int) ⊕ Int) :=
 if x1.2<(↑(za (nL x0.2.2 (zN r1 x0.1) (2:Nat))):Int)then if 0<=x1.2∧x1.2<(↑(za (nL x0.2.2 (zN r1 x0.1) (2:Nat))):Int)then
  if zf x1.2<za (nL x0.2.2 (zN r1 x0.1) (2:Nat))then if 0<=zb (nL x0.2.2 (zN r1 x0.1) (2:Nat)) x1.2.toNat (0:Int)∧zb (nL x0.2.2 (zN r1 x0.1) (2:Nat)) x1.2.toNat 0<(↑x0.2.1.length:Int)then
   if zf (zb (nL x0.2.2 (zN r1 x0.1) (2:Nat)) x1.2.toNat (0:Int))<za x0.2.1 then if zf (zb r1 x0.1.toNat (0:Int))<za x0.2.2 then
    if 0<=x1.2∧x1.2<(↑(za (nL x0.2.2 (zN r1 x0.1) (3:Nat))):Int)then if zf x1.2<za (nL x0.2.2 (zN r1 x0.1) (3:Nat))then some (.inl ((if wrap .i64 (zb x0.2.1 (zf (zb (nL x0.2.2 (zN r1 x0.1) (2:Nat)) x1.2.toNat (0:Int))) 0+zb (nL x0.2.2 (zN r1 x0.1) (3:Nat)) x1.2.toNat (0:Int))>x1.1 then wrap .i64 (zb x0.2.1 (zf (zb (nL x0.2.2 (zN r1 x0.1) (2:Nat)) x1.2.toNat (0:Int))) 0+zb (nL x0.2.2 (zN r1 x0.1) (3:Nat)) x1.2.toNat (0:Int))else x1.1,wrap .i64 (x1.2+1))))
     else none
    else none
    else none
   else none
   else none
  else none
  else none
 else some (.inr x1.1)
def jgY (x0:Int × List Int × List (List NC)) (u7:Int) (r1:List Int) (x2:(Int × List (List NC))):Option ((Int × List (List NC)) ⊕ (Unit ⊕ (List (List NC)))) :=
 if x2.1<(↑(za (nL x0.2.2 (zN r1 x0.1) (2:Nat))):Int)then if 0<=x2.1∧x2.1<(↑(za (nL x0.2.2 (zN r1 x0.1) (2:Nat))):Int)then
  if zf x2.1<za (nL x0.2.2 (zN r1 x0.1) (2:Nat))then if zf (zb r1 x0.1.toNat (0:Int))<za x2.2 then
   if 0<=zb (nL x0.2.2 (zN r1 x0.1) (2:Nat)) x2.1.toNat (0:Int)∧zb (nL x0.2.2 (zN r1 x0.1) (2:Nat)) x2.1.toNat 0<(↑x0.2.1.length:Int)then if zf (zb (nL x0.2.2 (zN r1 x0.1) (2:Nat)) x2.1.toNat (0:Int))<za x0.2.1 then
    if 0<=x2.1∧x2.1<(↑(za (nL x2.2 (zN r1 x0.1) (3:Nat))):Int)then if zf x2.1<za (nL x2.2 (zN r1 x0.1) (3:Nat))then
     if zf (zb r1 x0.1.toNat (0:Int))<za (qz x2.2 (zN r1 x0.1) (jfx zS (zb x2.2 (zN r1 x0.1) []) (3:Nat) (NC.r (Cont.ints .i64 (qz (nL x2.2 (zN r1 x0.1) (3:Nat)) x2.1.toNat (wrap .i64 (u7-zb x0.2.1 (zf (zb (nL x0.2.2 (zN r1 x0.1) (2:Nat)) x2.1.toNat (0:Int))) (0:Int))))))))then if 0<=x2.1∧x2.1<(↑(za (nL (qz x2.2 (zN r1 x0.1) (jfx zS (zb x2.2 (zN r1 x0.1) []) (3:Nat) (NC.r (Cont.ints .i64 (qz (nL x2.2 (zN r1 x0.1) (3:Nat)) x2.1.toNat (wrap .i64 (u7-zb x0.2.1 (zf (zb (nL x0.2.2 (zN r1 x0.1) (2:Nat)) x2.1.toNat (0:Int))) (0:Int)))))))) (zN r1 x0.1) (3:Nat))):Int)then
      if zf x2.1<za (nL (qz x2.2 (zN r1 x0.1) (jfx zS (zb x2.2 (zN r1 x0.1) []) (3:Nat) (NC.r (Cont.ints .i64 (qz (nL x2.2 (zN r1 x0.1) (3:Nat)) x2.1.toNat (wrap .i64 (u7-zb x0.2.1 (zf (zb (nL x0.2.2 (zN r1 x0.1) (2:Nat)) x2.1.toNat (0:Int))) (0:Int)))))))) (zN r1 x0.1) (3:Nat))then if zb (nL (qz x2.2 (zN r1 x0.1) (jfx zS (zb x2.2 (zN r1 x0.1) []) (3:Nat) (NC.r (Cont.ints .i64 (qz (nL x2.2 (zN r1 x0.1) (3:Nat)) x2.1.toNat (wrap .i64 (u7-zb x0.2.1 (zf (zb (nL x0.2.2 (zN r1 x0.1) (2:Nat)) x2.1.toNat (0:Int))) (0:Int)))))))) (zN r1 x0.1) (3:Nat)) x2.1.toNat (0:Int)>64 then some (.inr ((.inl ())))
       else
       some (.inl ((wrap .i64 (x2.1+1),qz x2.2 (zN r1 x0.1) (jfx zS (zb x2.2 (zN r1 x0.1) []) (3:Nat) (NC.r (Cont.ints .i64 (qz (nL x2.2 (zN r1 x0.1) (3:Nat)) x2.1.toNat (wrap .i64 (u7-zb x0.2.1 (zf (zb (nL x0.2.2 (zN r1 x0.1) (2:Nat)) x2.1.toNat (0:Int))) (0:Int))))))))))
      else none
      else none
     else none
     else none
    else none
    else none
   else none
   else none
  else none
  else none
 else some (.inr (.inr x2.2))
def jmv (x0:Int × List Int × List (List NC)) (u7:Int) (r1:List Int) (u22:Unit):Option ((Int × List Int × List (List NC)) ⊕ (Unit ⊕ (List (List NC)))) :=some (.inr ((.inl ())))
def jmw (x0:Int × List Int × List (List NC)) (u7:Int) (r1:List Int) (u26:List (List NC)):Option ((Int × List Int × List (List NC)) ⊕ (Unit ⊕ (List (List NC)))) :=
 if zf (zb r1 x0.1.toNat (0:Int))<za u26 then if 0<=zb r1 x0.1.toNat (0:Int)∧zb r1 x0.1.toNat 0<(↑x0.2.1.length:Int)then
  if zf (zb r1 x0.1.toNat (0:Int))<za x0.2.1 then some (.inl ((wrap .i64 (x0.1+1),qz x0.2.1 (zN r1 x0.1) (wrap .i64 (u7+nI u26 (zN r1 x0.1) (5:Nat))),u26)))
  else none
  else none
 else none
def jgZ (x0:Int × List Int × List (List NC)) (u7:Int) (r1:List Int):(Unit ⊕ (List (List NC)))->Option ((Int × List Int × List (List NC)) ⊕ (Unit ⊕ (List (List NC)))) :=(qy (jmv x0 u7 r1) (jmw x0 u7 r1))
def jg0 (x0:Int × List Int × List (List NC)) (r1:List Int) (u7:Int):Option ((Int × List Int × List (List NC)) ⊕ (Unit ⊕ (List (List NC)))) :=
 if zf (zb r1 x0.1.toNat (0:Int))<za x0.2.2 then ze (jae (jgY x0 u7 r1) big (((0:Int),x0.2.2))) (jgZ x0 u7 r1)
 else none
def jg1 (r1:List Int) (x0:(Int × List Int × List (List NC))):Option ((Int × List Int × List (List NC)) ⊕ (Unit ⊕ (List (List NC)))) :=
 if x0.1<(↑r1.length:Int)then if 0<=x0.1∧x0.1<(↑r1.length:Int)then
  if zf x0.1<za r1 then if 0<=zb r1 x0.1.toNat (0:Int)∧zb r1 x0.1.toNat 0<(↑x0.2.2.length:Int)then
   if zf (zb r1 x0.1.toNat (0:Int))<za x0.2.2 then ze (jae (jgX x0 r1) big (((0:Int),0))) (jg0 x0 r1)
   else none
   else none
  else none
  else none
 else some (.inr (.inr x0.2.2))
def jmx (r2:ByteArray × List (List NC)) (u3:Unit):Option (ByteArray × List (List NC) × Int) :=some ((xd #[],[],8))
def jmy (r2:ByteArray × List (List NC)) (u4:List (List NC)):Option (ByteArray × List (List NC) × Int) :=some ((r2.1,u4,0))
def jg2 (r2:ByteArray × List (List NC)):(Unit ⊕ (List (List NC)))->Option (ByteArray × List (List NC) × Int) :=(qy (jmx r2) (jmy r2))
def jrT (u5:zY) (u1:List (List NC)):Option (ByteArray × List (List NC) × Int) :=
 if(jdN u5 u1)=true then
  ze (jbq u5 u1) fun r0 =>
  some (xd #[],[],nzI r0)
 else
  ze (jav u5 u1) fun r1 =>
  ze (jbF u5 u1) fun r2 =>
  if 0<=(↑u1.length:Int)∧(↑u1.length:Int)=(↑u1.length:Int)∧(↑(8:Nat):Int)*(↑u1.length:Int)<=281474976710656∧(↑u1.length:Int)<=9223372036854775807 then
  ze (jae (jg1 r1) big (((0:Int),zh (zf (↑u1.length:Int)) (0:Int),r2.2))) (jg2 r2)
  else none
def jhL:List Lf->Option GT|[.d (.s u5),.x (.st [.s,.i .i64,.ints .i64,.ints .i64,.ints .i64,.i .i64,.recs 5,.i .i64] u1)]=>some (.leaf (ok (jrT u5 u1)) [.s [.d (.s ((val (jrT u5 u1)).1)),.m 118 zE (.st (zS) ((val (jrT u5 u1)).2.1))],.c (.d (.i .i64 ((val (jrT u5 u1)).2.2)))])|_=>none
abbrev sp_37:jab->jab:=jal 37 true (jak jqz jhL)
def sp_37_ok:KO sp_37:=jag (kT (sp_80_ok (sp_91_ok jaf)) Tryz.func37 (by kernel_rfl) fun ls t h ho=>by
 unfold jhL at h;split at h
 ·rename_i u5 u1;cases h;have ho:=jad ho
  generalize val (jrT u5 u1)=r at ho ⊢
  let l0:=lp0 (jg1 (val (jav u5 u1))) (jg2 (val (jbF u5 u1))) r fun z=>⟨[(2,.w (.c (.p 1 0 1 0))),(6,.w (.c (.p 2 0 1 0))),(7,.w (.c (.o 3))),(34,.w (.c (.o 4))),(35,.w (.c (.d (.i .i64 ((↑(za (val (jav u5 u1))):Int)))))),(36,.w (.c (.d (.i .i64 z.1.1))))],[(1,.box 24 [.d (.s (xd #[])),.d (.v (zx none (0:Nat) (0:Nat)))]),(2,.box 24 [.d (.s ((val (jbF u5 u1)).1)),.o 5]),(3,.row 3 (.ints .i64 z.1.2.1)),(4,.row 3 (.ints .i64 (val (jav u5 u1)))),(5,.mrow 118 zE (XC.st zS z.1.2.2) none)],6⟩
  let l1 (m1:Nat):Lp ((Int × List Int × List (List NC)) × Nat × (Int × Int) × Nat) (Int × Int) Int (((Int × List Int × List (List NC)) ⊕ (Unit ⊕ (List (List NC))))) (ByteArray × List (List NC) × Int):=⟨fun z=>z.2.2.1,fun z=>z.2.2.2,fun z x n=>(z.1,z.2.1,x,n),fun z=>jgX z.1 (val (jav u5 u1)),fun z=>jg0 z.1 (val (jav u5 u1)),fun z=>(l0).cx (z.1,m1),fun z=>z.2.1,fun z=>⟨[(2,.w (.c (.p 1 0 1 0))),(6,.w (.c (.p 2 0 1 0))),(7,.w (.c (.o 3))),(9,.w (.c (.d (.i .i64 (zb (val (jav u5 u1)) z.1.1.toNat (0:Int)))))),(10,.w (.c (.p 4 (zf (zb (val (jav u5 u1)) z.1.1.toNat (0:Int))) 8 (0:Nat)))),(11,.w (.c (.d (.i .i64 z.2.2.1.1)))),(34,.w (.c (.o 5))),(35,.w (.c (.d (.i .i64 ((↑(za (val (jav u5 u1))):Int)))))),(36,.w (.c (.d (.i .i64 (z.1.1))))),(47,.w (.c (.o 6))),(48,.w (.c (.d (.i .i64 ((↑(za (nL z.1.2.2 (zf (zb (val (jav u5 u1)) z.1.1.toNat (0:Int))) (2:Nat))):Int)))))),(49,.w (.c (.d (.i .i64 z.2.2.1.2))))],[(1,.box 24 [.d (.s (xd #[])),.d (.v (zx none (0:Nat) (0:Nat)))]),(2,.box 24 [.d (.s ((val (jbF u5 u1)).1)),.o 4]),(3,.row 3 (.ints .i64 (z.1.2.1))),(4,.mrow 118 zE (XC.st zS z.1.2.2) none),(5,.row 3 (.ints .i64 (val (jav u5 u1)))),(6,.sub 4 (zf (zb (val (jav u5 u1)) z.1.1.toNat (0:Int))) 8 2 3 (.ints .i64 (nL z.1.2.2 (zf (zb (val (jav u5 u1)) z.1.1.toNat (0:Int))) (2:Nat))))],7⟩⟩
  let l2 (m1:Nat):Lp ((Int × List Int × List (List NC)) × Nat × Int × (Int × List (List NC)) × Nat) ((Int × List (List NC))) ((Unit ⊕ (List (List NC)))) (((Int × List Int × List (List NC)) ⊕ (Unit ⊕ (List (List NC))))) (ByteArray × List (List NC) × Int):=⟨fun z=>z.2.2.2.1,fun z=>z.2.2.2.2,fun z x n=>(z.1,z.2.1,z.2.2.1,x,n),fun z=>jgY z.1 z.2.2.1 (val (jav u5 u1)),fun z=>jgZ z.1 z.2.2.1 (val (jav u5 u1)),fun z=>(l0).cx (z.1,m1),fun z=>z.2.1,fun z=>⟨[(2,.w (.c (.p 1 0 1 0))),(6,.w (.c (.p 2 0 1 0))),(7,.w (.c (.o 3))),(9,.w (.c (.d (.i .i64 (zb (val (jav u5 u1)) z.1.1.toNat (0:Int)))))),(10,.w (.c (.p 4 (zf (zb (val (jav u5 u1)) z.1.1.toNat (0:Int))) 8 (0:Nat)))),(11,.w (.c (.d (.i .i64 z.2.2.1)))),(34,.w (.c (.o 5))),(35,.w (.c (.d (.i .i64 ((↑(za (val (jav u5 u1))):Int)))))),(36,.w (.c (.d (.i .i64 (z.1.1))))),(72,.w (.c (.o 6))),(73,.w (.c (.d (.i .i64 ((↑(za (nL z.1.2.2 (zf (zb (val (jav u5 u1)) z.1.1.toNat (0:Int))) (2:Nat))):Int)))))),(74,.w (.c (.d (.i .i64 z.2.2.2.1.1))))],[(1,.box 24 [.d (.s (xd #[])),.d (.v (zx none (0:Nat) (0:Nat)))]),(2,.box 24 [.d (.s ((val (jbF u5 u1)).1)),.o 4]),(3,.row 3 (.ints .i64 (z.1.2.1))),(4,.mrow 118 zE (XC.st zS z.2.2.2.1.2) none),(5,.row 3 (.ints .i64 (val (jav u5 u1)))),(6,.sub 4 (zf (zb (val (jav u5 u1)) z.1.1.toNat (0:Int))) 8 2 3 (.ints .i64 (nL z.1.2.2 (zf (zb (val (jav u5 u1)) z.1.1.toNat (0:Int))) (2:Nat))))],7⟩⟩
  exact⟨by kernel_rfl,(fun gs id _=>match id with
   |0=>l0.li
   |2=>(l1 (gs.getD 0 0)).li
   |4=>(l2 (gs.getD 0 0)).li
   |_=>none),Sk.vd ho (.brB
   (.call (.obT (.obT (.ret (fun r=>(Ob (xd #[]=r.1) ∧
 (Ob (za r.2.1=(0:Nat)) ∧
 (Ob (nzI (val (jbq u5 u1))=r.2.2) ∧
 True)))) ⟨⟨rfl⟩,⟨⟨rfl⟩,⟨⟨rfl⟩,trivial⟩⟩⟩))))
   (.call (.call (.ob (.loop (l0) (fun kk=>(((0:Int),zh (zf (↑u1.length:Int)) (0:Int),(val (jbF u5 u1)).2),big)) fun z0 =>
   .br
   (.ob (.ob (.ob (.ob (.loop (l1 z0.2) (fun kk=>(z0.1,kk,((0:Int),0),big)) fun z1 =>
   .br
   (.ob (.ob (.ob (.ob (.ob (.ob (.ob (.next))))))))
   (.exit (.ob (.loop (l2 z0.2) (fun kk=>(z1.1,kk,z1.2.2.1.1,((0:Int),z1.1.2.2),big)) fun z1 =>
   .br
   (.ob (.ob (.ob (.ob (.ob (.ob (.ob (.ob (.ob (.ob (.br
   (.exit (.exit (.obT (.obT (.ret (fun r=>(Ob (xd #[]=r.1) ∧
 (Ob (za r.2.1=(0:Nat)) ∧
 (Ob ((8:Int)=r.2.2) ∧
 True)))) ⟨⟨rfl⟩,⟨⟨rfl⟩,⟨⟨rfl⟩,trivial⟩⟩⟩)))))
   (.next))))))))))))
   (.exit (.ob (.ob (.ob (.next)))))))))))))
   (.exit (.obT (.obT (.rc))))))))) (by kernel_rfl)⟩
 ·cases h)
end Go.Sh
end

section
namespace Go.Sh
open Go Go.Proofs Go.RowKit Go.Sx
set_option maxRecDepth 100000
def jn6:List (Option Cont):=[]
def jhM (fr:zY) (fs:List (List NC)):Option Bool :=
 ze (jiV fr fs) fun r0 =>
 ze (jl4 fr fs) fun r1 =>
 ze (jrT fr fs) fun r2 =>
 ze (jvK r2.1 r2.2.1) fun r3 =>
 ze (jbI fr fs (qt (fun r=>NC.toFrs (zA r (NC.d (D.v zJ)))) [[NC.r (Cont.frs .f32 (32:Nat) [val (jo4 (101:Int))])]]) []) fun r4 =>
 if(r0.2==0)=true then
  ze (jiz r0.1 [(0:Int),1,2,3]) fun r5 =>
  if(r5)=true then
  if(r1.2==0)=true then
   ze (jiz r1.1 [(0:Int),2]) fun r6 =>
   if(r6)=true then
   if(r2.2.2==0)=true then if(r3.2==0)=true then
    ze (jiz r3.1 [(0:Int),3,3,3]) fun r7 =>
    if(r7)=true then if(r4.2.2==0)=true then
     if(r4.2.1==0)=true then if((↑r4.1.length:Int)==1)=true then
      if(0:Int)<=0∧0<(↑r4.1.length:Int)then if 0<za r4.1 then
       if((↑(za (zb r4.1 0 [])):Int)==1)=true then if(0:Int)<=0∧0<(↑r4.1.length:Int)then
        if 0<za r4.1 then if(0:Int)<=0∧0<(↑(za (zb r4.1 0 [])):Int)then
         if 0<za (zb r4.1 0 [])∧(0:Nat)<32 then if(qo (FloatKind.format .f32) (zb (zb (zb r4.1 (0:Nat) []) 0 []) (0:Nat) (0:Nat)) (1112276992:Nat)==some Ordering.eq)=true then
          if(0:Int)<=0∧0<(↑r4.1.length:Int)then if 0<za r4.1 then
           if(0:Int)<=0∧0<(↑(za (zb r4.1 0 [])):Int)then if 0<za (zb r4.1 0 [])∧(3:Nat)<32 then some (qo (FloatKind.format .f32) (zb (zb (zb r4.1 (0:Nat) []) 0 []) (3:Nat) (0:Nat)) (1120534528:Nat)==some Ordering.eq)
            else none
           else none
           else none
          else none
          else
          some false
         else none
         else none
        else none
        else none
       else some false
       else none
      else none
      else
      some false
     else some false
     else
     some false
    else some false
    else
    some false
   else some false
   else
   some false
  else some false
  else
  some false
 else some false
def jwH (fr:zY) (fs:List (List NC)) (r:Bool):Sk (top r) (jhM fr fs) :=.obT (.call (.obT (.call (.obT (.call (.call (.obT (.obC (ok (jo4 (101:Int))) (show(jo4 101).isSome=true by kernel_rfl) (.call (.brB
 (.call (.brB
 (.brB
 (.call (.brB
 (.brB
 (.brB
 (.call (.brB
 (.brB
 (.brB
 (.brB
 (.ob (.ob (.brB
 (.ob (.ob (.ob (.obC ((0:Int)<=0∧(0:Int)<32) (by decide) (.ob (.brB
 (.ob (.ob (.ob (.obC ((0:Int)<=3∧(3:Int)<32) (by decide) (.ob (.obT (.rc)))))))
 (.obT (.rc))))))))
 (.obT (.rc)))))
 (.obT (.rc)))
 (.obT (.rc)))
 (.obT (.rc)))
 (.obT (.rc))))
 (.obT (.rc)))
 (.obT (.rc)))
 (.obT (.rc))))
 (.obT (.rc)))
 (.obT (.rc))))
 (.obT (.rc))))))))))))
def jvR (fr:zY) (fs:List (List NC)) (r:Bool) (h:ze (jhM fr fs) some=some r):runF Tryz.f16 ((sp_20 (sp_49 (sp_37 (sp_31 (sp_75v fr fs (sp_74 (sp_63 (sp_24 sp0))))))))) (fun _ _ _=>none) [] [.d (.b r)] :=Sk.vc (jwH fr fs r) (by kernel_rfl) h
attribute [irreducible] jhM
end Go.Sh
end

section
namespace Go.Sh
open Go Go.Proofs Go.RowKit Go.Sx
set_option maxRecDepth 100000
def jB2:jhM jmW jmX=some true:=by kernel_rfl
def jrU:List A->Option (Prop × List RV)|[]=>some (True,[.d (.b true)])|_=>none
abbrev sp_16b:jab->jab:=jal 16 true (jaK jn6 jrU)
def jAE:jaF Tryz.prog 16 true (jaK jn6 jrU):=by
 refine juw (sp:=(sp_20 (sp_49 (sp_37 (sp_31 (sp_75v jmW jmX (sp_74 (sp_63 (sp_24 sp0))))))))) (fn:=Tryz.f16) (body:=bodyOf Tryz.f16) mixed (sp_20_ok (sp_49_ok (sp_37_ok (sp_31_ok (sp_75v_ok (sp_74_ok (sp_63_ok (sp_24_ok jaf)))))))) Tryz.func16 (by kernel_rfl) (by kernel_rfl) fun as_ ob rs h ho=>?_;unfold jrU at h;split at h
 ·cases h;exact⟨zQ rfl,_,_,jvR jmW jmX true (by rw[jB2];rfl)⟩
 ·cases h
def sp_16b_ok {sp:jab} (h:jam Tryz.prog sp):jam Tryz.prog (sp_16b sp):=jch jAE h
end Go.Sh
end

section
namespace Go.Sh
open Go Go.Proofs Go.RowKit Go.Sx
open Go.IntKind (wrap)
set_option maxRecDepth 100000
def jmz:List SV:=[.a [.d,.x (.st zS [])],.c (.x (.bb .f32 32 [])),.c (.r (.recs 2 []))]
def jbd (in_:List (List (List Nat))) (x0:Int × Int × Int × List (List Nat) × List (List (List Int))) (x1:(Int × List (List Nat))):Option ((Int × List (List Nat)) ⊕ (List (List Nat))) :=
 if x1.1<(↑in_.length:Int)then if 0<=x1.1∧x1.1<(↑in_.length:Int)then
  if zf x1.1<za in_ then if 0<=x0.2.1∧x0.2.1<(↑(za (zb in_ x1.1.toNat [])):Int)then
   if zf x0.2.1<za (zb in_ x1.1.toNat [])then if(za x1.2+za [zb (zb in_ x1.1.toNat []) x0.2.1.toNat []])*128<=140737488355328∧za x1.2+za [zb (zb in_ x1.1.toNat []) x0.2.1.toNat []]<=9223372036854775807 then some (.inl ((wrap .i64 (x1.1+1),x1.2++[zb (zb in_ x1.1.toNat []) x0.2.1.toNat []])))
    else none
   else none
   else none
  else none
  else none
 else some (.inr x1.2)
def jbe (in_:List (List (List Nat))) (x0:Int × Int × Int × List (List Nat) × List (List (List Int))) (r6:List (List (List Nat)) × Int × Int) (r15:List (List Nat) × Int × Int × List (List Nat) × List (List (List Int)) × Int) (x2:Int):Option (Int ⊕ (Unit ⊕ Unit)) :=
 if x2<(↑r6.1.length:Int)then if 0<=x2∧x2<(↑r6.1.length:Int)then
  if zf x2<za r6.1 then if(0:Int)<=0∧0<(↑in_.length:Int)then
   if 0<za in_ then if((↑(za (zb r6.1 x2.toNat [])):Int)!=(↑(za (zb in_ 0 [])):Int))=true then some (.inr ((.inl ())))
    else
    if 0<=x2∧x2<(↑r15.1.length:Int)then if zf x2<za r15.1 then
     if 0<=x2∧x2<(↑r6.1.length:Int)then if zf x2<za r6.1 then
      if 0<=x0.2.1∧x0.2.1<(↑(za (zb r6.1 x2.toNat [])):Int)then if zf x0.2.1<za (zb r6.1 x2.toNat [])then
       ze (jmg (zb r15.1 x2.toNat []) (zb (zb r6.1 x2.toNat []) x0.2.1.toNat [])) fun r16 =>
       if(!r16)=true then some (.inr ((.inl ())))
       else some (.inl (wrap .i64 (x2+1)))
       else none
      else none
      else none
     else none
     else none
    else none
   else none
   else none
  else none
  else none
 else some (.inr ((.inr ())))
def jjd (x0:Int × Int × Int × List (List Nat) × List (List (List Int))) (r15:List (List Nat) × Int × Int × List (List Nat) × List (List (List Int)) × Int) (u22:Unit):Option ((Int × Int × Int × List (List Nat) × List (List (List Int))) ⊕ (Unit ⊕ Int)) :=some (.inr ((.inl ())))
def jje (x0:Int × Int × Int × List (List Nat) × List (List (List Int))) (r15:List (List Nat) × Int × Int × List (List Nat) × List (List (List Int)) × Int) (u26:Unit):Option ((Int × Int × Int × List (List Nat) × List (List (List Int))) ⊕ (Unit ⊕ Int)) :=some (.inl ((wrap .i64 (x0.1+r15.2.1),wrap .i64 (x0.2.1+1),r15.2.2.1,r15.2.2.2.1,r15.2.2.2.2.1)))
def jeB (x0:Int × Int × Int × List (List Nat) × List (List (List Int))) (r15:List (List Nat) × Int × Int × List (List Nat) × List (List (List Int)) × Int):(Unit ⊕ Unit)->Option ((Int × Int × Int × List (List Nat) × List (List (List Int))) ⊕ (Unit ⊕ Int)) :=(qy (jjd x0 r15) (jje x0 r15))
def jdc (u5:zY) (u1:List (List NC)) (in_:List (List (List Nat))) (x0:Int × Int × Int × List (List Nat) × List (List (List Int))) (r3:ByteArray × List (List NC)) (r6:List (List (List Nat)) × Int × Int) (r12:List Int) (u7:List (List Nat)):Option ((Int × Int × Int × List (List Nat) × List (List (List Int))) ⊕ (Unit ⊕ Int)) :=
 ze (y4 u5 u1) fun r13 =>
 ze (y5 x0.2.2.1 x0.2.2.2.1 x0.2.2.2.2) fun r14 =>
 ze (jbu r3.1 r3.2 r14.1 r14.2.1 r14.2.2 u7 r12) fun r15 =>
 if(r15.2.2.2.2.2 != 0)=true then some (.inr ((.inl ())))
 else if((↑r15.1.length:Int)!=(↑r6.1.length:Int))=true then some (.inr ((.inl ())))
  else
  ze (jae (jbe in_ x0 r6 r15) big (0:Int)) (jeB x0 r15)
def jaZ (u5:zY) (u1:List (List NC)) (in_:List (List (List Nat))) (l:List (List Int)) (r3:ByteArray × List (List NC)) (r6:List (List (List Nat)) × Int × Int) (x0:(Int × Int × Int × List (List Nat) × List (List (List Int)))):Option ((Int × Int × Int × List (List Nat) × List (List (List Int))) ⊕ (Unit ⊕ Int)) :=
 if(0:Int)<=0∧0<(↑in_.length:Int)then if 0<za in_ then
  if x0.2.1<(↑(za (zb in_ 0 [])):Int)then
   ze (y18 u5 u1 l x0.2.1) fun r12 =>
   ze (jae (jbd in_ x0) big (((0:Int),[]))) (jdc u5 u1 in_ x0 r3 r6 r12)
  else some (.inr (.inr x0.1))
  else none
 else none
def jjf (r6:List (List (List Nat)) × Int × Int) (u3:Unit):Option Bool :=some false
def jjg (r6:List (List (List Nat)) × Int × Int) (u4:Int):Option Bool :=some (u4==r6.2.1)
def jeC (r6:List (List (List Nat)) × Int × Int):(Unit ⊕ Int)->Option Bool :=(qy (jjf r6) (jjg r6))
def jbj (u5:zY) (u1:List (List NC)) (in_:List (List (List Nat))) (l:List (List Int)):Option Bool :=
 ze (jeT u5 u1) fun r0 =>
 if(!r0)=true then some true
 else
  ze (jmi in_) fun r1 =>
  if(!r1)=true then
  some true
  else
  if(↑l.length:Int)>10 then some true
  else
   ze (jrF u5 u1 in_ l) fun r2 =>
   if(r2 != 0)=true then
   some true
   else
   if((↑in_.length:Int)==0)=true then some true
   else
    ze (y4 u5 u1) fun r3 =>
    ze (y13 in_) fun r4 =>
    ze (y11 l) fun r5 =>
    ze (jbI r3.1 r3.2 r4 r5) fun r6 =>
    ze (y4 u5 u1) fun r7 =>
    ze (je5 r3.1 r3.2) fun r8 =>
    if(r6.2.2 != 0)=true then
    some false
    else
    if(r8.2.2.2 != 0)=true then some false
    else
     ze (jo1 u1) fun r9 =>
     if((↑r6.1.length:Int)!=(↑r9.length:Int))=true then
     some false
     else
     ze (jj2 u1) fun r10 =>
     ze (jo0 r8.1 r8.2.1 r8.2.2.1 r10.1 r10.2.1 r10.2.2) fun r11 =>
     if(!r11)=true then some false
     else ze (jae (jaZ u5 u1 in_ l r3 r6) big (((0:Int),0,r8.1,r8.2.1,r8.2.2.1))) (jeC r6)
def jfw:List Lf->Option GT|[.d (.s u5),.x (.st [.s,.i .i64,.ints .i64,.ints .i64,.ints .i64,.i .i64,.recs 5,.i .i64] u1),.x (.bb .f32 32 in_),.r (.recs 2 l)]=>some (.leaf (ok (jbj u5 u1 in_ l)) [.c (.d (.b ((val (jbj u5 u1 in_ l)))))])|_=>none
def jkK:jaF Tryz.prog 14 true (jak jmz jfw) :=
 kT (sp_16b_ok (sp_17_ok (sp_62_ok (sp_65_ok (sp_64_ok (sp_42_ok (sp_63_ok (sp_69_ok (sp_70_ok (sp_71_ok (sp_59_ok (sp_46_ok (sp_19_ok (sp_54_ok (sp_53_ok (sp_68_ok jaf)))))))))))))))) Tryz.func14 (by kernel_rfl) fun ls t h ho=>by
 unfold jfw at h;split at h
 ·rename_i u5 u1 in_ l;cases h;have ho:=jad ho
  generalize val (jbj u5 u1 in_ l)=r at ho ⊢
  let l0:=lp0 (jaZ u5 u1 in_ l (val (y4 u5 u1)) (val (jbI (val (y4 u5 u1)).1 (val (y4 u5 u1)).2 (val (y13 in_)) (val (y11 l))))) (jeC (val (jbI (val (y4 u5 u1)).1 (val (y4 u5 u1)).2 (val (y13 in_)) (val (y11 l))))) r fun z=>⟨[(1,.w (.c (.o 1))),(2,.w (.c (.o 2))),(3,.w (.c (.p 3 0 1 0))),(7,.w (.c (.o 4))),(8,.w (.c (.d (.i .i64 ((val (jbI (val (y4 u5 u1)).1 (val (y4 u5 u1)).2 (val (y13 in_)) (val (y11 l)))).2.1))))),(10,.w (.c (.p 5 0 1 0))),(12,.w (.c (.d (.i .i64 z.1.1)))),(13,.w (.c (.d (.i .i64 z.1.2.1))))],[(1,.xext (XC.bb .f32 (32:Nat) in_)),(2,.ext (.recs 2 l)),(3,.box 24 [.d (.s u5),.o 0]),(4,.mrow 79 [(110:Nat)] (XC.bb .f32 (32:Nat) (val (jbI (val (y4 u5 u1)).1 (val (y4 u5 u1)).2 (val (y13 in_)) (val (y11 l)))).1) none),(5,.box 78 [.d (.i .i64 z.1.2.2.1),.o 6,.o 7]),(0,.xext (XC.st zS u1)),(6,.xrow 157 (XC.ff .f32 z.1.2.2.2.1)),(7,.xrow 158 (XC.rr (4:Nat) z.1.2.2.2.2))],8⟩
  let l1 (m1:Nat):Lp ((Int × Int × Int × List (List Nat) × List (List (List Int))) × Nat × (Int × List (List Nat)) × Nat) ((Int × List (List Nat))) ((List (List Nat))) (((Int × Int × Int × List (List Nat) × List (List (List Int))) ⊕ (Unit ⊕ Int))) Bool:=⟨fun z=>z.2.2.1,fun z=>z.2.2.2,fun z x n=>(z.1,z.2.1,x,n),fun z=>jbd in_ z.1,fun z=>jdc u5 u1 in_ z.1 (val (y4 u5 u1)) (val (jbI (val (y4 u5 u1)).1 (val (y4 u5 u1)).2 (val (y13 in_)) (val (y11 l)))) (val (y18 u5 u1 l z.1.2.1)),fun z=>(l0).cx (z.1,m1),fun z=>z.2.1,fun z=>⟨[(1,.w (.c (.o 1))),(2,.w (.c (.o 2))),(3,.w (.c (.p 3 0 1 0))),(7,.w (.c (.o 4))),(8,.w (.c (.d (.i .i64 ((val (jbI (val (y4 u5 u1)).1 (val (y4 u5 u1)).2 (val (y13 in_)) (val (y11 l)))).2.1))))),(10,.w (.c (.p 5 0 1 0))),(12,.w (.c (.d (.i .i64 (z.1.1))))),(13,.w (.c (.d (.i .i64 (z.1.2.1))))),(14,.w (.c (.p 6 0 1 0))),(15,.w (.c (.d (.i .i64 z.2.2.1.1))))],[(1,.xext (XC.bb .f32 (32:Nat) in_)),(2,.ext (.recs 2 l)),(3,.box 24 [.d (.s u5),.o 0]),(4,.mrow 79 [(110:Nat)] (XC.bb .f32 (32:Nat) (val (jbI (val (y4 u5 u1)).1 (val (y4 u5 u1)).2 (val (y13 in_)) (val (y11 l)))).1) none),(5,.box 78 [.d (.i .i64 (z.1.2.2.1)),.o 7,.o 8]),(6,.box 81 [.o 9,.o 10]),(0,.xext (XC.st zS u1)),(7,.xrow 157 (XC.ff .f32 z.1.2.2.2.1)),(8,.xrow 158 (XC.rr (4:Nat) z.1.2.2.2.2)),(9,.row 110 (.frs .f32 32 z.2.2.1.2)),(10,.row 3 (.ints .i64 (val (y18 u5 u1 l z.1.2.1))))],11⟩⟩
  let l2 (m1:Nat):Lp ((Int × Int × Int × List (List Nat) × List (List (List Int))) × Nat × List (List Nat) × Int × Nat) Int (Unit ⊕ Unit) (((Int × Int × Int × List (List Nat) × List (List (List Int))) ⊕ (Unit ⊕ Int))) Bool:=⟨fun z=>z.2.2.2.1,fun z=>z.2.2.2.2,fun z x n=>(z.1,z.2.1,z.2.2.1,x,n),fun z=>jbe in_ z.1 (val (jbI (val (y4 u5 u1)).1 (val (y4 u5 u1)).2 (val (y13 in_)) (val (y11 l)))) (val (jbu (val (y4 u5 u1)).1 (val (y4 u5 u1)).2 (val (y5 z.1.2.2.1 z.1.2.2.2.1 z.1.2.2.2.2)).1 (val (y5 z.1.2.2.1 z.1.2.2.2.1 z.1.2.2.2.2)).2.1 (val (y5 z.1.2.2.1 z.1.2.2.2.1 z.1.2.2.2.2)).2.2 z.2.2.1 (val (y18 u5 u1 l z.1.2.1)))),fun z=>jeB z.1 (val (jbu (val (y4 u5 u1)).1 (val (y4 u5 u1)).2 (val (y5 z.1.2.2.1 z.1.2.2.2.1 z.1.2.2.2.2)).1 (val (y5 z.1.2.2.1 z.1.2.2.2.1 z.1.2.2.2.2)).2.1 (val (y5 z.1.2.2.1 z.1.2.2.2.1 z.1.2.2.2.2)).2.2 z.2.2.1 (val (y18 u5 u1 l z.1.2.1)))),fun z=>(l0).cx (z.1,m1),fun z=>z.2.1,fun z=>⟨[(1,.w (.c (.o 1))),(2,.w (.c (.o 2))),(3,.w (.c (.p 3 0 1 0))),(7,.w (.c (.o 4))),(8,.w (.c (.d (.i .i64 ((val (jbI (val (y4 u5 u1)).1 (val (y4 u5 u1)).2 (val (y13 in_)) (val (y11 l)))).2.1))))),(10,.w (.c (.p 5 0 1 0))),(12,.w (.c (.d (.i .i64 (z.1.1))))),(13,.w (.c (.d (.i .i64 (z.1.2.1))))),(16,.w (.c (.p 6 0 1 0))),(17,.w (.c (.p 7 0 1 0))),(19,.w (.c (.d (.i .i64 z.2.2.2.1))))],[(1,.xext (XC.bb .f32 (32:Nat) in_)),(2,.ext (.recs 2 l)),(3,.box 24 [.d (.s u5),.o 0]),(4,.mrow 79 [(110:Nat)] (XC.bb .f32 (32:Nat) (val (jbI (val (y4 u5 u1)).1 (val (y4 u5 u1)).2 (val (y13 in_)) (val (y11 l)))).1) none),(5,.box 78 [.d (.i .i64 (z.1.2.2.1)),.o 8,.o 9]),(6,.box 85 [.o 10,.d (.i .i64 ((val (jbu (val (y4 u5 u1)).1 (val (y4 u5 u1)).2 (val (y5 z.1.2.2.1 z.1.2.2.2.1 z.1.2.2.2.2)).1 (val (y5 z.1.2.2.1 z.1.2.2.2.1 z.1.2.2.2.2)).2.1 (val (y5 z.1.2.2.1 z.1.2.2.2.1 z.1.2.2.2.2)).2.2 z.2.2.1 (val (y18 u5 u1 l z.1.2.1)))).2.1))]),(7,.box 78 [.d (.i .i64 ((val (jbu (val (y4 u5 u1)).1 (val (y4 u5 u1)).2 (val (y5 z.1.2.2.1 z.1.2.2.2.1 z.1.2.2.2.2)).1 (val (y5 z.1.2.2.1 z.1.2.2.2.1 z.1.2.2.2.2)).2.1 (val (y5 z.1.2.2.1 z.1.2.2.2.1 z.1.2.2.2.2)).2.2 z.2.2.1 (val (y18 u5 u1 l z.1.2.1)))).2.2.1)),.o 11,.o 12]),(0,.xext (XC.st zS u1)),(8,.xrow 157 (XC.ff .f32 z.1.2.2.2.1)),(9,.xrow 158 (XC.rr (4:Nat) z.1.2.2.2.2)),(10,.row 110 (.frs .f32 32 ((val (jbu (val (y4 u5 u1)).1 (val (y4 u5 u1)).2 (val (y5 z.1.2.2.1 z.1.2.2.2.1 z.1.2.2.2.2)).1 (val (y5 z.1.2.2.1 z.1.2.2.2.1 z.1.2.2.2.2)).2.1 (val (y5 z.1.2.2.1 z.1.2.2.2.1 z.1.2.2.2.2)).2.2 z.2.2.1 (val (y18 u5 u1 l z.1.2.1)))).1))),(11,.xrow 157 (XC.ff .f32 (val (jbu (val (y4 u5 u1)).1 (val (y4 u5 u1)).2 (val (y5 z.1.2.2.1 z.1.2.2.2.1 z.1.2.2.2.2)).1 (val (y5 z.1.2.2.1 z.1.2.2.2.1 z.1.2.2.2.2)).2.1 (val (y5 z.1.2.2.1 z.1.2.2.2.1 z.1.2.2.2.2)).2.2 z.2.2.1 (val (y18 u5 u1 l z.1.2.1)))).2.2.2.1)),(12,.xrow 158 (XC.rr (4:Nat) (val (jbu (val (y4 u5 u1)).1 (val (y4 u5 u1)).2 (val (y5 z.1.2.2.1 z.1.2.2.2.1 z.1.2.2.2.2)).1 (val (y5 z.1.2.2.1 z.1.2.2.2.1 z.1.2.2.2.2)).2.1 (val (y5 z.1.2.2.1 z.1.2.2.2.1 z.1.2.2.2.2)).2.2 z.2.2.1 (val (y18 u5 u1 l z.1.2.1)))).2.2.2.2.1))],13⟩⟩
  exact⟨by kernel_rfl,(fun gs id _=>match id with
   |0=>l0.li
   |2=>(l1 (gs.getD 0 0)).li
   |4=>(l2 (gs.getD 0 0)).li
   |_=>none),Sk.vd ho (.obT (.call (.brB
   (.obT (.rc))
   (.call (.brB
   (.obT (.rc))
   (.br
   (.obT (.rc))
   (.call (.brB
   (.obT (.rc))
   (.brB
   (.obT (.rc))
   (.call (.call (.call (.call (.call (.call (.brB
   (.obT (.rc))
   (.brB
   (.obT (.rc))
   (.call (.brB
   (.obT (.rc))
   (.call (.call (.brB
   (.obT (.rc))
   (.loop (l0) (fun kk=>(((0:Int),0,(val (je5 (val (y4 u5 u1)).1 (val (y4 u5 u1)).2)).1,(val (je5 (val (y4 u5 u1)).1 (val (y4 u5 u1)).2)).2.1,(val (je5 (val (y4 u5 u1)).1 (val (y4 u5 u1)).2)).2.2.1),big)) fun z0 =>
   .ob (.ob (.br
   (.call (.loopQ (l1 z0.2) [.c fun _=>0,.c fun _=>(val (jbI (val (y4 u5 u1)).1 (val (y4 u5 u1)).2 (val (y13 in_)) (val (y11 l)))).2.1,.c fun _=>0,.c fun vv=>vv.1.1,.c fun vv=>vv.1.2.1,.c fun _=>0,.c fun vv=>vv.2.2.1.1,.c fun _=>in_,.c fun _=>l,.c fun _=>u5,.c fun _=>(val (jbI (val (y4 u5 u1)).1 (val (y4 u5 u1)).2 (val (y13 in_)) (val (y11 l)))).1,.c fun vv=>vv.1.2.2.1,.c fun _=>u1,.c fun vv=>vv.1.2.2.2.1,.c fun vv=>vv.1.2.2.2.2,.p fun vv=>za vv.2.2.1.2=(0:Nat),.c fun vv=>val (y18 u5 u1 l vv.1.2.1)] (fun kk=>(z0.1,kk,((0:Int),[]),big)) (fun z1 =>
   .br
   (.ob (.ob (.ob (.ob (.ob (.next))))))
   (.exit (.call (.call (.call (.brB
   (.exit (.obT (.rc)))
   (.brB
   (.exit (.obT (.rc)))
   (.loop (l2 z0.2) (fun kk=>(z1.1,kk,z1.2.2.1.2,0,big)) fun z1 =>
   .br
   (.ob (.ob (.ob (.ob (.brB
   (.exit (.exit (.obT (.rc))))
   (.ob (.ob (.ob (.ob (.ob (.ob (.call (.brB
   (.exit (.exit (.obT (.rc))))
   (.next))))))))))))))
   (.exit (.next)))))))))) (fun _=>⟨rfl,trivial⟩)))
   (.exit (.obT (.rc)))))))))))))))))))))))))))) (by kernel_rfl)⟩
 ·cases h
attribute [irreducible] jbj
end Go.Sh
end

section
namespace Go.Sh
open Go Go.Proofs Go.RowKit Go.Sx Go.Sx06
open Go.IntKind (wrap)
variable {g:List (List NC)} {l:List Int}
def jDa {α:Type} {A:List α} {z d:α} {k:Nat} (h:k<A.length):(A++[z]).getD k d=A.getD k d:=by
 rw[jan (by simp;omega),jan h,List.getElem_append_left h]
def jDb {α:Type} {A:List α} {z d:α} {k:Nat} (h:k=A.length):(A++[z]).getD k d=z:=by
 subst h;simp
def jAF (h:Rg g l) (fbk:Nat->Nat->Bool) {t:List (List (List Nat))} (ht:TR g t):∀m,m<=(t.getD 0 []).length->∀k,k<m->∀c,c<(jaJ g 4).length -> ((plI g l fbk t m).2.2.1.getD c []).getD k []=(jbE g l (fbk k) (plI g l fbk t k).1 (plI g l fbk t k).2.1 (inK t k)).1.getD c []
 |0,_,k,hk,_,_=>by omega
 |m+1,hm,k,hk,c,hc=>by
  obtain⟨_,_,p3,p4,_⟩:=jmV h fbk ht m (by omega);have e:=p4 c hc
  show((jfE (plI g l fbk t m).2.2.1 (jbE g l (fbk m) (plI g l fbk t m).1 (plI g l fbk t m).2.1 (inK t m)).1).getD c []).getD k []=_
  rw[jxx (by omega)]
  by_cases hkm:k<m
  ·rw[<-jAF h fbk ht m (by omega) k hkm c hc,jDa (by omega)]
  ·obtain rfl:k=m:=by omega
   exact jDb e.symm
def jEo (h:Rg g l) (fb:Nat->Bool) {P:List (List Nat)} {fs:List (List (List Int))} {B:List (List Nat)} (hP:PR g.length P) (hF:FR g fs) (hB:BR g B):∀b∈(jbE g l fb P fs B).1,b.length=32 :=jC7 (je4 h hP hF hB (jqn h fb) g.length (zp _)).1.gr
def jtw {f:List (List Int)} (hf:f.length<1000):y11 f=some f:=by
 unfold y11;rw[if_pos (by omega),qS]
def jDc {t:List (List (List Nat))} {k:Nat} (hl:t.length<1000) (hr:∀r∈t,k<r.length∧r.length<1000) (a b:Int) (P:List (List Nat)) (fs:List (List (List Int))) :
  jae (jbd t (a,(k:Int),b,P,fs)) big (0,[])=some (inK t k):=by
 have:=je1 t [] (fun r=>r.getD k []) (body:=jbd t (a,(k:Int),b,P,fs)) (by omega) (fun i hi o ho=>by
  have h1:=hr (t.getD i []) (by rw[jan hi];exact zW hi);unfold jbd;simp only[zg];rw[if_pos (by omega),if_pos (by omega),if_pos hi,if_pos (by omega),if_pos (by omega),if_pos (by simp only[zB,qe];omega),jai (by omega)]) (fun o=>by
  unfold jbd;dsimp only;rw[if_neg (by omega)])
 rw[this];rfl
def cmpB {t outs:List (List (List Nat))} {o:List (List Nat)} {n k:Nat} (ht0:0<t.length) (hn:(t.getD 0 []).length=n) (hn2:n<=16) (hk:k<n) (hl:outs.length<1000) (ho:o.length=outs.length) (hr:∀c,c<outs.length->(outs.getD c []).length=n∧o.getD c []=(outs.getD c []).getD k [])
  (h32:∀b∈o,b.length=32) (a b c1 c2 e1 e2 e3:Int) (P P':List (List Nat)) (fs fs':List (List (List Int))) :
  jae (jbe t (a,(k:Int),b,P,fs) (outs,c1,c2) (o,e1,e2,P',fs',e3)) big 0=some (.inr ()):=by
 refine jat (body:=jbe t (a,(k:Int),b,P,fs) (outs,c1,c2) (o,e1,e2,P',fs',e3)) (fun i=>(i:Int)) (k:=outs.length) (fun i hi=>?_) ?_ (by omega)
 ·obtain⟨h1,h2⟩:=hr i hi;have hs:=jjc (h32 (o.getD i []) (by rw[jan (by omega)];exact zW (by omega)));unfold jbe;simp only[zg,hn,h1];rw[if_pos (by omega),if_pos (by omega),if_pos hi,if_pos (by omega),if_pos ht0,if_neg (by simp),if_pos (by omega),if_pos (by omega),if_pos (by omega),if_pos hi,if_pos (by omega),if_pos hk,<-h2,hs,jaa,if_neg (by simp),jai (by omega)];rfl
 ·unfold jbe;rw[if_neg (by dsimp only;omega)]
def jyY (h:Rg (cpU g) l) (hg:g.length<1000) (hw:Fw g) {nm:ByteArray} (hs:nm.size<1000) (h0:(cg nm (cpU g)).2=0) {t:List (List (List Nat))} (ht:TR (cpU g) t) (ht0:0<t.length) {f:List (List Int)} (hf:f.length<=24) (hz:∀i,i<f.length->jcZ g.length f i=0) {fbk:Nat->Nat->Bool} (hfb:fbk=fun k:Nat=>jaL (jaE f (k:Int) g.length))
  {outs:List (List (List Nat))} {cuts e:Int} (ho:(outs,cuts)=(plI (cpU g) l fbk t (t.getD 0 []).length).2.2) :
  jae (jaZ nm g t f (nm,cpU g) (outs,cuts,e)) big (0,0,0,P0 (cpU g).length,fs0 (cpU g))=some (.inr cuts):=by
 have hn:=h.n;have hcl:=jcu (g:=g);have hkl:=jdw (cpU g) 4 (cpU g).length;have hk4:(jaJ (cpU g) 4).length<1000:=by unfold jaJ;omega
 have hkl0:=jdw (cpU g) 0 (cpU g).length;have htl:t.length<1000:=by rw[ht.len];unfold jaJ;omega
 have hsht:=ht.sht;have e1:outs=(plI (cpU g) l fbk t (t.getD 0 []).length).2.2.1:=congrArg Prod.fst ho;have e2:cuts=(plI (cpU g) l fbk t (t.getD 0 []).length).2.2.2:=congrArg Prod.snd ho;obtain⟨_,_,q3,q4,_⟩:=jmV h fbk ht (t.getD 0 []).length (zp _)
 have hrow:∀r∈t,r.length=(t.getD 0 []).length:=fun r hr=>by
  obtain⟨c,hc,rfl⟩:=xF hr;rw[<-jan (d:=[]) hc];exact ht.row c hc
 have key:∀k,k<(t.getD 0 []).length->jaZ nm g t f (nm,cpU g) (outs,cuts,e) ((plI (cpU g) l fbk t k).2.2.2,(k:Int),(k:Int),(plI (cpU g) l fbk t k).1,(plI (cpU g) l fbk t k).2.1) =
   some (.inl ((plI (cpU g) l fbk t (k+1)).2.2.2,((k+1:Nat):Int),((k+1:Nat):Int),(plI (cpU g) l fbk t (k+1)).1,(plI (cpU g) l fbk t (k+1)).2.1)):=fun k hk=>by
  obtain⟨p1,p2,p3,p4,p5⟩:=jmV h fbk ht k (by omega);have hB:=jvL ht hk;obtain⟨r1,r2,r3,r4⟩:=jvz h (fbk k) p1 p2 hB;have r32:=jEo h (fbk k) p1 p2 hB;have hpo:=jAF h fbk ht _ (zp _) k hk;have hA:=jsL hf hz (k:Int) g.length (by omega)
  have hs1:plI (cpU g) l fbk t (k+1)=((jbE (cpU g) l (fbk k) (plI (cpU g) l fbk t k).1 (plI (cpU g) l fbk t k).2.1 (inK t k)).2.2.1,(jbE (cpU g) l (fbk k) (plI (cpU g) l fbk t k).1 (plI (cpU g) l fbk t k).2.1 (inK t k)).2.2.2,jfE (plI (cpU g) l fbk t k).2.2.1 (jbE (cpU g) l (fbk k) (plI (cpU g) l fbk t k).1 (plI (cpU g) l fbk t k).2.1 (inK t k)).1,(plI (cpU g) l fbk t k).2.2.2+(jbE (cpU g) l (fbk k) (plI (cpU g) l fbk t k).1 (plI (cpU g) l fbk t k).2.1 (inK t k)).2.1):=rfl
  have hst:=jC8 h hs h0 p1 p2 hB (b:=k) (by omega) (x:=jaE f (k:Int) g.length) (by rw[hcl];exact hA);have hfk:jaL (jaE f (k:Int) g.length)=fbk k:=by rw[hfb]
  rw[hfk]at hst;rw[hs1];rw[<-e1]at hpo q3 q4;have h1:=p1.1;have h2:=p2.1;have c1:=jAz p1;have c2:=jAA h p2
  generalize (plI (cpU g) l fbk t k).2.2.2=sum at *
  generalize (plI (cpU g) l fbk t k).2.1=fs at *
  generalize (plI (cpU g) l fbk t k).1=P at *
  generalize jbE (cpU g) l (fbk k) P fs (inK t k)=R at *
  unfold jaZ;dsimp only;rw[if_pos (by omega),if_pos ht0,if_pos (by omega),jyM nm f (k:Int) hg hf,jaa,jDc htl (fun r hr=>by rw[hrow r hr];omega),jaa];unfold jdc;dsimp only;rw[jxk hw,jaa,jvO _ (by omega) c1 (by omega) c2,jaa];dsimp only;rw[hst,jaa];dsimp only;rw[if_neg (by simp),if_neg (by simp;omega),cmpB ht0 rfl (by omega) hk (by omega) (by omega) (fun c hc=>⟨q4 c (by omega),(hpo c (by omega)).symm⟩) r32,jaa]
  show some (Sum.inl (wrap qP (sum+R.2.1),wrap qP ((k:Int)+1),_,_,_))=_
  rw[jai (by omega),jai (by omega)];rfl
 have hit:=jat (body:=jaZ nm g t f (nm,cpU g) (outs,cuts,e)) (fun k=>((plI (cpU g) l fbk t k).2.2.2,(k:Int),(k:Int),(plI (cpU g) l fbk t k).1,(plI (cpU g) l fbk t k).2.1))
  (y:=.inr cuts) (k:=(t.getD 0 []).length) key (by
   unfold jaZ;dsimp only;rw[if_pos (by omega),if_pos ht0,if_neg (by omega),<-e2]) (by omega)
 exact hit
def jnm (nm:ByteArray) (g:List (List NC)) {t:List (List (List Nat))} (h32:T32 t) (f:List (List Int)):jbj nm g t f=some true:=by
 unfold jbj;rcases jz0 nm g with h|⟨h,hw,hs⟩
 ·rw[h];rfl
 ·rw[h,jaa,if_neg (by simp)];rcases jwC (t:=t)with h1|⟨h1,hl,hr⟩
  ·rw[h1];rfl
  ·rw[h1,jaa,if_neg (by simp)]
   by_cases h10:((f.length:Nat):Int)>10
   ·rw[if_pos h10]
   rw[if_neg h10];have hn:=hw.n;unfold jrF;rw[jws hw hs,jBR hn (by omega) h32 (fun r h=>by have:=hr r h;omega),jD2 nm f hn];simp only[jaa]
   by_cases h0:(cg nm g).2=0
   ·rw[if_neg (show ¬(cg nm g).2≠0 by omega)];cases ho:jdF (jbx g) g.length []with
    |none=>rfl
    |some od =>
     have hR:=rg_of hw h0 ho;dsimp only;rw[if_neg (by simp)]
     by_cases hT:teG (jaJ g 0).length t=0
     ·rw[if_neg (by rw[hT];simp),jaa]
      by_cases hcf:(cf g.length f).2=0
      ·rw[if_neg (by rw[hcf];simp)]
       by_cases ht0:0<t.length
       ·have hc:=hR.cp;have hTR:=jAs h32 hT;have hTR':TR (cpU g) t:=⟨by rw[jxy];exact hTR.len,hTR.row,hTR.sht,hTR.blk⟩
        have h0c:(cg nm (cpU g)).2=0:=by rw[cp_cg];exact h0
        obtain⟨_,z1,z2⟩:=jxs hcf;rw[if_neg (by simp;intro e;rw[e]at ht0;simp at ht0),jxk hw,jwD hl hr,jtw (by omega),jAy hR];simp only[jaa];rw[jC6 hc hs h0c (by omega) h32,jAx hc hs h0c,jEb hTR',jcu,hcf];simp only[jaa,ne_eq,not_true,if_false];have hO:jo1 g=some (jaJ g 4):=by unfold jo1;rw[jsH hn];rfl
        have hfs:fs0 (cpU g)=fs0 g:=by
         unfold fs0;rw[jcu];exact qx fun i hi=>by rw[cp_R (qZ.1 hi)]
        rw[hO,jaa];obtain⟨_,_,p3,p4,_⟩:=jmV hc (fun k:Nat=>jaL (jaE f (k:Int) g.length)) hTR' (t.getD 0 []).length (zp _);rw[jxy]at p3;rw[hfs,if_neg (by simp),if_neg (by simp),if_neg (by rw[p3];simp),jrQ 0 (by rw[(jyP g.length).1];omega) (jAz (jyP g.length)) (by rw[(jvx g).1];omega) (jAA hR (jvx g)),jaa,if_neg (by simp)];have hlp:=jyY (g:=g) (l:=od) hc hn hw hs h0c hTR' ht0 (f:=f) (by omega) z2 rfl (outs:=(plI (cpU g) od (fun k:Nat=>jaL (jaE f (k:Int) g.length)) t (t.getD 0 []).length).2.2.1) (cuts:=(plI (cpU g) od (fun k:Nat=>jaL (jaE f (k:Int) g.length)) t (t.getD 0 []).length).2.2.2) (e:=0) rfl;rw[jcu,hfs]at hlp;rw[hlp,jaa]
        show some (_==_)=_
        simp
       ·rw[if_pos (by simp;exact z5 (by omega))]
      ·rw[if_pos (by simpa using hcf)]
     ·rw[if_pos (by simpa using hT),jaa,if_pos (by simpa using hT)]
   ·rw[if_pos h0,if_pos (by simpa using h0),jaa,if_pos (by simpa using h0)]
end Go.Sh
end

section
namespace Go.Sx
open Go.RowKit Go.ChangeShapes Go.WideShapes
inductive K where
 |i (k:IntKind)|b|f (k:qd)|s
def K.fits:K->D->Prop| .i k,.i k' n=>k'=k∧(Lit.int k n).wf=true| .b,.b _=>True| .f k,.f k' n=>k'=k∧(Lit.float k n).wf=true| .s,.s x=>x.size<=maxLen|_,_=>False
def ja1:List K->List D->Prop|[],[]=>True|k::ks,d::ds=>k.fits d∧ja1 ks ds|_,_=>False
def je6:∀{ks:List K} {ds:List D} {ks':List K} {ds':List D},ja1 ks ds->ja1 ks' ds'->ja1 (ks++ks') (ds++ds')|[],[],_,_,_,h=>h|_::_,_::_,_,_,h,h'=>⟨h.1,je6 h.2 h'⟩|[],_::_,_,_,h,_=>h.elim|_::_,[],_,_,h,_=>h.elim
def je7:∀{ks:List K} {ds:List D},ja1 ks ds->ds.length=ks.length
 |[],[],_=>rfl
 |_::_,_::_,h=>by simp[je7 h.2]
 |[],_::_,h=>h.elim
 |_::_,[],h=>h.elim
def jgc (g:qI->Option (List K)) (P:zP):Nat->List Field->Option (List K)|_,[]=>some []|n,f::fs=>match g f.type with|none=>none|some ks=>if f.offset=n∧P.cellsOf f.type=ks.length then(jgc g P (n+ks.length) fs).map (ks ++ ·)else none
def jfj (P:zP):Nat->qI->Option (List K)|0,_=>none|d+1,t=>match P.underlying t with|some .bool=>some [.b]|some (.int k)=>some [.i k]|some (.float k)=>some [.f k]|some .string=>some [.s]|some (.struct fs)=>(match jgc (jfj P d) P 0 fs.toList with|some ks=>if P.cellsOf t=ks.length then some ks else none|none=>none)|some (.array n e)=>(match jfj P d e with|some ks=>if P.cellsOf t=n*ks.length∧P.cellsOf e=ks.length then some (zh n ks).flatten else none|none=>none)|_=>none
section
variable {H:Type} {enc:qI × zs->H} {P:zP} {w:zr} {base:Nat} {spare:Nat->Bool} {held:Bool}
def jn7 {ks:List K} {e:qI} {m:Nat} (ih:∀cs x,xG enc P w base spare held m e cs=some x->∃ds:List D,cs=ds.map D.val∧ja1 ks ds) :
  ∀(n:Nat) (cs:List zs),cs.length=n*ks.length->(∀i,i<n->∃x,xG enc P w base spare held m e ((cs.drop (i*ks.length)).take ks.length)=some x)->∃ds:List D,cs=ds.map D.val∧ja1 (zh n ks).flatten ds
 |0,cs,hl,_=>⟨[],by simpa using hl,trivial⟩
 |n+1,cs,hl,h=>by
  obtain⟨x,hx⟩:=h 0 (by omega);obtain⟨ds0,h0,h1⟩:=ih _ x hx
  obtain⟨ds1,h2,h3⟩:=jn7 ih n (cs.drop ks.length) (by rw[xy,hl,qE];omega) (fun i hi=>by
   obtain⟨y,hy⟩:=h (i+1) (by omega);refine⟨y,?_⟩;rw[j9];rw[show ks.length+i*ks.length=(i+1)*ks.length by rw[qE];omega];exact hy)
  refine⟨ds0++ds1,?_,je6 h1 h3⟩;rw[xa,<-h0,<-h2];simp
def jmA {g:qI->Option (List K)} {m:Nat} (ih:∀t ks cs x,g t=some ks->xG enc P w base spare held m t cs=some x->∃ds:List D,cs=ds.map D.val∧ja1 ks ds) :
  ∀(fs:List Field) (n:Nat) (ks:List K) (cs:List zs),jgc g P n fs=some ks->cs.length=n+ks.length->(∀f∈fs,∃x,xG enc P w base spare held m f.type ((cs.drop f.offset).take (P.cellsOf f.type))=some x) -> ∃ds:List D,cs.drop n=ds.map D.val∧ja1 ks ds
 |[],n,ks,cs,hk,hl,_=>by
  simp only[jgc,zj]at hk;subst hk;refine⟨[],?_,trivial⟩;simp at hl;simp[hl]
 |f::fs,n,ks,cs,hk,hl,h=>by
  simp only[jgc]at hk;split at hk
  ·cases hk
  ·rename_i kf hg;split at hk
   ·rename_i hc;cases hr:jgc g P (n+kf.length) fs with
    |none=>simp[hr]at hk
    |some kr =>
     simp only[hr,qk,zj]at hk;subst hk;obtain⟨x,hx⟩:=h f zw;rw[hc.1,hc.2]at hx;obtain⟨ds0,h0,h1⟩:=ih f.type kf _ x hg hx;obtain⟨ds1,h2,h3⟩:=jmA ih fs (n+kf.length) kr cs hr (by rw[hl,qc];omega) (fun f' hf'=>h f' (zu _ hf'));refine⟨ds0++ds1,?_,je6 h1 h3⟩;rw[xa,<-h0,<-h2,<-j9];exact(xQ _ _).symm
   ·cases hk
def jf2:∀(d:Nat) (t:qI) (ks:List K) (fuel:Nat) (cs:List zs) (x:DataW H × List jM),jfj P d t=some ks->xG enc P w base spare held fuel t cs=some x -> ∃ds:List D,cs=ds.map D.val∧ja1 ks ds
 |0,_,_,_,_,_,h,_=>by cases h
 |d+1,t,ks,fuel,cs,x,hk,hx=>by
  unfold jfj at hk;split at hk
  ·rename_i ht;cases hk;obtain⟨b,rfl,_⟩:=DataW.trod_bool ht hx;exact⟨[.b b],rfl,trivial,trivial⟩
  ·rename_i k ht;cases hk;obtain⟨n,rfl,_,hw⟩:=DataW.trod_int ht hx;exact⟨[.i k n],rfl,⟨rfl,hw⟩,trivial⟩
  ·rename_i k ht;cases hk;cases fuel with
   |zero=>simp[xG]at hx
   |succ n =>
    rcases cs with _|⟨v,_|⟨v',r⟩⟩
    ·simp[xG,ht]at hx
    ·cases v with
     |float k2 n2 =>
      simp only[xG,ht]at hx;split at hx
      ·rename_i hh;exact⟨[.f k2 n2],rfl,⟨hh.1,hh.2⟩,trivial⟩
      ·cases hx
     |_=>simp[xG,ht]at hx
    ·simp[xG,ht]at hx
  ·rename_i ht;cases hk;obtain⟨z,rfl,_,hw⟩:=DataW.trod_string ht hx;exact⟨[.s z],rfl,hw,trivial⟩
  ·rename_i fs ht;split at hk
   ·rename_i ks' hks;split at hk
    ·rename_i hc;cases hk;obtain⟨xs,n,rfl,_,hl,hxl,hf⟩:=gK ht hx
     have:=jmA (enc:=enc) (w:=w) (base:=base) (spare:=spare) (held:=held) (g:=jfj P d) (m:=n) (fun t ks cs x h1 h2=>jf2 d t ks n cs x h1 h2) fs.toList 0 ks cs hks (by rw[hl,hc];omega) (fun f hfm=>by
      obtain⟨i,hi,hfi⟩:=xx.1 hfm;have hi':i<fs.size:=by simpa using hi
      have h1:=hf i f (by rw[xm hi'];simpa using hfi);exact⟨xs[i]'(by omega),by rw[h1,zH]⟩)
     simpa using this
    ·cases hk
   ·cases hk
  ·rename_i n e ht;split at hk
   ·rename_i ks' hks;split at hk
    ·rename_i hc;cases hk;obtain⟨xs,m,rfl,_,hl,hxl,hf⟩:=f9 ht hx
     exact jn7 (fun cs x h=>jf2 d e ks' m cs x hks h) n cs (by rw[hl,hc.1]) (fun i hi=>by
      have h1:=hf i hi;rw[hc.2]at h1;exact⟨xs[i]'(by omega),by rw[h1,zH]⟩)
    ·cases hk
   ·cases hk
  ·cases hk
def jsM {t e:qI} {ks:List K} {d fuel:Nat} {cs:List zs} {x:DataW H × List jM} (ht:P.underlying t=some (.slice e)) (hk:jfj P d e=some ks) (hc:P.cellsOf e=ks.length) (h0:0<ks.length)
  (hx:xG enc P w base spare held fuel t cs=some x) :
  ∃(v:zs) (rows:List (List D)),cs=[v]∧(∀r∈rows,ja1 ks r)∧jaH w v (.lits ks.length rows)∧(x.1=.nil∧rows=[]∨∃el sp,x.1=.slice el sp∧el.length=rows.length):=by
 rcases kb ht hx with ⟨rfl,rfl⟩|⟨a,len,cap,elems,rest,n,rfl,rfl,rfl,hb,hl,hm,hel,hi,_,_⟩
 ·exact⟨_,[],rfl,(fun _ h=>by cases h),⟨none,0,rfl,⟨by simp[Cont.n],fun _=>rfl⟩,fun h=>absurd h (by simp[Cont.n])⟩,.inl ⟨rfl,rfl⟩⟩
 ·-- each element's cells
  have hget:∀i,i<len->∃ds:List D,ja1 ks ds∧∀j,j<ks.length->w.cell? ((a.add (i*ks.length)).add j)=(ds[j]?).map D.val:=fun i hil=>by
   have h1:=hi i hil;rw[hc]at h1;have h2:elems[i]?=some (elems[i]'(by omega)):=zH (by omega);rw[h2]at h1;obtain⟨cs',hcs,htr⟩:=zK.1 h1;obtain⟨ds,hds,hfit⟩:=jf2 d e ks n cs' _ hk htr;obtain⟨_,hcl,hat⟩:=fX hcs;refine⟨ds,hfit,fun j hj=>?_⟩;rw[hat j hj,hds,List.getElem?_map]
  let R:Nat->List D:=fun i=>if h:i<len then yR (hget i h)else[]
  have hR:∀i (h:i<len),ja1 ks (R i)∧∀j,j<ks.length->w.cell? ((a.add (i*ks.length)).add j)=((R i)[j]?).map D.val:=fun i h=>by
   show ja1 ks (if h:i<len then _ else _)∧_
   simp only[R,dif_pos h];exact jq (hget i h)
  refine⟨_,(zm len).map R,rfl,fun r hr=>?_,?_,.inr ⟨_,_,rfl,by simp[hel]⟩⟩
  ·obtain⟨i,hi',rfl⟩:=qn.1 hr;exact(hR i (by simpa using hi')).1
  ·refine⟨some a,cap,by simp[Cont.n],⟨by simpa [Cont.n]using hl,fun h=>by cases h⟩,fun hn=>?_⟩;have hn:0<len:=by simpa [Cont.n]using hn
   have hsp:a.spot=none:=by
    have h1:=(hR 0 hn).2 0 h0;have hfl:=je7 (hR 0 hn).1;rw[zH (by omega)]at h1;simp[fP]at h1;cases hs:a.spot with
    |none=>rfl
    |some s =>
     exfalso;unfold fC at h1;simp only[hs]at h1;split at h1
     ·simp at h1
     ·cases h1
   obtain⟨b,off,sp⟩:=a;simp only at hsp;subst hsp;refine⟨b,off,rfl,fun j y hj=>?_⟩;have hne:0<ks.length:=h0;have hjl:j<(Cont.lits ks.length ((zm len).map R)).flat.length:=(zC.1 hj).1;rw[Cont.flat_length]at hjl;simp only[Cont.n,Cont.e,qh,x7]at hjl;have hq:j/ks.length<len:=yE (by rw[xI];exact hjl);have hr:j%ks.length<ks.length:=ya _ hne;have hg:=Cont.flat_get (.lits ks.length ((zm len).map R)) (i:=j/ks.length) (j:=j%ks.length) (by simpa [Cont.n]using hq) hr;have ej:j/ks.length*ks.length+j%ks.length=j:=by rw[xI];exact yu j _
   simp only[Cont.e]at hg;rw[ej,hj]at hg;have hcell:=(hR (j/ks.length) hq).2 (j%ks.length) hr;have hfl:=je7 (hR (j/ks.length) hq).1;rw[jaT,jaT,xL,ej,zH (by omega)]at hcell;rw[hcell];simp only[zj]at hg;simp[hg,Cont.cell,zb,hq,zH (show j%ks.length<(R (j/ks.length)).length by omega)]
def jj6 {v:zs} {c c':Cont} (h:jaH w v c) (hn:c'.n=c.n) (hf:c'.flat=c.flat):jaH w v c':=by
 obtain⟨a,cap,hv,hc,hcell⟩:=h
 exact⟨a,cap,by rw[hn];exact hv,by rw[hn];exact hc,fun h=>by
  obtain⟨b,off,e,hx⟩:=hcell (by rw[<-hn];exact h);exact⟨b,off,e,by rw[hf];exact hx⟩⟩
def jxA:∀{n:Nat} {r:List D},ja1 (zh n (.i .i64)) r->∃l:List Int,r=l.map (D.i .i64)∧l.length=n∧∀x∈l,inI x
 |0,[],_=>⟨[],rfl,rfl,fun _ h=>by cases h⟩
 |n+1,.i k x::r,h=>by
  obtain⟨l,h1,h2,h3⟩:=jxA (n:=n) h.2;obtain⟨rfl,hw⟩:=h.1;refine⟨x::l,by rw[h1];rfl,by simp[h2],fun y hy=>?_⟩;rcases qr.1 hy with rfl|hy
  ·unfold inI;simpa [Lit.wf,kS,kU,fq,fQ]using hw
  ·exact h3 y hy
 |0,_::_,h=>h.elim
 |_+1,[],h=>h.elim
 |_+1,.b _::_,h=>h.1.elim
 |_+1,.f _ _::_,h=>h.1.elim
 |_+1,.s _::_,h=>h.1.elim
 |_+1,.v _::_,h=>h.1.elim
def jsN {n:Nat} {rows:List (List D)} (h:∀r∈rows,ja1 (zh n (.i .i64)) r):∃l:List (List Int),rows=l.map (fun r=>r.map (D.i .i64))∧l.length=rows.length∧∀r∈l,r.length=n∧∀x∈r,inI x:=by
 induction rows with
 |nil=>exact⟨[],rfl,rfl,fun _ h=>by cases h⟩
 |cons r rows ih =>
  obtain⟨l,h1,h2,h3⟩:=ih fun r hr=>h r (zu _ hr);obtain⟨x,h4,h5,h6⟩:=jxA (h r zw);refine⟨x::l,by rw[h1,h4];rfl,by simp[h2],fun y hy=>?_⟩;rcases qr.1 hy with rfl|hy
  ·exact⟨h5,h6⟩
  ·exact h3 y hy
def jsO {n:Nat} {l:List (List Int)} (h:∀r∈l,r.length=n):(Cont.recs n l).flat=(Cont.lits n (l.map fun r=>r.map (D.i .i64))).flat:=by
 simp only[Cont.flat]
 induction l with
 |nil=>rfl
 |cons r l ih =>
  rw[xz,zL,xz,ih fun r hr=>h r (zu _ hr)]
  congr 1
  have hr:=h r zw;subst hr;rw[jkU];exact(litD_self' (r.map (D.i .i64)) (by simp)).symm
 where
 litD_self' {n:Nat} (r:List D) (h:r.length=n):jji n r=r:=by subst h;exact jg5 r
def jAG {t e:qI} {d n fuel:Nat} {cs:List zs} {x:DataW H × List jM} (ht:P.underlying t=some (.slice e)) (hk:jfj P d e=some (zh n (.i .i64))) (hc:P.cellsOf e=n) (h0:0<n)
  (hx:xG enc P w base spare held fuel t cs=some x) :
  ∃(v:zs) (l:List (List Int)),cs=[v]∧jaH w v (.recs n l)∧(∀r∈l,r.length=n∧∀x∈r,inI x)∧(x.1=.nil∧l=[]∨∃el sp,x.1=.slice el sp∧el.length=l.length):=by
 obtain⟨v,rows,h1,h2,h3,h4⟩:=jsM ht hk (by simpa using hc) (by simpa using h0) hx;obtain⟨l,h5,h6,h7⟩:=jsN h2;subst h5;refine⟨v,l,h1,jj6 h3 (by simp[Cont.n]) ?_,h7,?_⟩
 ·rw[yc];exact jsO fun r hr=>(h7 r hr).1
 ·rcases h4 with h4|⟨el,sp,h4,h8⟩
  ·exact .inl ⟨h4.1,by simpa using h4.2⟩
  ·exact .inr ⟨el,sp,h4,by simpa using h8⟩
end
inductive ArgIs (w:zr):zs->A->Prop where
 |d (x:D):ArgIs w x.val (.d x)
 |s (l:List D):ArgIs w (.agg (l.map D.val).toArray) (.s l)
 |r (v:zs) (c:Cont) (he:0<c.e) (h:jaH w v c):ArgIs w v (.r c)
section
variable [Globs] {P:zP} {w:zr}
end
section
variable {H:Type} {enc:qI × zs->H} {P:zP}
def jvS {sp:Nat->Bool} (hl:laidOutB P=true) {W W':zr} (hb:yn W.heap.size W W'):∀(ts:List qI) (vs:List zs) (ds:List (DataW H)) (ps:List jM),(∀t∈ts,P.readableRec t=true∧t<P.types.size) -> gV enc P W 0 (fun _=>true) true ts vs ds ps->(∀p∈ps,p.block<W.heap.size)->(∀p∈ps,sp p.block=true)->gV enc P W' 0 sp true ts vs ds ps
 |[],[],[],_,_,h,_,_=>h
 |t::ts,v::vs,d::ds,ps,ht,h,hlt,hs=>by
  obtain⟨p,q,h1,h2,rfl⟩:=h;have htt:=ht t zw
  exact⟨p,q,WideElems.Trod_stays hl htt.1 htt.2 h1 (fun x hx=>hb.same (hlt x (yF _ hx))) (fun x hx=>hs x (yF _ hx)),jvS hl hb ts vs ds q (fun t ht'=>ht t (zu _ ht')) h2 (fun x hx=>hlt x (yz _ hx)) (fun x hx=>hs x (yz _ hx)),rfl⟩
 |[],_::_,_,_,_,h,_,_=>h.elim
 |_::_,[],_,_,_,h,_,_=>h.elim
 |[],[],_::_,_,_,h,_,_=>h.elim
 |_::_,_::_,[],_,_,h,_,_=>h.elim
def jB3 {f:Func} {s:ChangeSpec} {apart fresh handsOn again:Bool} {W W':zr} {args:Array zs} {ds gs:List (DataW H)} {before:List jM} {tb:qI} (hvars:s.vars=[]) (hrt:f.resultTypes=#[tb]) (htb:P.underlying tb=some .bool)
  (hres:(s.fn H (ds++gs)).results=[.lit (.bool true)]) (hargs:(s.fn H (ds++gs)).args=ds) (hsv:(s.fn H (ds++gs)).vars=[]) (hl:laidOutB P=true) (hread:∀t∈f.params.toList,P.readableRec t=true∧t<P.types.size)
  (hW:DataW.Whole enc P f.params.toList s.vars apart W args.toList ds gs before) (hb:yn W.heap.size W W'):s.post enc P f apart fresh handsOn again W args (.bool true) W':=by
 have hlt:∀p∈before,p.block<W.heap.size:=fun p hp=>hW.lt p hp;have hW':=hW;obtain⟨p,q,h1,h2,rfl,hfz,hnd⟩:=hW';rw[hvars]at h2
 have hq:q=[]:=by
  cases gs with
  |nil=>exact h2
  |cons _ _=>exact h2.elim
 subst hq;rw[yw]at hlt hfz hnd;have hA:∀sp:Nat->Bool,(∀x∈p,sp x.block=true)->gV enc P W' 0 sp true f.params.toList args.toList ds p:=fun sp hs=>jvS hl hb _ _ _ _ hread h1 hlt hs;have hR:∀(b:Nat) (sp:Nat->Bool) (hd:Bool),gV enc P W' b sp hd [tb] [.bool true] [.lit (.bool true)] []:=fun b sp hd=>⟨[],[],⟨1,by simp[xG,htb,fo]⟩,rfl,rfl⟩
 have hrl:(Value.bool true).resultList f.resultTypes.size=[.bool true]:=by rw[hrt];rfl
 have hrt':f.resultTypes.toList=[tb]:=by rw[hrt]
 refine⟨ds,gs,p++[],[],p,[],hW,?_,?_,?_,World.keptBut_mono (fun x hx=>⟨hx,.inr (.inl (by simpa using hx))⟩) (hb.frame (·∈ p++[])),fun _=>⟨fun j t r hj hr=>?_,?_⟩⟩
 ·rw[hrl,hrt',hres];exact hR _ _ _
 ·rw[hargs];exact hA _ (fun x hx=>by simpa using hlt x hx)
 ·rw[hvars,hsv];rfl
 ·rw[hrt]at hj;rw[hrl]at hr;cases j with
  |zero =>
   simp at hj hr;subst hj;subst hr;exact okWide_bool_mk htb _
  |succ j=>simp at hj
 ·refine⟨[.lit (.bool true)]++ds,[],p,⟨p,[],?_,by rw[hvars];rfl,by simp,?_,?_⟩,fun x hx _=>by simpa using hx⟩
  ·rw[hrl,hrt'];exact⟨[],p,⟨1,by simp[xG,htb,fo]⟩,hA _ (fun _ _=>rfl),rfl⟩
  ·intro b off hp;rw[hb.frozen (hlt _ hp)];exact hfz b off hp
  ·exact hnd
end
section
variable {H:Type} {enc:qI × zs->H} {P:zP} {w:zr} {base:Nat} {spare:Nat->Bool} {held:Bool} {r:Reach} {b0:Nat}
def jvT {t e:qI} {v v':zs} (ht:P.underlying t=some (.slice e)) (hval:gD P w r b0 t v) (h:v.cells.toList=[v']):v=v':=by
 obtain⟨a,len,cap,rfl⟩:=okWide_slice ht hval;simpa [fo]using h
def jB4 {t e:qI} {d n:Nat} {v:zs} {x:DataW H} {p:List jM} (ht:P.underlying t=some (.slice e)) (hk:jfj P d e=some (zh n (.i .i64))) (hc:P.cellsOf e=n) (h0:0<n)
  (hval:gD P w r b0 t v) (h:kv enc P w base spare held t v x p) :
  ∃l:List (List Int),ArgIs w v (.r (.recs n l))∧(∀r∈l,r.length=n∧∀x∈r,inI x)∧(x=.nil∧l=[]∨∃el sp,x=.slice el sp∧el.length=l.length):=by
 obtain⟨fuel,hx⟩:=h;obtain⟨v',l,h1,h2,h3,h4⟩:=jAG ht hk hc h0 hx;have:=jvT ht hval h1;subst this;exact⟨l,.r _ _ h0 h2,h3,h4⟩
def jEp {α:Type} {ts:List qI} {ds:List (DataW H)} (h:(DataW.weightsEach P ts ds).all (·<= reachBytes)=true) {j:Nat} {t e:qI} {x:DataW H} {l:List α} (ht:ts[j]?=some t) (hd:ds[j]?=some x) (hu:P.underlying t=some (.slice e)) (hb:0<P.bytesOf e)
  (hx:x=.nil∧l=[]∨∃el sp,x=.slice el sp∧el.length=l.length):l.length*P.bytesOf e<=140737488355328:=by
 rcases hx with ⟨_,rfl⟩|⟨el,sp,rfl,he⟩
 ·simp
 ·have h1:=sized_slice h ht hd hu;have h2:=reachBytes_lt;have h3:l.length*P.bytesOf e<=(el.length+sp.length)*P.bytesOf e:=qb _ (by omega);omega
end
end Go.Sx
end

section
namespace Go.Sx
open Go.RowKit Go.ChangeShapes Go.WideShapes
inductive K2 where
 |d (k:K)
 |s (ks:List K)
inductive T1 where
 |d (x:D)
 |r (c:Cont)
 |xl (X:XC)
inductive Cell2 (w:zr):K2->zs->T1->Prop where
 |d (k:K) (x:D) (h:k.fits x):Cell2 w (.d k) x.val (.d x)
 |s (ks:List K) (v:zs) (rows:List (List D)) (h0:0<ks.length) (h:∀r∈rows,ja1 ks r) (hr:jaH w v (.lits ks.length rows)):Cell2 w (.s ks) v (.r (.lits ks.length rows))
inductive Cells2 (w:zr):List K2->List zs->List T1->Prop where
 |nil:Cells2 w [] [] []
 |cons {k:K2} {v:zs} {t:T1} {ks:List K2} {vs:List zs} {ts:List T1} (h:Cell2 w k v t) (r:Cells2 w ks vs ts):Cells2 w (k::ks) (v::vs) (t::ts)
def Cells2.append {w:zr} {ks ks':List K2} {vs vs':List zs} {ts ts':List T1} (h:Cells2 w ks vs ts) (h':Cells2 w ks' vs' ts'):Cells2 w (ks++ks') (vs++vs') (ts++ts'):=by
 induction h with
 |nil=>exact h'
 |cons h r ih=>exact .cons h ih
def je8 (g:qI->Option (List K2)) (P:zP):Nat->List Field->Option (List K2)|_,[]=>some []|n,f::fs=>match g f.type with|none=>none|some ks=>if f.offset=n∧P.cellsOf f.type=ks.length then(je8 g P (n+ks.length) fs).map (ks ++ ·)else none
def jeA (P:zP):Nat->qI->Option (List K2)|0,_=>none|d+1,t=>match jfj P d t with|some ks=>some (ks.map .d)|none=>match P.underlying t with|some (.slice e)=>(match jfj P d e with|some (k::ks)=>if P.cellsOf e=ks.length+1 then some [.s (k::ks)]else none|_=>none)|some (.struct fs)=>(match je8 (jeA P d) P 0 fs.toList with|some ks=>if P.cellsOf t=ks.length then some ks else none|none=>none)|some (.array n e)=>(match jeA P d e with|some ks=>if P.cellsOf t=n*ks.length∧P.cellsOf e=ks.length then some (zh n ks).flatten else none|none=>none)|_=>none
section
variable {H:Type} {enc:qI × zs->H} {P:zP} {w:zr} {base:Nat} {spare:Nat->Bool} {held:Bool}
def jB5 {ks:List K} {ds:List D} (h:ja1 ks ds):Cells2 w (ks.map .d) (ds.map D.val) (ds.map .d):=by
 induction ks generalizing ds with
 |nil=>cases ds with
  |nil=>exact .nil
  |cons _ _=>exact h.elim
 |cons k ks ih=>cases ds with
  |nil=>exact h.elim
  |cons d ds=>exact .cons (.d k d h.1) (ih h.2)
def jkA {g:qI->Option (List K2)} {m:Nat} (ih:∀t ks cs x,g t=some ks->xG enc P w base spare held m t cs=some x->∃ts,Cells2 w ks cs ts) :
  ∀(fs:List Field) (n:Nat) (ks:List K2) (cs:List zs),je8 g P n fs=some ks->cs.length=n+ks.length->(∀f∈fs,∃x,xG enc P w base spare held m f.type ((cs.drop f.offset).take (P.cellsOf f.type))=some x) -> ∃ts,Cells2 w ks (cs.drop n) ts
 |[],n,ks,cs,hk,hl,_=>by
  simp only[je8,zj]at hk;subst hk;refine⟨[],?_⟩;simp at hl;rw[jk (by omega)];exact .nil
 |f::fs,n,ks,cs,hk,hl,h=>by
  simp only[je8]at hk;split at hk
  ·cases hk
  ·rename_i kf hg;split at hk
   ·rename_i hc;cases hr:je8 g P (n+kf.length) fs with
    |none=>simp[hr]at hk
    |some kr =>
     simp only[hr,qk,zj]at hk;subst hk;obtain⟨x,hx⟩:=h f zw;rw[hc.1,hc.2]at hx;obtain⟨ts0,h0⟩:=ih f.type kf _ x hg hx;obtain⟨ts1,h1⟩:=jkA ih fs (n+kf.length) kr cs hr (by rw[hl,qc];omega) (fun f' hf'=>h f' (zu _ hf'));refine⟨ts0++ts1,?_⟩;have e:cs.drop n=(cs.drop n).take kf.length++cs.drop (n+kf.length):=by rw[<-j9];exact(xQ _ _).symm
     rw[e];exact h0.append h1
   ·cases hk
def jmB {ks:List K2} {e:qI} {m:Nat} (ih:∀cs x,xG enc P w base spare held m e cs=some x->∃ts,Cells2 w ks cs ts) :
  ∀(n:Nat) (cs:List zs),cs.length=n*ks.length->(∀i,i<n->∃x,xG enc P w base spare held m e ((cs.drop (i*ks.length)).take ks.length)=some x)->∃ts,Cells2 w (zh n ks).flatten cs ts
 |0,cs,hl,_=>by
  have:cs=[]:=by simpa using hl
  subst this;exact⟨[],.nil⟩
 |n+1,cs,hl,h=>by
  obtain⟨x,hx⟩:=h 0 (by omega);obtain⟨t0,h0⟩:=ih _ x hx
  obtain⟨t1,h1⟩:=jmB ih n (cs.drop ks.length) (by rw[xy,hl,qE];omega) (fun i hi=>by
   obtain⟨y,hy⟩:=h (i+1) (by omega);refine⟨y,?_⟩;rw[j9];rw[show ks.length+i*ks.length=(i+1)*ks.length by rw[qE];omega];exact hy)
  refine⟨t0++t1,?_⟩;have:=h0.append h1;simpa [List.replicate_succ]using this
def jfk:∀(d:Nat) (t:qI) (ks:List K2) (fuel:Nat) (cs:List zs) (x:DataW H × List jM),jeA P d t=some ks->xG enc P w base spare held fuel t cs=some x->∃ts,Cells2 w ks cs ts
 |0,_,_,_,_,_,h,_=>by cases h
 |d+1,t,ks,fuel,cs,x,hk,hx=>by
  unfold jeA at hk;split at hk
  ·rename_i ks' hks;cases hk;obtain⟨ds,rfl,h2⟩:=jf2 d t ks' fuel cs x hks hx;exact⟨_,jB5 h2⟩
  ·split at hk
   ·rename_i e ht;split at hk
    ·rename_i k ks' hks;split at hk
     ·rename_i hc;cases hk;obtain⟨v,rows,rfl,h2,h3,_⟩:=jsM ht hks (by simpa using hc) (by simp) hx;exact⟨_,.cons (.s _ v rows (by simp) h2 h3) .nil⟩
     ·cases hk
    ·cases hk
   ·rename_i fs ht;split at hk
    ·rename_i ks' hks;split at hk
     ·rename_i hc;cases hk;obtain⟨xs,n,rfl,_,hl,hxl,hf⟩:=gK ht hx
      have:=jkA (enc:=enc) (w:=w) (base:=base) (spare:=spare) (held:=held) (g:=jeA P d) (m:=n) (fun t ks cs x h1 h2=>jfk d t ks n cs x h1 h2) fs.toList 0 ks cs hks (by rw[hl,hc];omega) (fun f hfm=>by
       obtain⟨i,hi,hfi⟩:=xx.1 hfm;have hi':i<fs.size:=by simpa using hi
       have h1:=hf i f (by rw[xm hi'];simpa using hfi);exact⟨xs[i]'(by omega),by rw[h1,zH]⟩)
      simpa using this
     ·cases hk
    ·cases hk
   ·rename_i n e ht;split at hk
    ·rename_i ks' hks;split at hk
     ·rename_i hc;cases hk;obtain⟨xs,m,rfl,_,hl,hxl,hf⟩:=f9 ht hx
      exact jmB (fun cs x h=>jfk d e ks' m cs x hks h) n cs (by rw[hl,hc.1]) (fun i hi=>by
       have h1:=hf i hi;rw[hc.2]at h1;exact⟨xs[i]'(by omega),by rw[h1,zH]⟩)
     ·cases hk
    ·cases hk
   ·cases hk
end
inductive T1Is (w:zr):zs->T1->Prop where
 |d (x:D):T1Is w x.val (.d x)
 |r (v:zs) (c:Cont) (he:0<c.e) (h:jaH w v c):T1Is w v (.r c)
 |xl (v:zs) (X:XC) (h:IsX (fun k=>k<w.heap.size) w v X):T1Is w v (.xl X)
def jo5 {w:zr} {v:zs} {t:T1} (h:Cell2 w (.d (.i .i64)) v t):∃n:Int,T1Is w v (.d (.i .i64 n))∧inI n:=by
 cases h with
 |d k x h =>
  cases x with
  |i k n =>
   obtain⟨rfl,hw⟩:=h;exact⟨n,.d _,by unfold inI;simpa [Lit.wf,kS,kU,fq,fQ]using hw⟩
  |_=>exact h.elim
def jvU {w:zr} {v:zs} {t:T1} (h:Cell2 w (.d .s) v t):∃n:ByteArray,T1Is w v (.d (.s n))∧n.size<=maxLen:=by
 cases h with
 |d k x h =>
  cases x with
  |s n=>exact⟨n,.d _,h⟩
  |_=>exact h.elim
def jsP {w:zr} {n:Nat} {v:zs} {t:T1} (h:Cell2 w (.s (zh n (.i .i64))) v t):∃l:List (List Int),T1Is w v (.r (.recs n l))∧∀r∈l,r.length=n∧∀x∈r,inI x:=by
 cases h with
 |s ks v rows h0 h2 h3 =>
  obtain⟨l,h5,h6,h7⟩:=jsN h2;subst h5;rw[yc]at h0 h3;exact⟨l,.r v _ h0 (jj6 h3 (by simp[Cont.n]) (jsO fun r hr=>(h7 r hr).1)),h7⟩
def jmC {w:zr} {v:zs} {t:T1} (h:Cell2 w (.s [.i .i64]) v t):∃l:List Int,T1Is w v (.r (.ints .i64 l))∧∀x∈l,inI x:=by
 obtain⟨l,h2,h3⟩:=jsP (n:=1) h;cases h2 with
 |r _ _ _ h2 =>
  refine⟨l.map (fun r=>r.getD 0 0),.r v _ (Nat.succ_pos 0) (jj6 h2 (by simp[Cont.n]) ?_),fun x hx=>?_⟩
  ·simp only[Cont.flat];rename_i he;clear h2 he
   induction l with
   |nil=>rfl
   |cons r l ih =>
    rw[zL,xz,xz,ih (fun r hr=>h3 r (zu _ hr))];rfl
  ·obtain⟨r,hr,rfl⟩:=qn.1 hx;have:=h3 r hr
   match r,this with
   |[y],this=>exact this.2 y (by simp)
def t1_of {w:zr} {v:zs} {c:Cont} (h:ArgIs w v (.r c)):T1Is w v (.r c):=by
 cases h with
 |r _ _ he h=>exact .r _ _ he h
section
variable [Globs]
inductive T2 where
 |c (t:T1)
 |a (l:List T1)
inductive T1sAre (w:zr):List zs->List T1->Prop where
 |nil:T1sAre w [] []
 |cons {v:zs} {t:T1} {vs:List zs} {ts:List T1} (h:T1Is w v t) (r:T1sAre w vs ts):T1sAre w (v::vs) (t::ts)
inductive T2Is (w:zr):zs->T2->Prop where
 |c {v:zs} {t:T1} (h:T1Is w v t):T2Is w v (.c t)
 |a {vs:List zs} {ts:List T1} (h:T1sAre w vs ts):T2Is w (.agg vs.toArray) (.a ts)
inductive T2sAre (w:zr):List zs->List T2->Prop where
 |nil:T2sAre w [] []
 |cons {v:zs} {t:T2} {vs:List zs} {ts:List T2} (h:T2Is w v t) (r:T2sAre w vs ts):T2sAre w (v::vs) (t::ts)
structure TB where
 cs:List C
 hp:Hp
 n:Nat
def T1.bld (n:Nat):T1->TB| .d x=>⟨[.d x],[],n⟩| .r c=>⟨[.o n],[(n,.ext c)],n+1⟩| .xl X=>⟨[.o n],[(n,.xext X)],n+1⟩
def jqA:Nat->List T1->TB|n,[]=>⟨[],[],n⟩|n,t::l=>let a:=t.bld n;let b:=jqA a.n l; ⟨a.cs++b.cs,b.hp++a.hp,b.n⟩
structure TV where
 vs:List V
 hp:Hp
 n:Nat
def T2.bld (n:Nat):T2->TV| .c t=>let a:=t.bld n; ⟨[.w (.c (jfV a.cs))],a.hp,a.n⟩| .a l=>let a:=jqA n l; ⟨[.w (.a a.cs)],a.hp,a.n⟩
def jcA:Nat->List T2->TV|n,[]=>⟨[],[],n⟩|n,t::l=>let a:=t.bld n;let b:=jcA a.n l; ⟨a.vs++b.vs,b.hp++a.hp,b.n⟩
def Hk (w:zr) (v:zs):O->Prop| .ext c=>jaH w v c∧0<c.e| .xext X=>IsX (fun k=>k<w.heap.size) w v X|_=>False
structure TOK (w:zr) (n:Nat) (I I':Env) (vals:List zs) (cs:List C) (hp:Hp) (n':Nat):Prop where
 agree:jah n I I'
 le:n<=n'
 val:cs.map (C.val I')=vals
 lt:∀c∈cs,C.lt n' c
 heap:∀k o,find hp k=some o->n<=k∧k<n'∧Hk w (I' k) o
def T1.bld_ok {w:zr} {v:zs} {t:T1} (h:T1Is w v t) (n:Nat) (I:Env):∃I',TOK w n I I' [v] (t.bld n).cs (t.bld n).hp (t.bld n).n:=by
 cases h with
 |d x=>exact⟨I,jah.refl _ _,zp _,rfl,(fun c hc=>by simp only[T1.bld,z6]at hc;subst hc;trivial),fun _ _ h=>by cases h⟩
 |r v c he h =>
  refine⟨upd I n v,jar _ _ _,xu _,by simp[T1.bld,C.val],(fun c hc=>by simp only[T1.bld,z6]at hc;subst hc;exact zo n),fun k o hf=>?_⟩;simp only[T1.bld,find]at hf;split at hf
  ·rename_i e;subst e;cases hf;exact⟨zp _,zo _,by rw[upd_same];exact⟨h,he⟩⟩
  ·cases hf
 |xl v X h =>
  refine⟨upd I n v,jar _ _ _,xu _,by simp[T1.bld,C.val],(fun c hc=>by simp only[T1.bld,z6]at hc;subst hc;exact zo n),fun k o hf=>?_⟩;simp only[T1.bld,find]at hf;split at hf
  ·rename_i e;subst e;cases hf;exact⟨zp _,zo _,by rw[upd_same];exact h⟩
  ·cases hf
def TOK.append {w:zr} {n n1 n2:Nat} {I I1 I2:Env} {a b:List zs} {ca cb:List C} {ha hb:Hp} (h1:TOK w n I I1 a ca ha n1) (h2:TOK w n1 I1 I2 b cb hb n2):TOK w n I I2 (a++b) (ca++cb) (hb++ha) n2:=by
 refine⟨h1.agree.trans h2.agree h1.le,xb h1.le h2.le,?_,?_,?_⟩
 ·rw[xa,h2.val,<-h1.val]
  congr 1
  exact qx fun c hc=>C.val_agree h2.agree (h1.lt c hc)
 ·intro c hc;rcases qR.1 hc with hc|hc
  ·exact C.lt_mono h2.le (h1.lt c hc)
  ·exact h2.lt c hc
 ·intro k o hf;rw[jaq]at hf;cases hg:find hb k with
  |some o2 =>
   rw[hg]at hf;cases hf;obtain⟨q1,q2,q3⟩:=h2.heap k o hg;exact⟨xb h1.le q1,q2,q3⟩
  |none =>
   rw[hg]at hf;obtain⟨q1,q2,q3⟩:=h1.heap k o hf;exact⟨q1,zG q2 h2.le,by rw[h2.agree k q2];exact q3⟩
def jB6 {w:zr} {vs:List zs} {ts:List T1} (h:T1sAre w vs ts):∀(n:Nat) (I:Env),∃I',TOK w n I I' vs (jqA n ts).cs (jqA n ts).hp (jqA n ts).n:=by
 induction h with
 |nil=>exact fun n I=>⟨I,jah.refl _ _,zp _,rfl,(fun _ h=>by cases h),fun _ _ h=>by cases h⟩
 |cons h r ih =>
  intro n I;obtain⟨I1,k1⟩:=T1.bld_ok h n I;obtain⟨I2,k2⟩:=ih _ I1;exact⟨I2,k1.append k2⟩
structure TVOK (w:zr) (n:Nat) (I I':Env) (vals:List zs) (vs:List V) (hp:Hp) (n':Nat):Prop where
 agree:jah n I I'
 le:n<=n'
 val:vs.map (V.val I')=vals
 lt:∀c∈vs,V.lt n' c
 heap:∀k o,find hp k=some o->n<=k∧k<n'∧Hk w (I' k) o
def T2.bld_ok {w:zr} {v:zs} {t:T2} (h:T2Is w v t) (n:Nat) (I:Env):∃I',TVOK w n I I' [v] (t.bld n).vs (t.bld n).hp (t.bld n).n:=by
 cases h with
 | @c v t h =>
  obtain⟨I',k⟩:=T1.bld_ok h n I;have hone:∃c,(t.bld n).cs=[c]:=by cases t<;>exact⟨_,rfl⟩
  obtain⟨c,hc⟩:=hone;have hval:=k.val;have hlt:=k.lt;rw[hc]at hval hlt;refine⟨I',k.agree,k.le,?_,?_,k.heap⟩
  ·simp only[T2.bld,hc,jfV,zL,xp,V.val,W.val];simpa using hval
  ·intro y hy;simp only[T2.bld,hc,jfV,z6]at hy;subst hy;exact hlt c zw
 | @a vs ts h =>
  obtain⟨I',k⟩:=jB6 h n I;refine⟨I',k.agree,k.le,?_,?_,k.heap⟩
  ·simp only[T2.bld,zL,xp,V.val,W.val,k.val]
  ·intro y hy;simp only[T2.bld,z6]at hy;subst hy;exact k.lt
def jB7 {w:zr} {vs:List zs} {ts:List T2} (h:T2sAre w vs ts):∀(n:Nat) (I:Env),∃I',TVOK w n I I' vs (jcA n ts).vs (jcA n ts).hp (jcA n ts).n:=by
 induction h with
 |nil=>exact fun n I=>⟨I,jah.refl _ _,zp _,rfl,(fun _ h=>by cases h),fun _ _ h=>by cases h⟩
 | @cons v t vs ts h r ih =>
  intro n I;obtain⟨I1,k1⟩:=T2.bld_ok h n I;obtain⟨I2,k2⟩:=ih (t.bld n).n I1;refine⟨I2,k1.agree.trans k2.agree k1.le,xb k1.le k2.le,?_,?_,?_⟩
  ·simp only[jcA,xa,k2.val]
   have:(t.bld n).vs.map (V.val I2)=[v]:=by
    rw[<-k1.val];exact qx fun c hc=>V.val_agree k2.agree (k1.lt c hc)
   rw[this];rfl
  ·intro c hc;rcases qR.1 hc with hc|hc
   ·exact V.lt_mono k2.le (k1.lt c hc)
   ·exact k2.lt c hc
  ·intro k o hf;have hf:find ((jcA (t.bld n).n ts).hp++(t.bld n).hp) k=some o:=hf;rw[jaq]at hf;cases hg:find (jcA (t.bld n).n ts).hp k with
   |some o2 =>
    rw[hg]at hf;cases hf;obtain⟨q1,q2,q3⟩:=k2.heap k o hg;exact⟨xb k1.le q1,q2,q3⟩
   |none =>
    rw[hg]at hf;obtain⟨q1,q2,q3⟩:=k1.heap k o hf;exact⟨q1,zG q2 k2.le,by rw[k2.agree k q2];exact q3⟩
def jyZ {P:zP} {w:zr} {f:Nat} {shs:List SV} {g:List Lf->Option GT} {vs:List zs} {ts:List T2} {ls:List Lf} {am:List C} {ob:Prop} {b:Bool} {fn:Func} (hok:jaF P f true (jak shs g)) (hargs:T2sAre w vs ts)
  (hto:jhY (jcA 0 ts).hp shs (jcA 0 ts).vs=some (ls,am)) (hg:g ls=some (.leaf ob [.c (.d (.b b))])) (ho:ob) (hb:b=true)
  (hfn:P.funcs[f]?=some fn) (hbody:fn.body=some (fn.body.getD .skip)) (hn:(fn.name == "runtime.NumGoroutine")=false) (hgl:jby (fun k=>k<w.heap.size) w) :
  Calls P f vs.toArray w fun e w'=>e=.returned (.bool true)∧yn w.heap.size w w':=by
 subst hb;obtain⟨I,k⟩:=jB7 hargs 0 (fun _=>zJ)
 have hh:HRel I (kd fun k=>k<w.heap.size) (jcA 0 ts).hp (jcA 0 ts).n w:=by
  refine⟨fun x o hf=>?_,fun x o x' o' q hf hf' _ hb=>?_,hgl⟩
  ·obtain⟨_,q2,q3⟩:=k.heap x o hf;cases o with
   |ext c=>exact⟨q2,trivial,q3.1,jaH.lt q3.1 q3.2⟩
   |xext X=>exact⟨q2,trivial,q3⟩
   |_=>exact q3.elim
  ·obtain⟨_,_,q3⟩:=k.heap x o hf;cases o with
   |ext c=>cases hb
   |xext X=>cases hb
   |_=>exact q3.elim
 have:=(hok.sound hfn hbody hn).sound I (kd fun k=>k<w.heap.size) w (jcA 0 ts).vs (jcA 0 ts).hp (jcA 0 ts).n ((GT.leaf ob [.c (.d (.b true))]).toRT am (jcA 0 ts).hp (jcA 0 ts).n) (by
  unfold jak;rw[hto];dsimp only;rw[hg]) ho k.lt hh (fun k hk=>jbJ.1 hk)
 rw[k.val]at this;refine this.mono ?_;rintro e w' ⟨I',rfl,hl⟩;exact⟨rfl,hl.mono rfl⟩
end
end Go.Sx
end

section
namespace Go.Sx
open Go.RowKit Go.ChangeShapes Go.WideShapes
def jy0 (w:zr) (ks:List K2) (v:zs):Prop :=
 ∃(n:Nat) (us:Nat->List zs) (ts:Nat->List T1) (a:Option Addr) (cap:Nat),(∀i,i<n->Cells2 w ks (us i) (ts i))∧v=.slice a n cap∧(n<=cap∧(a=none->cap=0)) ∧ (0<n->∃b off,a=some ⟨b,off,none⟩∧b<w.heap.size∧∀i j,i<n->j<ks.length->w.cell? ⟨b,off+(i*ks.length+j),none⟩=(us i)[j]?)
inductive K3 where
 |k (k:K2)
 |x (ks:List K2)
inductive Cell3 (w:zr):K3->zs->Prop where
 |k (k:K2) (v:zs) (t:T1) (h:Cell2 w k v t):Cell3 w (.k k) v
 |x (ks:List K2) (v:zs) (h0:0<ks.length) (h:jy0 w ks v):Cell3 w (.x ks) v
inductive Cells3 (w:zr):List K3->List zs->Prop where
 |nil:Cells3 w [] []
 |cons {k:K3} {v:zs} {ks:List K3} {vs:List zs} (h:Cell3 w k v) (r:Cells3 w ks vs):Cells3 w (k::ks) (v::vs)
def Cells3.append {w:zr} {ks ks':List K3} {vs vs':List zs} (h:Cells3 w ks vs) (h':Cells3 w ks' vs'):Cells3 w (ks++ks') (vs++vs'):=by
 induction h with
 |nil=>exact h'
 |cons h r ih=>exact .cons h ih
def jB8 {w:zr} {ks:List K2} {vs:List zs} {ts:List T1} (h:Cells2 w ks vs ts):Cells3 w (ks.map .k) vs:=by
 induction h with
 |nil=>exact .nil
 |cons h r ih=>exact .cons (.k _ _ _ h) ih
def je9 (g:qI->Option (List K3)) (P:zP):Nat->List Field->Option (List K3)|_,[]=>some []|n,f::fs=>match g f.type with|none=>none|some ks=>if f.offset=n∧P.cellsOf f.type=ks.length then(je9 g P (n+ks.length) fs).map (ks ++ ·)else none
def jmD (P:zP):Nat->qI->Option (List K3)|0,_=>none|d+1,t=>match jeA P d t with|some ks=>some (ks.map .k)|none=>match P.underlying t with|some (.slice e)=>(match jeA P d e with|some (k::ks)=>if P.cellsOf e=ks.length+1 then some [.x (k::ks)]else none|_=>none)|some (.struct fs)=>(match je9 (jmD P d) P 0 fs.toList with|some ks=>if P.cellsOf t=ks.length then some ks else none|none=>none)|_=>none
def Cells2.len {w:zr} {ks:List K2} {vs:List zs} {ts:List T1} (h:Cells2 w ks vs ts):vs.length=ks.length∧ts.length=ks.length:=by
 induction h with
 |nil=>exact⟨rfl,rfl⟩
 |cons h r ih=>exact⟨by simp[ih.1],by simp[ih.2]⟩
section
variable {H:Type} {enc:qI × zs->H} {P:zP} {w:zr} {base:Nat} {spare:Nat->Bool} {held:Bool}
def jqB {t e:qI} {ks:List K2} {d fuel:Nat} {cs:List zs} {x:DataW H × List jM} (ht:P.underlying t=some (.slice e)) (hk:jeA P d e=some ks) (hc:P.cellsOf e=ks.length) (h0:0<ks.length)
  (hx:xG enc P w base spare held fuel t cs=some x):∃v,cs=[v]∧jy0 w ks v:=by
 rcases kb ht hx with ⟨rfl,rfl⟩|⟨a,len,cap,elems,rest,n,rfl,rfl,rfl,hb,hl,hm,hel,hi,_,_⟩
 ·exact⟨_,rfl,0,fun _=>[],fun _=>[],none,0,fun i hi=>by omega,rfl,⟨zp _,fun _=>rfl⟩,fun h=>by omega⟩
 ·have hget:∀i,i<len->∃p:List zs × List T1,Cells2 w ks p.1 p.2∧∀j,j<ks.length->w.cell? ((a.add (i*ks.length)).add j)=p.1[j]?:=fun i hil=>by
   have h1:=hi i hil;rw[hc]at h1;have h2:elems[i]?=some (elems[i]'(by omega)):=zH (by omega);rw[h2]at h1;obtain⟨cs',hcs,htr⟩:=zK.1 h1;obtain⟨ts,hts⟩:=jfk d e ks n cs' _ hk htr;obtain⟨_,hcl,hat⟩:=fX hcs;exact⟨(cs',ts),hts,fun j hj=>hat j hj⟩
  let R:Nat->List zs × List T1:=fun i=>if h:i<len then yR (hget i h)else([],[])
  have hR:∀i (h:i<len),Cells2 w ks (R i).1 (R i).2∧∀j,j<ks.length->w.cell? ((a.add (i*ks.length)).add j)=(R i).1[j]?:=fun i h=>by
   have e:R i=yR (hget i h):=dif_pos h;rw[e];exact jq (hget i h)
  refine⟨_,rfl,len,fun i=>(R i).1,fun i=>(R i).2,some a,cap,fun i h=>(hR i h).1,rfl,⟨hl,fun h=>by cases h⟩,fun hn=>?_⟩;have hlen:=(hR 0 hn).1.len.1
  have hcell0:w.cell? ((a.add (0*ks.length)).add 0)=some ((R 0).1[0]'(by omega)):=by
   rw[(hR 0 hn).2 0 h0,zH]
  have hsp:a.spot=none:=by
   have h1:=hcell0;simp[fP]at h1;cases hs:a.spot with
   |none=>rfl
   |some s =>
    exfalso;unfold fC at h1;simp only[hs]at h1;split at h1
    ·simp at h1
    ·cases h1
  obtain⟨b,off,sp⟩:=a;simp only at hsp;subst hsp;refine⟨b,off,rfl,?_,fun i j hi hj=>?_⟩
  ·have h1:=hcell0;rw[jaT,jaT]at h1;exact xe w _ h1
  ·have:=(hR i hi).2 j hj;rw[jaT,jaT,xL]at this;exact this
def jkB {g:qI->Option (List K3)} {m:Nat} (ih:∀t ks cs x,g t=some ks->xG enc P w base spare held m t cs=some x->Cells3 w ks cs) :
  ∀(fs:List Field) (n:Nat) (ks:List K3) (cs:List zs),je9 g P n fs=some ks->cs.length=n+ks.length->(∀f∈fs,∃x,xG enc P w base spare held m f.type ((cs.drop f.offset).take (P.cellsOf f.type))=some x) -> Cells3 w ks (cs.drop n)
 |[],n,ks,cs,hk,hl,_=>by
  simp only[je9,zj]at hk;subst hk;simp at hl;rw[jk (by omega)];exact .nil
 |f::fs,n,ks,cs,hk,hl,h=>by
  simp only[je9]at hk;split at hk
  ·cases hk
  ·rename_i kf hg;split at hk
   ·rename_i hc;cases hr:je9 g P (n+kf.length) fs with
    |none=>simp[hr]at hk
    |some kr =>
     simp only[hr,qk,zj]at hk;subst hk;obtain⟨x,hx⟩:=h f zw;rw[hc.1,hc.2]at hx;have h0:=ih f.type kf _ x hg hx;have h1:=jkB ih fs (n+kf.length) kr cs hr (by rw[hl,qc];omega) (fun f' hf'=>h f' (zu _ hf'));have e:cs.drop n=(cs.drop n).take kf.length++cs.drop (n+kf.length):=by rw[<-j9];exact(xQ _ _).symm
     rw[e];exact h0.append h1
   ·cases hk
def jn8:∀(d:Nat) (t:qI) (ks:List K3) (fuel:Nat) (cs:List zs) (x:DataW H × List jM),jmD P d t=some ks->xG enc P w base spare held fuel t cs=some x->Cells3 w ks cs
 |0,_,_,_,_,_,h,_=>by cases h
 |d+1,t,ks,fuel,cs,x,hk,hx=>by
  unfold jmD at hk;split at hk
  ·rename_i ks' hks;cases hk;obtain⟨ts,h2⟩:=jfk d t ks' fuel cs x hks hx;exact jB8 h2
  ·split at hk
   ·rename_i e ht;split at hk
    ·rename_i k ks' hks;split at hk
     ·rename_i hc;cases hk;obtain⟨v,rfl,h2⟩:=jqB ht hks (by simpa using hc) (by simp) hx;exact .cons (.x _ v (by simp) h2) .nil
     ·cases hk
    ·cases hk
   ·rename_i fs ht;split at hk
    ·rename_i ks' hks;split at hk
     ·rename_i hc;cases hk;obtain⟨xs,n,rfl,_,hl,hxl,hf⟩:=gK ht hx
      have:=jkB (enc:=enc) (w:=w) (base:=base) (spare:=spare) (held:=held) (g:=jmD P d) (m:=n) (fun t ks cs x h1 h2=>jn8 d t ks n cs x h1 h2) fs.toList 0 ks cs hks (by rw[hl,hc];omega) (fun f hfm=>by
       obtain⟨i,hi,hfi⟩:=xx.1 hfm;have hi':i<fs.size:=by simpa using hi
       have h1:=hf i f (by rw[xm hi'];simpa using hfi);exact⟨xs[i]'(by omega),by rw[h1,zH]⟩)
      simpa using this
     ·cases hk
    ·cases hk
   ·cases hk
def jy1 {r:Reach} {b0:Nat} {t:qI} {d:Nat} {ks:List K3} {v:zs} {x:DataW H} {p:List jM} (ht:jbz P t=some true) (hk:jmD P d t=some ks)
  (hval:gD P w r b0 t v) (h:kv enc P w base spare held t v x p):∃vs,v=.agg (List.toArray vs)∧Cells3 w ks vs:=by
 obtain⟨fuel,hx⟩:=h;have h1:=jn8 d t ks fuel _ _ hk hx
 have hv:∃cs,v=.agg cs:=by
  unfold gD at hval;cases hU:P.underlying t with
  |none=>simp[jbz,hU]at ht
  |some u =>
   rw[hU]at hval;cases u with
   |struct fs=>obtain⟨cs,h,_⟩:=hval;exact⟨cs,h⟩
   |array n e=>obtain⟨cs,h,_⟩:=hval;exact⟨cs,h⟩
   |_=>simp[jbz,hU]at ht
 obtain⟨cs,rfl⟩:=hv;exact⟨cs.toList,by simp,h1⟩
end
def T1.nc:T1->NC| .d x=>.d x| .r c=>.r c| .xl _=>.d (.v zJ)
section
variable [Globs]
def jf3 {w:zr} {v:zs} {t:T1} (h:T1Is w v t) (hx:∀X,t≠.xl X):t.nc.at (fun k=>k<w.heap.size) w v:=by
 cases h with
 |d x=>exact rfl
 |r v c he h=>exact⟨h,jaH.lt h he⟩
 |xl v X h=>exact(hx X rfl).elim
abbrev jy2:List K2:=[.d .s,.d (.i .i64),.s [.i .i64],.s [.i .i64],.s [.i .i64],.d (.i .i64),.s (zh 5 (.i .i64)),.d (.i .i64)]
abbrev jfl:List NK:=zS
def jo6 {w:zr} {vs:List zs} {ts:List T1} (h:Cells2 w jy2 vs ts):∃r:List NC,jcP jfl r∧r.length=8∧vs.length=8∧∀j u,vs[j]?=some u->(r.getD j (.d (.v zJ))).at (fun k=>k<w.heap.size) w u:=by
 rcases h with _|⟨k0,r0⟩
 rcases r0 with _|⟨k1,r1⟩
 rcases r1 with _|⟨k2,r2⟩
 rcases r2 with _|⟨k3,r3⟩
 rcases r3 with _|⟨k4,r4⟩
 rcases r4 with _|⟨k5,r5⟩
 rcases r5 with _|⟨k6,r6⟩
 rcases r6 with _|⟨k7,r7⟩
 cases r7;obtain⟨a0,e0,_⟩:=jvU k0;obtain⟨a1,e1,_⟩:=jo5 k1;obtain⟨a2,e2,_⟩:=jmC k2;obtain⟨a3,e3,_⟩:=jmC k3;obtain⟨a4,e4,_⟩:=jmC k4;obtain⟨a5,e5,_⟩:=jo5 k5;obtain⟨a6,e6,_⟩:=jsP k6;obtain⟨a7,e7,_⟩:=jo5 k7;refine⟨[.d (.s a0),.d (.i .i64 a1),.r (.ints .i64 a2),.r (.ints .i64 a3),.r (.ints .i64 a4),.d (.i .i64 a5),.r (.recs 5 a6),.d (.i .i64 a7)],⟨rfl,fun j k x hk hx=>?_⟩,rfl,rfl,fun j u hu=>?_⟩
 ·match j,hk,hx with
  |0,hk,hx=>cases hk;cases hx;rfl
  |1,hk,hx=>cases hk;cases hx;rfl
  |2,hk,hx=>cases hk;cases hx;rfl
  |3,hk,hx=>cases hk;cases hx;rfl
  |4,hk,hx=>cases hk;cases hx;rfl
  |5,hk,hx=>cases hk;cases hx;rfl
  |6,hk,hx=>cases hk;cases hx;rfl
  |7,hk,hx=>cases hk;cases hx;rfl
  |j+8,hk,hx=>simp at hk
 ·match j,hu with
  |0,hu=>cases hu;exact jf3 e0 (fun X h=>by cases h)
  |1,hu=>cases hu;exact jf3 e1 (fun X h=>by cases h)
  |2,hu=>cases hu;exact jf3 e2 (fun X h=>by cases h)
  |3,hu=>cases hu;exact jf3 e3 (fun X h=>by cases h)
  |4,hu=>cases hu;exact jf3 e4 (fun X h=>by cases h)
  |5,hu=>cases hu;exact jf3 e5 (fun X h=>by cases h)
  |6,hu=>cases hu;exact jf3 e6 (fun X h=>by cases h)
  |7,hu=>cases hu;exact jf3 e7 (fun X h=>by cases h)
  |j+8,hu=>simp at hu
def jy3 {w:zr} {v:zs} (h:Cell3 w (.x jy2) v):∃l:List (List NC),T1Is w v (.xl (.st jfl l)):=by
 cases h with
 |x ks v h0 h =>
  obtain⟨n,us,ts,a,cap,h1,rfl,h3,h4⟩:=h
  let R:Nat->List NC:=fun i=>if h:i<n then yR (jo6 (h1 i h))else[]
  have hR:∀i (h:i<n),jcP jfl (R i)∧(R i).length=8∧(us i).length=8∧∀j u,(us i)[j]?=some u->((R i).getD j (.d (.v zJ))).at (fun k=>k<w.heap.size) w u:=fun i h=>by
   have e:R i=yR (jo6 (h1 i h)):=dif_pos h;rw[e];exact jq (jo6 (h1 i h))
  have hrows:∀r∈(zm n).map R,jcP jfl r:=fun r hr=>by
   obtain⟨i,hi,rfl⟩:=qn.1 hr;exact(hR i (qZ.1 hi)).1
  obtain⟨m1,m2,m3⟩:=(XC.st jfl []).cell_mk hrows;have m1:(XC.st jfl ((zm n).map R)).n=((zm n).map R).length:=m1;have m3:∀i j,i<((zm n).map R).length->j<8->(XC.st jfl ((zm n).map R)).cell i j=(((zm n).map R).getD i []).getD j (.d (.v zJ)):=m3;have hn:(XC.st jfl ((zm n).map R)).n=n:=by rw[m1];simp
  refine⟨(zm n).map R,.xl _ _ ⟨a,cap,by rw[hn],by rw[hn];exact h3,fun h=>?_⟩⟩;rw[hn]at h;obtain⟨b,off,rfl,hb,hc⟩:=h4 h;refine⟨b,off,rfl,hb,fun i j hi hj=>?_⟩;rw[hn]at hi;have hj:j<8:=hj;obtain⟨_,q2,q3,q4⟩:=hR i hi;have hu:(us i)[j]?=some ((us i)[j]'(by omega)):=zH (by omega);refine⟨_,(hc i j hi hj).trans hu,?_⟩;rw[m3 i j (by simpa using hi) hj];have:((zm n).map R).getD i []=R i:=by simp[zb,hi]
  rw[this];exact q4 j _ hu
end
end Go.Sx
end

section
namespace Go.Sx
open Go.RowKit Go.ChangeShapes Go.WideShapes
def jvV {k:qd}:∀{n:Nat} {r:List D},ja1 (zh n (.f k)) r->∃l:List Nat,r=l.map (D.f k)∧l.length=n
 |0,[],_=>⟨[],rfl,rfl⟩
 |n+1,.f k' x::r,h=>by
  obtain⟨l,h1,h2⟩:=jvV (n:=n) h.2;obtain⟨rfl,_⟩:=h.1;exact⟨x::l,by rw[h1];rfl,by simp[h2]⟩
 |0,_::_,h=>h.elim
 |_+1,[],h=>h.elim
 |_+1,.b _::_,h=>h.1.elim
 |_+1,.i _ _::_,h=>h.1.elim
 |_+1,.s _::_,h=>h.1.elim
 |_+1,.v _::_,h=>h.1.elim
def jB9 {k:qd} {n:Nat} {rows:List (List D)} (h:∀r∈rows,ja1 (zh n (.f k)) r):∃l:List (List Nat),rows=l.map (fun r=>r.map (D.f k))∧∀r∈l,r.length=n:=by
 induction rows with
 |nil=>exact⟨[],rfl,fun _ h=>by cases h⟩
 |cons r rows ih =>
  obtain⟨l,h1,h2⟩:=ih fun r hr=>h r (zu _ hr);obtain⟨x,h4,h5⟩:=jvV (h r zw);refine⟨x::l,by rw[h1,h4];rfl,fun y hy=>?_⟩;rcases qr.1 hy with rfl|hy
  ·exact h5
  ·exact h2 y hy
def jCa {k:qd} {n:Nat} {l:List (List Nat)} (h:∀r∈l,r.length=n):(Cont.frs k n l).flat=(Cont.lits n (l.map fun r=>r.map (D.f k))).flat:=by
 simp only[Cont.flat]
 induction l with
 |nil=>rfl
 |cons r l ih =>
  rw[xz,zL,xz,ih fun r hr=>h r (zu _ hr)]
  congr 1
  have hr:=h r zw;subst hr;rw[jgi];have:=jg5 (r.map (D.f k));rw[qh]at this;exact this.symm
def jCb {w:zr} {k:qd} {n:Nat} {v:zs} {t:T1} (h:Cell2 w (.s (zh n (.f k))) v t):∃l:List (List Nat),T1Is w v (.r (.frs k n l))∧∀r∈l,r.length=n:=by
 cases h with
 |s ks v rows h0 h2 h3 =>
  obtain⟨l,h5,h7⟩:=jB9 h2;subst h5;rw[yc]at h0 h3;exact⟨l,.r v _ h0 (jj6 h3 (by simp[Cont.n]) (jCa h7)),h7⟩
section
variable [Globs]
abbrev jy4:List K2:=[.s (zh 32 (.f .f32))]
def jo7 {w:zr} {vs:List zs} {ts:List T1} (h:Cells2 w jy4 vs ts):∃l:List (List Nat),(∀b∈l,b.length=32)∧∀u,vs[0]?=some u->NC.at (fun k=>k<w.heap.size) w u (.r (.frs .f32 32 l)):=by
 rcases h with _|⟨k0,r0⟩
 cases r0;obtain⟨l,e,h32⟩:=jCb k0;exact⟨l,h32,fun u hu=>by cases hu;exact jf3 e (fun X h=>by cases h)⟩
def jDd {w:zr} {v:zs} (h:jy0 w jy4 v):∃l:List (List (List Nat)),T1Is w v (.xl (.bb .f32 32 l))∧∀r∈l,∀b∈r,b.length=32:=by
 obtain⟨n,us,ts,a,cap,h1,rfl,h3,h4⟩:=h
 let R:Nat->List (List Nat):=fun i=>if h:i<n then yR (jo7 (h1 i h))else[]
 have hR:∀i (h:i<n),(∀b∈R i,b.length=32)∧∀u,(us i)[0]?=some u->NC.at (fun k=>k<w.heap.size) w u (.r (.frs .f32 32 (R i))):=fun i h=>by
  have e:R i=yR (jo7 (h1 i h)):=dif_pos h;rw[e];exact jq (jo7 (h1 i h))
 have hn:(XC.bb .f32 32 ((zm n).map R)).n=n:=by simp[XC.n]
 refine⟨(zm n).map R,.xl _ _ ⟨a,cap,by rw[hn],by rw[hn];exact h3,fun h=>?_⟩,fun r hr=>?_⟩
 ·rw[hn]at h;obtain⟨b,off,rfl,hb,hc⟩:=h4 h;refine⟨b,off,rfl,hb,fun i j hi hj=>?_⟩;rw[hn]at hi;have hj:j<1:=hj;obtain rfl:j=0:=by omega
  have hl:=(h1 i hi).len.1;have hu:(us i)[0]?=some ((us i)[0]'(by rw[hl];decide)):=zH _;refine⟨_,(hc i 0 hi (by decide)).trans hu,?_⟩;have e:((zm n).map R).getD i []=R i:=by simp[zb,hi]
  have:=(hR i hi).2 _ hu;rw[<-e]at this;exact this
 ·obtain⟨i,hi,rfl⟩:=qn.1 hr;exact(hR i (qZ.1 hi)).1
end
def jCc [Globs] {H:Type} {enc:qI × zs->H} {P:zP} {w:zr} {base:Nat} {spare:Nat->Bool} {held:Bool} {r:Reach} {b0:Nat} {t e:qI} {d:Nat} {v:zs} {x:DataW H} {p:List jM}
  (ht:P.underlying t=some (.slice e)) (hk:jeA P d e=some jy4) (hc:P.cellsOf e=1) (hval:gD P w r b0 t v) (h:kv enc P w base spare held t v x p) :
  ∃l:List (List (List Nat)),T1Is w v (.xl (.bb .f32 32 l))∧∀r∈l,∀b∈r,b.length=32:=by
 obtain⟨fuel,hx⟩:=h;obtain⟨v',h1,h2⟩:=jqB ht hk (by simpa using hc) (by decide) hx;have:=jvT ht hval h1;subst this;exact jDd h2
end Go.Sx
end
