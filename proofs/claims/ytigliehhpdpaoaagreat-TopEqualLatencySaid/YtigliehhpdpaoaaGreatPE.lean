/- Part 5 of the proof of TopEqualLatency: the executor, the mirrors of the functions, the plain facts. -/
import Derived.Test.YtigliehhpdpaoaaGreatPD
import Derived.IntWalk
set_option maxRecDepth 100000
set_option linter.unusedSectionVars false
set_option linter.unusedSimpArgs false
set_option linter.unusedVariables false
set_option linter.defProp false
open Bool renaming and_eq_true->zm,eq_iff_iff->jc,false_eq_true->qw,false_ne_true->qB,not_eq_false->fH,not_eq_false'->jF,not_eq_true->gP,not_eq_true'->xL,or_eq_false_iff->jg,or_eq_true->qY,or_false->kh,true_and->ki
open ByteArray renaming mk->qA
open Classical renaming byContradiction->yE
open Eq renaming mp->jK
open Go renaming Oper->qx,Operand->zU,Program->zQ,World->zs,undef->zX,wpList->fd,wp_mono->x7
open Go.Ending renaming returned->xX
open Go.FloatKind renaming decode->xa,nearest->qE
open Go.IntKind renaming i64->xd
open Go.Region renaming ready->jp,wanted->yy
open Go.Result renaming andThen_ok->zn
open Go.Sem renaming run_bind->zr,run_pure->zu
open Go.Value renaming ownBlock->zM,slice->qd
open Ieee renaming Format->hZ
open Ieee.Format renaming order->qo
open Int renaming le_refl->yl,toNat->zf,toNat_natCast->zg
open List renaming all_eq_true->zx,any_append->gZ,any_cons->yO,any_eq_false->xu,any_eq_true->qQ,any_nil->kq,append_assoc->qD,append_nil->yu,cons_append->qq,drop->yT,drop_zero->yA,ext_getElem->xF,find?_cons->f0,findIdx?_cons->xO,findIdx?_eq_none_iff->qk,findIdx?_eq_some_iff_getElem->qj,getD->za,getElem?_eq_getElem->zG,getElem?_eq_none->zW,getElem?_take_of_lt->jy,getElem_map->j7,getElem_mem->qi,getElem_range->yB,getElem_set->gQ,headD->qg,length->zb,length_append->z9,length_cons->zC,length_drop->xm,length_map->qr,length_nil->qa,length_range->yq,length_set->jE,map->xt,map_append->qO,map_congr_left->qt,map_map->xM,mem_cons->qu,mem_cons_of_mem->zw,mem_cons_self->zy,mem_iff_getElem->xj,mem_map->qm,mem_map_of_mem->jw,mem_range->qG,range->zo,range_succ->yf,replicate->zi,replicate_succ->yP,set->qv,set_append_right->yC,take->yS,take_length->x6,take_of_length_le->ya
open Nat renaming beq->zB,div_eq_of_lt->j6,eq_of_beq_eq_true->zj,le_of_ble_eq_true->zh,le_of_not_lt->xZ,le_refl->zq,lt_log2_self->gI,min_eq_left->yH,mul_assoc->yN,mul_comm->xN,mul_one->yU,not_lt_of_le->yi,pow_add->jJ,shiftLeft_eq->jn,strongRecOn->jb,sub_self->yZ,sub_zero->jo,two_pow_pos->yI,zero_add->z7
open Option renaming bind->ze,getD->z5,getD_none->jm,getD_some->z6,map_eq_some_iff->zV,map_some->qn
open Option.some renaming injEq->zk
open Prod.mk renaming injEq->qp
open Sum renaming elim->qz
section
namespace Go.Sh
open Go Go.Proofs Go.RowKit Go.Sx
open Go.IntKind (wrap)
def juL:List (Option Cont):=[none,none]
def jeZ (n by_:Int):Option Int :=
 if by_≠(0:Int)then if by_≠(0:Int)then
  if Int.tmod n by_<0 then some (wrap .i64 (wrap .i64 (Int.tdiv n by_)-1))
  else some (wrap .i64 (Int.tdiv n by_))
  else none
 else none
def jnu:List A->Option (Prop × List RV)|[.d (.i .i64 n),.d (.i .i64 by_)]=>some (ok (jeZ n by_),[.d (.i .i64 ((val (jeZ n by_))))])|_=>none
abbrev sp_184:jaa->jaa:=jap 184 true (jat juL jnu)
def jC9 (n by_ r:Int):Sk (top r) (jeZ n by_) :=.ob (.ob (.br
 (.obT (.rc))
 (.obT (.rc))))
def jBy (n by_ r:Int) (h:ze (jeZ n by_) some=some r):ja4 Tryz.f184 (sp0) (fun _ _ _=>none) [.d (.i .i64 n),.d (.i .i64 by_)] [.d (.i .i64 r)] :=Sk.vc (jC9 n by_ r) (by kernel_rfl) h
def jBz:jaf Tryz.prog 184 true (jat juL jnu):=by
 refine jaA (sp:=sp0) (fn:=Tryz.f184) (body:=bodyOf Tryz.f184) mixed jaj Tryz.func184 (by kernel_rfl) (by kernel_rfl) fun as_ ob rs h ho=>?_;unfold jnu at h;split at h
 ·rename_i n by_;cases h;exact⟨zh rfl,_,_,jBy n by_ _ (jai ho)⟩
 ·cases h
def sp_184_ok {sp:jaa} (h:jab Tryz.prog sp):jab Tryz.prog (sp_184 sp):=jag jBz h
attribute [irreducible] jeZ
def jpy:List (Option Cont):=[none,none]
def jf4 (n by_:Int):Option Int :=
 ze (jeZ (wrap .i64 (wrap .i64 (2*n)+by_)) (wrap .i64 (2*by_))) fun r0 =>
 some r0
def jiZ:List A->Option (Prop × List RV)|[.d (.i .i64 n),.d (.i .i64 by_)]=>some (ok (jf4 n by_),[.d (.i .i64 ((val (jf4 n by_))))])|_=>none
abbrev sp_181:jaa->jaa:=jap 181 true (jat jpy jiZ)
def jzq (n by_ r:Int):Sk (top r) (jf4 n by_) :=.call (.obT (.rc))
def jxx (n by_ r:Int) (h:ze (jf4 n by_) some=some r):ja4 Tryz.f181 ((sp_184 sp0)) (fun _ _ _=>none) [.d (.i .i64 n),.d (.i .i64 by_)] [.d (.i .i64 r)] :=Sk.vc (jzq n by_ r) (by kernel_rfl) h
def jxy:jaf Tryz.prog 181 true (jat jpy jiZ):=by
 refine jaA (sp:=(sp_184 sp0)) (fn:=Tryz.f181) (body:=bodyOf Tryz.f181) mixed (sp_184_ok jaj) Tryz.func181 (by kernel_rfl) (by kernel_rfl) fun as_ ob rs h ho=>?_;unfold jiZ at h;split at h
 ·rename_i n by_;cases h;exact⟨zh rfl,_,_,jxx n by_ _ (jai ho)⟩
 ·cases h
def sp_181_ok {sp:jaa} (h:jab Tryz.prog sp):jab Tryz.prog (sp_181 sp):=jag jxy h
attribute [irreducible] jf4
def jlv:List (Option Cont):=[none]
def jnv (x_:Nat):Option Int :=
 if(qo (FloatKind.format .f32) x_ x_ != some Ordering.eq)=true then some (27:Int)
 else if(Option.isSome (hZ.sub (FloatKind.format .f32) x_ x_))=true then
  if(qo (FloatKind.format .f32) (z5 (hZ.sub (FloatKind.format .f32) x_ x_) (0:Nat)) (0:Nat)!=some Ordering.eq)=true then some (27:Int)
  else if(qo (FloatKind.format .f32) x_ (1266679808:Nat)==some Ordering.gt||qo (FloatKind.format .f32) x_ (1266679808:Nat)==some Ordering.eq)=true then some (2:Int)
   else
   if(qo (FloatKind.format .f32) x_ (3414163456:Nat)==some Ordering.lt||qo (FloatKind.format .f32) x_ (3414163456:Nat)==some Ordering.eq)=true then some (2:Int)
   else if jcm .f32 .i64 x_=true then
    if(qo (FloatKind.format .f32) (qE .f32 (f2i .f32 x_)) x_ != some Ordering.eq)=true then some (27:Int)
    else if jcm .f32 .i64 x_=true then
     ze (jcM (f2i .f32 x_) (32767:Int)) fun r0 =>
     ze (jc1 r0 (2:Int)) fun r1 =>
     some r1
     else none
    else none
  else
  some (27:Int)
def jf5:List A->Option (Prop × List RV)|[.d (.f .f32 x_)]=>some (ok (jnv x_),[.d (.i .i64 ((val (jnv x_))))])|_=>none
abbrev sp_175:jaa->jaa:=jap 175 true (jat jlv jf5)
def jvA (x_:Nat) (r:Int):Sk (top r) (jnv x_) :=.brB
 (.obT (.rc))
 (.brB
 (.obT (.brB
 (.obT (.rc))
 (.brB
 (.obT (.rc))
 (.brB
 (.obT (.rc))
 (.ob (.obT (.brB
 (.obT (.rc))
 (.ob (.call (.call (.obT (.rc))))))))))))
 (.obT (.obT (.rc))))
def jtB (x_:Nat) (r:Int) (h:ze (jnv x_) some=some r):ja4 Tryz.f175 ((sp_177 (sp_176 sp0))) (fun _ _ _=>none) [.d (.f .f32 x_)] [.d (.i .i64 r)] :=Sk.vc (jvA x_ r) (by kernel_rfl) h
def jtC:jaf Tryz.prog 175 true (jat jlv jf5):=by
 refine jaA (sp:=(sp_177 (sp_176 sp0))) (fn:=Tryz.f175) (body:=bodyOf Tryz.f175) mixed (sp_177_ok (sp_176_ok jaj)) Tryz.func175 (by kernel_rfl) (by kernel_rfl) fun as_ ob rs h ho=>?_;unfold jf5 at h;split at h
 ·rename_i x_;cases h;exact⟨zh rfl,_,_,jtB x_ _ (jai ho)⟩
 ·cases h
def sp_175_ok {sp:jaa} (h:jab Tryz.prog sp):jab Tryz.prog (sp_175 sp):=jag jtC h
attribute [irreducible] jnv
def jjP:List (Option Cont):=[some (.floats .f32 [])]
def jtD (l:List Nat) (x0:Int):Option (Int ⊕ (Int ⊕ Unit)) :=
 if x0<(↑l.length:Int)then if 0<=x0∧x0<(↑l.length:Int)then
  if zf x0<zb l then
   ze (jnv (za l x0.toNat (0:Nat))) fun r0 =>
   if(r0 != 0)=true then
   some (.inr (.inl r0))
   else
   some (.inl (wrap .i64 (x0+1)))
  else none
  else none
 else some (.inr ((.inr ())))
def joK (u5:Int):Option Int :=some u5
def joL (u10:Unit):Option Int :=some (0:Int)
def jh5:(Int ⊕ Unit)->Option Int :=(qz (joK) (joL))
def y76 (l:List Nat):Option Int :=ze (jae (jtD l) big (0:Int)) (jh5)
def je0:List A->Option (Prop × List RV)|[.r (.floats .f32 l)]=>some (ok (y76 l),[.d (.i .i64 ((val (y76 l))))])|_=>none
abbrev sp_166:jaa->jaa:=jap 166 true (jat jjP je0)
abbrev jh6 (l:List Nat) (r:Int):Lp (Int × Nat) Int (Int ⊕ Unit) Int Int :=⟨fun z=>z.1,fun z=>z.2,fun z x n=>(x,n),fun z=>jtD l,fun z=>jh5,fun z=>top r,fun z=>0,[.c fun _=>(↑l.length:Int),.c fun vv=>vv.1,.c fun _=>l]⟩
def jtE (l:List Nat) (r:Int):Sk (top r) (y76 l) :=
 .loop (jh6 l r) (fun kk=>((0:Int),big)) fun z0 =>
 .br
 (.ob (.ob (.call (.brB
 (.exit (.obT (.rc)))
 (.next)))))
 (.exit (.obT (.rc)))
def jr4 (l:List Nat) (r:Int) (h:ze (y76 l) some=some r):ja4 Tryz.f166 ((sp_175 sp0)) (fun gs id st=>match id with
 |0=>some ⟨Int × Nat,fun z=>⟨[(6,.w (.c (.o 0))),(7,.w (.c (.d (.i .i64 ((↑l.length:Int)))))),(8,.w (.c (.d (.i .i64 z.1))))],[(0,.ext (.floats .f32 l))],1⟩,fun z=>(jh6 l r).inv z,fun z=>z.2⟩
 |_=>none) [.r (.floats .f32 l)] [.d (.i .i64 r)] :=
 Sk.vc (jtE l r) (by kernel_rfl) h
def jr5:jaf Tryz.prog 166 true (jat jjP je0):=by
 refine jaA (sp:=(sp_175 sp0)) (fn:=Tryz.f166) (body:=bodyOf Tryz.f166) mixed (sp_175_ok jaj) Tryz.func166 (by kernel_rfl) (by kernel_rfl) fun as_ ob rs h ho=>?_;unfold je0 at h;split at h
 ·rename_i l;cases h;exact⟨zh rfl,_,_,jr4 l _ (jai ho)⟩
 ·cases h
def sp_166_ok {sp:jaa} (h:jab Tryz.prog sp):jab Tryz.prog (sp_166 sp):=jag jr5 h
attribute [irreducible] y76
def jjQ:List (Option Cont):=[some (.recs 5 []),some (.recs 4 [])]
def y92 (s:List (List Int)) (x0 x1:Int):Option (Int ⊕ (Unit ⊕ Unit)) :=
 if x1<4 then if(0<=x1∧x1<(↑(4:Nat):Int))∧za [true,true,true,true] (zf x1*1) false=true then
  ze (jcM (za [za (za s x0.toNat []) 0 (0:Int),za (za s x0.toNat []) 1 (0:Int),za (za s x0.toNat []) 2 (0:Int),za (za s x0.toNat []) 3 (0:Int)] (zf x1*1) (0:Int)) (32767:Int)) fun r3 =>
  if(!r3)=true then some (.inr ((.inl ())))
  else some (.inl (wrap .i64 (x1+1)))
  else none
 else some (.inr ((.inr ())))
def joM (x0:Int) (u19:Unit):Option (Int ⊕ (Int ⊕ Unit)) :=some (.inr (.inl x0))
def joN (x0:Int) (u33:Unit):Option (Int ⊕ (Int ⊕ Unit)) :=some (.inl (wrap .i64 (x0+1)))
def jh7 (x0:Int):(Unit ⊕ Unit)->Option (Int ⊕ (Int ⊕ Unit)) :=(qz (joM x0) (joN x0))
def y93 (s:List (List Int)) (x0:Int):Option (Int ⊕ (Int ⊕ Unit)) :=
 if x0<(↑s.length:Int)then if 0<=x0∧x0<(↑s.length:Int)then
  if zf x0<zb s then ze (jae (y92 s x0) big (0:Int)) (jh7 x0)
  else none
  else none
 else some (.inr ((.inr ())))
def joO (u5:Int):Option (Int × Int) :=some ((u5,2))
def joP (u10:Unit):Option (Int × Int) :=some (((0:Int),0))
def y259:(Int ⊕ Unit)->Option (Int × Int) :=(qz (joO) (joP))
def y77 (c s:List (List Int)):Option (Int × Int) :=
 ze (y43 c) fun r0 =>
 ze (jc1 ((↑s.length:Int)==(↑c.length:Int)) (10:Int)) fun r1 =>
 ze (jde [r0,r1]) fun r2 =>
 if(r2 != 0)=true then some (((0:Int),r2))
 else ze (jae (y93 s) big (0:Int)) (y259)
def je1:List A->Option (Prop × List RV)|[.r (.recs 5 c),.r (.recs 4 s)]=>some (ok (y77 c s),[.d (.i .i64 ((val (y77 c s)).1)),.d (.i .i64 ((val (y77 c s)).2))])|_=>none
abbrev sp_167:jaa->jaa:=jap 167 true (jat jjQ je1)
abbrev y260 (c s:List (List Int)) (r:Int × Int):Lp (Int × Nat) Int (Int ⊕ Unit) (Int × Int) (Int × Int) :=⟨fun z=>z.1,fun z=>z.2,fun z x n=>(x,n),fun z=>y93 s,fun z=>y259,fun z=>top r,fun z=>0,[.c fun _=>(↑s.length:Int),.c fun vv=>vv.1,.c fun _=>s]⟩
abbrev jh8 (c s:List (List Int)) (r:Int × Int) (m1:Nat):Lp (Int × Nat × Int × Nat) Int (Unit ⊕ Unit) ((Int ⊕ (Int ⊕ Unit))) (Int × Int) :=⟨fun z=>z.2.2.1,fun z=>z.2.2.2,fun z x n=>(z.1,z.2.1,x,n),fun z=>y92 s z.1,fun z=>jh7 z.1,fun z=>(y260 c s r).cx (z.1,m1),fun z=>z.2.1,[.c fun vv=>vv.1,.c fun _=>(↑s.length:Int),.c fun vv=>vv.1,.c fun vv=>za (za s vv.1.toNat []) 0 (0:Int),.c fun vv=>za (za s vv.1.toNat []) 1 (0:Int),.c fun vv=>za (za s vv.1.toNat []) 2 (0:Int),.c fun vv=>za (za s vv.1.toNat []) 3 (0:Int),.c fun vv=>vv.2.2.1,.c fun _=>s]⟩
def jr6 (c s:List (List Int)) (r:Int × Int):Sk (top r) (ze (jae (y93 s) big (0:Int)) (y259)) :=
 .loop (y260 c s r) (fun kk=>((0:Int),big)) fun z0 =>
 .br
 (.ob (.ob (.obC ((0:Int)<=0∧(0:Int)<2) (by decide) (.obC ((0:Int)<=1∧(1:Int)<2) (by decide) (.obC ((0:Int)<=0∧(0:Int)<2) (by decide) (.obC ((0:Int)<=1∧(1:Int)<2) (by decide) (.loop (jh8 c s r z0.2) (fun kk=>(z0.1,kk,0,big)) fun z1 =>
 .br
 (.ob (.call (.brB
 (.exit (.exit (.obT (.obT (.rc)))))
 (.next))))
 (.exit (.next)))))))))
 (.exit (.obT (.obT (.rc))))
def jtF (c s:List (List Int)) (r:Int × Int):Sk (top r) (y77 c s) :=.call (.call (.call (.brB
 (.obT (.obT (.rc)))
 (jr6 c s r))))
def jr7 (c s:List (List Int)) (r:Int × Int) (h:ze (y77 c s) some=some r):ja4 Tryz.f167 ((sp_161 (sp_176 (sp_165 (sp_177 sp0))))) (fun gs id st=>match id with
 |0=>some ⟨Int × Nat,fun z=>⟨[(24,.w (.c (.o 1))),(25,.w (.c (.d (.i .i64 ((↑s.length:Int)))))),(26,.w (.c (.d (.i .i64 z.1))))],[(1,.ext (.recs 4 s))],2⟩,fun z=>(y260 c s r).inv z,fun z=>z.2⟩
 |2=>some ⟨Int × Nat × Int × Nat,fun z=>⟨[(7,.w (.c (.d (.i .i64 z.1)))),(24,.w (.c (.o 1))),(25,.w (.c (.d (.i .i64 ((↑s.length:Int)))))),(26,.w (.c (.d (.i .i64 z.1)))),(43,.w (.a [.d (.i .i64 (za (za s z.1.toNat []) (0:Nat) (0:Int))),.d (.i .i64 (za (za s z.1.toNat []) (1:Nat) (0:Int))),.d (.i .i64 (za (za s z.1.toNat []) (2:Nat) (0:Int))),.d (.i .i64 (za (za s z.1.toNat []) (3:Nat) (0:Int)))])),(44,.w (.c (.d (.i .i64 z.2.2.1))))],[(1,.ext (.recs 4 s))],2⟩,fun z=>(jh8 c s r (gs.getD 0 0)).inv z,fun z=>z.2.2.2⟩
 |_=>none) [.r (.recs 5 c),.r (.recs 4 s)] [.d (.i .i64 r.1),.d (.i .i64 r.2)] :=
 Sk.vc (jtF c s r) (by kernel_rfl) h
def jr8:jaf Tryz.prog 167 true (jat jjQ je1):=by
 refine jaA (sp:=(sp_161 (sp_176 (sp_165 (sp_177 sp0))))) (fn:=Tryz.f167) (body:=bodyOf Tryz.f167) mixed (sp_161_ok (sp_176_ok (sp_165_ok (sp_177_ok jaj)))) Tryz.func167 (by kernel_rfl) (by kernel_rfl) fun as_ ob rs h ho=>?_;unfold je1 at h;split at h
 ·rename_i c s;cases h;exact⟨zh rfl,_,_,jr7 c s _ (jai ho)⟩
 ·cases h
def sp_167_ok {sp:jaa} (h:jab Tryz.prog sp):jab Tryz.prog (sp_167 sp):=jag jr8 h
attribute [irreducible] y77
def jnw:List (Option Cont):=[some (.recs 5 []),some (.recs 4 [])]
def jqv (c s:List (List Int)) (x0:(Int × List (List Int))):Option ((Int × List (List Int)) ⊕ (List (List Int))) :=
 if x0.1<(↑c.length:Int)then if 0<=x0.1∧x0.1<(↑c.length:Int)then
  if zf x0.1<zb c then if 0<=x0.1∧x0.1<(↑s.length:Int)then
   if zf x0.1<zb s then if(zb x0.2+zb [[za (za c x0.1.toNat []) 0 (0:Int),za (za c x0.1.toNat []) 1 (0:Int),za (za c x0.1.toNat []) 2 (0:Int),za (za c x0.1.toNat []) 3 (0:Int),za (za c x0.1.toNat []) 4 (0:Int),za (za s x0.1.toNat []) 0 (0:Int),za (za s x0.1.toNat []) 1 (0:Int),za (za s x0.1.toNat []) 2 (0:Int),za (za s x0.1.toNat []) 3 (0:Int),0]])*80<=140737488355328∧zb x0.2+zb [[za (za c x0.1.toNat []) 0 (0:Int),za (za c x0.1.toNat []) 1 (0:Int),za (za c x0.1.toNat []) 2 (0:Int),za (za c x0.1.toNat []) 3 (0:Int),za (za c x0.1.toNat []) 4 (0:Int),za (za s x0.1.toNat []) 0 (0:Int),za (za s x0.1.toNat []) 1 (0:Int),za (za s x0.1.toNat []) 2 (0:Int),za (za s x0.1.toNat []) 3 (0:Int),0]]<=9223372036854775807 then some (.inl ((wrap .i64 (x0.1+1),x0.2++[[za (za c x0.1.toNat []) 0 (0:Int),za (za c x0.1.toNat []) 1 (0:Int),za (za c x0.1.toNat []) 2 (0:Int),za (za c x0.1.toNat []) 3 (0:Int),za (za c x0.1.toNat []) 4 (0:Int),za (za s x0.1.toNat []) 0 (0:Int),za (za s x0.1.toNat []) 1 (0:Int),za (za s x0.1.toNat []) 2 (0:Int),za (za s x0.1.toNat []) 3 (0:Int),0]])))
    else none
   else none
   else none
  else none
  else none
 else some (.inr x0.2)
def jf6 (u5:List (List Int)):Option (List (List Int)) :=some u5
def y94 (c s:List (List Int)):Option (List (List Int)) :=ze (jae (jqv c s) big (((0:Int),[]))) (jf6)
def jhj:List A->Option (Prop × List RV)|[.r (.recs 5 c),.r (.recs 4 s)]=>some (ok (y94 c s),[.row 236 (.recs 10 ((val (y94 c s))))])|_=>none
abbrev sp_168:jaa->jaa:=jap 168 true (jat jnw jhj)
abbrev jlw (c s r:List (List Int)):Lp ((Int × List (List Int)) × Nat) ((Int × List (List Int))) ((List (List Int))) ((List (List Int))) (List (List Int)) :=⟨fun z=>z.1,fun z=>z.2,fun z x n=>(x,n),fun z=>jqv c s,fun z=>jf6,fun z=>top r,fun z=>0,[.c fun _=>(↑c.length:Int),.c fun vv=>vv.1.1,.c fun _=>s,.c fun vv=>vv.1.2,.c fun _=>c]⟩
def jvB (c s r:List (List Int)):Sk (top r) (ze (jae (jqv c s) big (((0:Int),[]))) (jf6)) :=
 .loopQ (jlw c s r) [.c fun _=>(↑c.length:Int),.c fun vv=>vv.1.1,.c fun _=>s,.p fun vv=>zb vv.1.2=(0:Nat),.c fun _=>c] (fun kk=>(((0:Int),[]),big)) (fun z0 =>
 .br
 (.ob (.ob (.ob (.ob (.ob (.next))))))
 (.exit (.obT (.rc)))) (fun _=>⟨rfl,trivial⟩)
def jxz (c s r:List (List Int)):Sk (top r) (y94 c s) :=jvB c s r
def jvC (c s r:List (List Int)) (h:ze (y94 c s) some=some r):ja4 Tryz.f168 (sp0) (fun gs id st=>match id with
 |0=>some ⟨(Int × List (List Int)) × Nat,fun z=>⟨[(1,.w (.c (.o 1))),(5,.w (.c (.o 2))),(8,.w (.c (.o 0))),(9,.w (.c (.d (.i .i64 ((↑c.length:Int)))))),(10,.w (.c (.d (.i .i64 z.1.1))))],[(1,.ext (.recs 4 s)),(2,.row 236 (.recs 10 z.1.2)),(0,.ext (.recs 5 c))],3⟩,fun z=>(jlw c s r).inv z,fun z=>z.2⟩
 |_=>none) [.r (.recs 5 c),.r (.recs 4 s)] [.row 236 (.recs 10 r)] :=
 Sk.vc (jxz c s r) (by kernel_rfl) h
def jvD:jaf Tryz.prog 168 true (jat jnw jhj):=by
 refine jaA (sp:=sp0) (fn:=Tryz.f168) (body:=bodyOf Tryz.f168) mixed jaj Tryz.func168 (by kernel_rfl) (by kernel_rfl) fun as_ ob rs h ho=>?_;unfold jhj at h;split at h
 ·rename_i c s;cases h;exact⟨zh rfl,_,_,jvC c s _ (jai ho)⟩
 ·cases h
def sp_168_ok {sp:jaa} (h:jab Tryz.prog sp):jab Tryz.prog (sp_168 sp):=jag jvD h
attribute [irreducible] y94
def jhk:List (Option Cont):=[some (.recs 10 [])]
def y99 (l:List (List Int)) (x0:(Int × List (List Int))):Option ((Int × List (List Int)) ⊕ (List (List Int))) :=
 if x0.1<(↑l.length:Int)then if 0<=x0.1∧x0.1<(↑l.length:Int)then
  if zf x0.1<zb l then if(zb x0.2+zb [[za (za l x0.1.toNat []) 5 (0:Int),za (za l x0.1.toNat []) 6 (0:Int),za (za l x0.1.toNat []) 7 (0:Int),za (za l x0.1.toNat []) 8 (0:Int)]])*32<=140737488355328∧zb x0.2+zb [[za (za l x0.1.toNat []) 5 (0:Int),za (za l x0.1.toNat []) 6 (0:Int),za (za l x0.1.toNat []) 7 (0:Int),za (za l x0.1.toNat []) 8 (0:Int)]]<=9223372036854775807 then some (.inl ((wrap .i64 (x0.1+1),x0.2++[[za (za l x0.1.toNat []) 5 (0:Int),za (za l x0.1.toNat []) 6 (0:Int),za (za l x0.1.toNat []) 7 (0:Int),za (za l x0.1.toNat []) 8 (0:Int)]])))
   else none
  else none
  else none
 else some (.inr x0.2)
def y231 (u5:List (List Int)):Option (List (List Int)) :=some u5
def y60 (l:List (List Int)):Option (List (List Int)) :=ze (jae (y99 l) big (((0:Int),[]))) (y231)
def y247:List A->Option (Prop × List RV)|[.r (.recs 10 l)]=>some (ok (y60 l),[.row 174 (.recs 4 ((val (y60 l))))])|_=>none
abbrev sp_170:jaa->jaa:=jap 170 true (jat jhk y247)
abbrev jgq (l r:List (List Int)):Lp ((Int × List (List Int)) × Nat) ((Int × List (List Int))) ((List (List Int))) ((List (List Int))) (List (List Int)) :=⟨fun z=>z.1,fun z=>z.2,fun z x n=>(x,n),fun z=>y99 l,fun z=>y231,fun z=>top r,fun z=>0,[.c fun _=>(↑l.length:Int),.c fun vv=>vv.1.1,.c fun vv=>vv.1.2,.c fun _=>l]⟩
def joQ (l r:List (List Int)):Sk (top r) (ze (jae (y99 l) big (((0:Int),[]))) (y231)) :=
 .loopQ (jgq l r) [.c fun _=>(↑l.length:Int),.c fun vv=>vv.1.1,.p fun vv=>zb vv.1.2=(0:Nat),.c fun _=>l] (fun kk=>(((0:Int),[]),big)) (fun z0 =>
 .br
 (.ob (.ob (.ob (.next))))
 (.exit (.obT (.rc)))) (fun _=>⟨rfl,trivial⟩)
def jqw (l r:List (List Int)):Sk (top r) (y60 l) :=joQ l r
def joR (l r:List (List Int)) (h:ze (y60 l) some=some r):ja4 Tryz.f170 (sp0) (fun gs id st=>match id with
 |0=>some ⟨(Int × List (List Int)) × Nat,fun z=>⟨[(3,.w (.c (.o 1))),(6,.w (.c (.o 0))),(7,.w (.c (.d (.i .i64 ((↑l.length:Int)))))),(8,.w (.c (.d (.i .i64 z.1.1))))],[(1,.row 174 (.recs 4 z.1.2)),(0,.ext (.recs 10 l))],2⟩,fun z=>(jgq l r).inv z,fun z=>z.2⟩
 |_=>none) [.r (.recs 10 l)] [.row 174 (.recs 4 r)] :=
 Sk.vc (jqw l r) (by kernel_rfl) h
def joS:jaf Tryz.prog 170 true (jat jhk y247):=by
 refine jaA (sp:=sp0) (fn:=Tryz.f170) (body:=bodyOf Tryz.f170) mixed jaj Tryz.func170 (by kernel_rfl) (by kernel_rfl) fun as_ ob rs h ho=>?_;unfold y247 at h;split at h
 ·rename_i l;cases h;exact⟨zh rfl,_,_,joR l _ (jai ho)⟩
 ·cases h
def sp_170_ok {sp:jaa} (h:jab Tryz.prog sp):jab Tryz.prog (sp_170 sp):=jag joS h
attribute [irreducible] y60
def jjR:List (Option Cont):=[some (.recs 10 [])]
def jtG (l:List (List Int)) (x0:(Int × Int)):Option ((Int × Int) ⊕ Int) :=
 if x0.2<(↑l.length:Int)then if 0<=x0.2∧x0.2<(↑l.length:Int)then
  if zf x0.2<zb l then some (.inl ((wrap .i64 (x0.1+za (za l x0.2.toNat []) 9 (0:Int)),wrap .i64 (x0.2+1))))
  else none
  else none
 else some (.inr x0.1)
def jh9 (u5:Int):Option Int :=some u5
def y95 (l:List (List Int)):Option Int :=ze (jae (jtG l) big (((0:Int),0))) (jh9)
def je2:List A->Option (Prop × List RV)|[.r (.recs 10 l)]=>some (ok (y95 l),[.d (.i .i64 ((val (y95 l))))])|_=>none
abbrev sp_171:jaa->jaa:=jap 171 true (jat jjR je2)
abbrev jia (l:List (List Int)) (r:Int):Lp ((Int × Int) × Nat) (Int × Int) Int Int Int :=⟨fun z=>z.1,fun z=>z.2,fun z x n=>(x,n),fun z=>jtG l,fun z=>jh9,fun z=>top r,fun z=>0,[.c fun vv=>vv.1.1,.c fun _=>(↑l.length:Int),.c fun vv=>vv.1.2,.c fun _=>l]⟩
def jtH (l:List (List Int)) (r:Int):Sk (top r) (y95 l) :=
 .loop (jia l r) (fun kk=>(((0:Int),0),big)) fun z0 =>
 .br
 (.ob (.ob (.next)))
 (.exit (.obT (.rc)))
def jr9 (l:List (List Int)) (r:Int) (h:ze (y95 l) some=some r):ja4 Tryz.f171 (sp0) (fun gs id st=>match id with
 |0=>some ⟨(Int × Int) × Nat,fun z=>⟨[(3,.w (.c (.d (.i .i64 z.1.1)))),(6,.w (.c (.o 0))),(7,.w (.c (.d (.i .i64 ((↑l.length:Int)))))),(8,.w (.c (.d (.i .i64 z.1.2))))],[(0,.ext (.recs 10 l))],1⟩,fun z=>(jia l r).inv z,fun z=>z.2⟩
 |_=>none) [.r (.recs 10 l)] [.d (.i .i64 r)] :=
 Sk.vc (jtH l r) (by kernel_rfl) h
def jsa:jaf Tryz.prog 171 true (jat jjR je2):=by
 refine jaA (sp:=sp0) (fn:=Tryz.f171) (body:=bodyOf Tryz.f171) mixed jaj Tryz.func171 (by kernel_rfl) (by kernel_rfl) fun as_ ob rs h ho=>?_;unfold je2 at h;split at h
 ·rename_i l;cases h;exact⟨zh rfl,_,_,jr9 l _ (jai ho)⟩
 ·cases h
def sp_171_ok {sp:jaa} (h:jab Tryz.prog sp):jab Tryz.prog (sp_171 sp):=jag jsa h
attribute [irreducible] y95
end Go.Sh
end

section
open Go.RowKit
namespace Go.Sx
def allN:List Nat->(Nat->Prop)->Prop|[],_=>True|i::is,f=>f i∧allN is f
def jxA [Globs] (P:zQ) (sp:jaa) (N:Nat) (ops:Array qx) (k:St->Prop):Nat->Array Bool->St->Prop|0,l,st=>(match jp .any ops l with|[]=>k st|_=>False)|n+1,l,st=>match jp .any ops l with|[]=>k st|is=>allN is fun i=>match ops[i]? with|some o=>(match o.guard,jcV N o.dst,step P sp o.op (jcz st) st.hp st.nx with|none,true,some r=>Ob r.ob∧jxA P sp N ops k n (l.setIfInBounds i true) (st.put o.dst r)|_,_,_=>False)|none=>False
def jvY [Globs] (P:zQ) (sp:jaa) (N:Nat) (ops:Array qx) (k:St->Prop):List Nat->Nat->Array Bool->St->Prop|[],n,l,st=>jxA P sp N ops k n l st|_::_,0,_,_=>False|i::F,n+1,l,st=>match ops[i]?,jAT ops l i with|some o,true=>(match o.guard,o.dst with|none,some t=>(match jcn P o.op (jcz st) [],Nat.blt t N with|some (ob,v),true=>Ob ob∧jvY P sp N ops k F n (l.setIfInBounds i true) (st.put (some t) ⟨ob,v,st.hp,st.nx⟩)|_,_=>False)|_,_=>False)|_,_=>False
def jxB [Globs] (P:zQ) (sp:jaa) (N:Nat):List qx->St->Prop->(St->Prop->Prop)->Prop|[],st,ps,k=>k st ps|o::L,st,ps,k=>match step P sp o.op (jcz st) st.hp st.nx with|some r=>(match jbC o.op (jcz st) st.hp with|true=>jxB P sp N L (st.put o.dst r) ps k|false=>Ob r.ob∧jxB P sp N L (st.put o.dst r) (r.ob∧ps) k)|none=>False
def C.hs:C->List Nat| .o h=>[h]| .p h _ _ _=>[h]| .fn _ l=>l|_=>[]
def V.hs:V->List Nat| .w (.c x)=>x.hs| .w (.a l)=>l.flatMap C.hs| .w (.b _ _)=>[]| .t l=>l.flatMap fun u=>match u with| .c x=>x.hs| .a l=>l.flatMap C.hs| .b _ _=>[]
def O.hs:O->List Nat| .box _ cs=>cs.flatMap C.hs| .ebox cs=>cs.flatMap C.hs| .view r _ _=>[r]| .sub r _ _ _ _ _=>[r]|_=>[]
def jDa (hp:Hp):Nat->List Nat->List Nat|0,l=>l|n+1,l=>jDa hp n (jeK (l.flatMap fun h=>((find hp h).map O.hs).getD []) l)
def jvZ (T:List Nat) (st:St):List (Nat × V):=T.filterMap fun t=>(jaT st.tm t).map fun v=>(t,v)
def joo (T:List Nat) (st:St):St:=⟨jvZ T st,(jDa st.hp 4 (jeK ((jvZ T st).flatMap fun x=>x.2.hs) [])).reverse.filterMap fun h=>(find st.hp h).map fun o=>(h,o),st.nx⟩
def ordA [Globs] (P:zQ) (sp:jaa) (N n0:Nat) (F:List Nat) (ops:Array qx) (st X:St) (ps:Prop):Prop :=ps->jvY P sp N ops (fun st'=>Le n0 st' X) F ops.size (Array.replicate ops.size false) st
def jsb [Globs] (P:zQ) (sp:jaa) (N n0 n:Nat) (T0 T F:List Nat) (ops:Array qx) (st:St) (k:St->Prop):Prop :=match zB ops.size n with|true=>jxB P sp N ops.toList (joo T0 st) True fun X ps=>Ob (ordA P sp N n0 F ops (joo T0 st) (joo T X) ps)∧k (joo T X)|false=>jcD P sp N ops st k
section
variable [Globs] {P:zQ} {sp:jaa} {B:Kd} {N n0:Nat} {I:Env} {a:Act} {w:zs} {hp:Hp} {nx:Nat} {rd:zU->Option V} {ds:List Deferred}
def jxC {f:Nat->Prop}:∀{l:List Nat},allN l f->∀i,i∈l->f i|_::_,h,_,.head _=>h.1|_::_,h,_,.tail _ hm=>jxC h.2 _ hm
def jxD {w0:zs} {I0:Env} (hsp:jab P sp) {ops:Array qx} {k:St->Prop} {Q:Exit->Act->zs->Prop}
  (hK:∀(I':Env) (st':St) (a':Act) (w':zs),RelD ds I' B N n0 st' a' w'->jak n0 I0 I'->Bel B w0 w'->k st'->Q .normal a' w') :
  ∀(n:Nat) (l:Array Bool) (st:St) (I:Env) (a:Act) (w:zs),jxA P sp N ops k n l st->RelD ds I B N n0 st a w->jak n0 I0 I->Bel B w0 w->wpAny P .any ops Q n l a w
 |0,l,st,I,a,w,h,hr,hag,hbl=>by
  unfold jxA at h;split at h
  ·rename_i he;exact⟨he,hK I st a w hr hag hbl h⟩
  ·exact h.elim
 |n+1,l,st,I,a,w,h,hr,hag,hbl=>by
  unfold jxA at h;split at h
  ·rename_i he;exact⟨fun _=>hK I st a w hr hag hbl h,by rw[he];simp⟩
  ·rename_i hne;refine⟨fun he=>absurd he hne,fun i hi=>?_⟩;have h1:=jxC h i hi;split at h1
   ·rename_i o ho;split at h1
    ·rename_i r hgd hdst hstep;obtain⟨B1,g1,hh⟩:=hr.heap;have hB1:Old B1 w:=g1.old hr.le;unfold wpOp;simp only[ho];rw[if_pos (by simp[yy,hgd])];refine .inl ?_;refine jcU hsp hh hB1 hr.reads hstep h1.1.h _ Q fun I' w' hl=>?_;exact jxD hsp hK n _ _ I' _ w' h1.2 (hr.put1 g1 hdst hl) (hag.trans hl.agree hr.n0) (hbl.trans (hl.below.mono g1.le.kp))
    ·exact h1.elim
   ·exact h1.elim
def juM {w0 w:zs} {I0:Env} (hG:∀(B:Bd) (w:zs),jbD B w) (hsp:jab P sp) {ops:Array qx} {k:St->Prop} {Q:Exit->Act->zs->Prop} (hQ:∀c a w,¬Q (.panic c) a w) (hbl:Bel B w0 w)
  (hK:∀(I':Env) (st':St) (a':Act) (w':zs),RelD ds I' B N n0 st' a' w'->jak n0 I0 I'->Bel B w0 w'->k st'->Q .normal a' w') :
  ∀(F:List Nat) (n:Nat) (l:Array Bool) (st:St) (I:Env) (a:Act),jvY P sp N ops k F n l st->RelD ds I B N n0 st a w->jak n0 I0 I->wpAny P .any ops Q n l a w
 |[],n,l,st,I,a,h,hr,hag=>jxD hsp hK n l st I a w h hr hag hbl
 |i::F,0,l,st,I,a,h,hr,hag=>h.elim
 |i::F,n+1,l,st,I,a,h,hr,hag=>by
  unfold jvY at h;split at h
  ·rename_i o hi htb;split at h
   ·rename_i t hg hd;split at h
    ·rename_i ob v hv hlt;obtain⟨B1,g1,hh1⟩:=hr.heap;have hrun:=fun(w':zs)=>jea (B:=kd fun _=>False) (w:=w') ⟨(fun h o hf=>by cases hf),(fun h o h' o' k hf=>by cases hf),hG _ w'⟩ hr.reads hv h.1.h;have hl:Left I B1 st.nx w ⟨ob,v,st.hp,st.nx⟩ true I w:=⟨jak.refl _ _,(hrun w).2,zq _,hh1.gr,Bel.refl _ _,(fun _=>Below.refl _ _),fun _ h o k hn hf _=>absurd (hh1.ok h o hf).1 (by omega)⟩
     have hput:=hr.put1 g1 (o:=o) (by rw[hd];simpa [jcV]using hlt) hl;rw[hd]at hput;have ih:=juM hG hsp hQ hbl hK F n (l.setIfInBounds i true) (st.put (some t) ⟨ob,v,st.hp,st.nx⟩) I _ h.2 hput hag;obtain⟨t1,t2,t3⟩:=jAU htb;refine wpAny_take (v:=v.val I) hi t1 t2 (by simpa using t3) (fun c a w hq=>absurd hq (hQ c _ w)) (.inl ⟨by simp[yy,hg],fun w'=>(hrun w').1⟩) ?_;rw[hd];exact ih
    ·exact h.elim
   ·exact h.elim
  ·exact h.elim
def jqx {k:St->Prop->Prop}:∀(L:List qx) (st:St) (ps:Prop),jxB P sp N L st ps k->ps->∃X ps,k X ps∧ps
 |[],st,ps,h,hp=>⟨st,ps,h,hp⟩
 |o::L,st,ps,h,hp=>by
  unfold jxB at h;split at h
  ·split at h
   ·exact jqx L _ _ h hp
   ·exact jqx L _ _ h.2 ⟨h.1.h,hp⟩
  ·exact h.elim
def RelD.drewA {st:St} (h:RelD ds I B N n0 st a w):RelD ds I B N n0 st a (drew w) :=let ⟨B1,g1,hh⟩:=h.heap
 ⟨h.tm,h.size,h.defers,⟨B1,g1.later (zq _),hh.below (jka _ _) (g1.old h.le)⟩,h.le,h.n0⟩
def jnx {st:St} {t:Nat} {v:V}:∀{T:List Nat},jaT (jvZ T st) t=some v->jaT st.tm t=some v
 |[],h=>by cases h
 |x::T,h=>by
  unfold jvZ at h;rw[List.filterMap_cons]at h;cases hx:jaT st.tm x with
  |none=>rw[hx]at h;exact jnx h
  |some u =>
   rw[hx]at h;simp only[qn,jaT]at h;split at h
   ·rename_i e;subst e;rw[hx];exact h
   ·exact jnx h
def jkV {hp:Hp} {h:Nat} {o:O}:∀{H:List Nat},find (H.filterMap fun h=>(find hp h).map fun o=>(h,o)) h=some o->find hp h=some o
 |[],h=>by cases h
 |x::H,h=>by
  rw[List.filterMap_cons]at h;cases hx:find hp x with
  |none=>rw[hx]at h;exact jkV h
  |some u =>
   rw[hx]at h;simp only[qn,find]at h;split at h
   ·rename_i e;subst e;rw[hx];exact h
   ·exact jkV h
def RelD.pack {st:St} (T:List Nat) (h:RelD ds I B N n0 st a w):RelD ds I B N n0 (joo T st) a w :=let ⟨B1,g1,hh⟩:=h.heap
 ⟨fun t v hv=>h.tm t v (jnx hv),h.size,h.defers,⟨B1,g1,hh.sub fun _ _ hf=>jkV hf⟩,h.le,h.n0⟩
def jxE {w0:zs} {I0:Env} (hG:∀(B:Bd) (w:zs),jbD B w) (hm:P.follows .mixedOrders=true) (hsp:jab P sp) (n:Nat) (T0 T F:List Nat):jec P B N n0 I0 w0 (jsb P sp N n0 n T0 T F):=by
 intro ds id ops st k I a w Q hd hr hag hbl hK;unfold jsb at hd;split at hd
 ·obtain⟨X,ps,⟨hX,hk⟩,hps⟩:=jqx _ _ _ hd trivial
  have h1:=wp_region_any (id:=id) hm (juM (w:=drew w) (Q:=fun e a w=>match e with | .normal=>Q .normal a w|_=>False) hG hsp (fun _ _ _ h=>h) ⟨hbl.os,hbl.tape,hbl.output,hbl.size,hbl.block⟩
   (fun I' st' a' w' hr' hag' hbl' (hl:Le n0 st' (joo T X)) =>
    let ⟨I2,hr2,ha2⟩:=hl.rel hr'
    hK I2 _ a' w' hr2 (fun x hx=>(ha2 x hx).trans (hag' x hx)) hbl' hk) F ops.size _ _ I a (hX.h hps) (hr.pack T0).drewA hag)
  refine x7 h1 ?_;intro e a w h;cases e<;>first|exact h|exact h.elim
 ·exact jb1 hm hsp id ops st k I a w Q hd hr hag hbl hK
def juN {f:Nat} {fn:Func} {body:Code} {shs:List SV} {g:List Lf->Option GT} {drawn:Nat->Array qx->St->(St->Prop)->Prop} (hdr:∀(B:Kd) (n0:Nat) (I:Env) (w:zs),jec P B fn.ntmps n0 I w (drawn n0)) (hsp:jab P sp) (hf:P.funcs[f]?=some fn) (hb:fn.body=some body) (hn:(fn.name == "runtime.NumGoroutine")=false)
  (h:∀ls t,g ls=some t->t.sel.1->∀b:Bv,jdQ shs 0 ls=some b->b.vs.length<=fn.ntmps∧∃fuel loops,sx P sp fn.ntmps b.n fuel loops (drawn b.n) body 0 [] ⟨jbE 0 b.vs,b.hp,b.n⟩ (jbX P fn.results.toList fun v hp _=>jg1 b.n t.sel.2 v hp)) :
  jaf P f true (jah shs g) :=
 jhZ hf hb hn fun ls t hg ho b hbl I0 w hlt hh=>by
  obtain⟨hlen,fuel,loops,hx⟩:=h ls t hg ho b hbl;exact jkg (n0:=b.n) (B:=kd fun k=>k<w.heap.size) hsp (fun I w=>hdr _ _ I w) hf hb hlen hx hlt (zq _) I0 w hh (fun k hk=>jbL.1 hk)
end
end Go.Sx
end

section
open Go.RowKit
namespace Go.Sx
def rdO:O->O| .row ty c=>.row ty c| .ext c=>.ext c| .fext c=>.fext c| .box ty cs=>.box ty cs| .ebox cs=>.ebox cs| .xext x=>.xext x| .xrow ty x=>.xrow ty x| .nan k=>.nan k|_=>.dead
def rdM (ks:List Nat) (hp:Hp):Hp:=hp.map fun x=>(x.1,match ks.contains x.1 with|true=>.dead|false=>rdO x.2)
def jqy {ks:List Nat} {h:Nat}:∀{hp:Hp},find (rdM ks hp) h=(find hp h).map fun o=>match ks.contains h with|true=>.dead|false=>rdO o
 |[]=>rfl
 |(k,o)::r=>by
  have ih:=jqy (ks:=ks) (h:=h) (hp:=r);unfold rdM at ih ⊢;simp only[List.map_cons,find];split
  ·rename_i e;subst e;rfl
  ·exact ih
def movL (ty:Nat):O->Option Lf| .row ty' c=>(match zB ty' ty with|true=>some (.r c)|false=>none)| .xrow ty' X=>(match zB ty' ty with|true=>some (.x X)|false=>none)|_=>none
def jf7 (hp:Hp) (am:List C):List (Nat × Nat)->Option (List (Nat × O) × List Lf)|[]=>some ([],[])|(i,ty)::l=>match am[i]? with|some (.o h)=>(match find hp h with|some o=>(match movL ty o,jf7 hp am l with|some x,some (mo,ms)=>some ((h,o)::mo,x::ms)|_,_=>none)|none=>none)|_=>none
def rowM (ty:Nat):Lf->O| .r c=>.row ty c| .x X=>.xrow ty X|_=>.dead
def mkM:List (Nat × Nat)->List Lf->Hp|(i,ty)::l,x::ms=>(i,rowM ty x)::mkM l ms|_,_=>[]
def je3:List (Nat × Nat)->List (Nat × O)->List Lf->Hp|(_,ty)::l,(h,_)::mo,x::ms=>(h,rowM ty x)::je3 l mo ms|_,_,_=>[]
def jtI:List Nat->Bool|[]=>true|h::l=>!(l.contains h)&&jtI l
inductive GM where
 |leaf (ob:Prop) (ms:List Lf) (rs:List RR)
 |br (b:Bool) (x y:GM)
def GM.sel:GM->Prop × List Lf × List RR| .leaf ob ms rs=>(ob,ms,rs)| .br b x y=>match b with|true=>x.sel|false=>y.sel
def GM.toRM (am:List C) (mv:List (Nat × Nat)) (mo:List (Nat × O)) (hp:Hp) (nx:Nat):GM->RT| .leaf ob ms rs=>let b:=jcp am rs nx; .leaf ⟨ob,jb8 b.ws,b.hp++(je3 mv mo ms++jal hp),b.n⟩| .br b x y=>.br b (x.toRM am mv mo hp nx) (y.toRM am mv mo hp nx)
def jqz {am:List C} {mv:List (Nat × Nat)} {mo:List (Nat × O)} {hp:Hp} {nx:Nat}:∀t:GM,(t.toRM am mv mo hp nx).sel=⟨t.sel.1,jb8 (jcp am t.sel.2.2 nx).ws,(jcp am t.sel.2.2 nx).hp++(je3 mv mo t.sel.2.1++jal hp),(jcp am t.sel.2.2 nx).n⟩
 | .leaf ob ms rs=>rfl
 | .br b x y=>by
  cases b
  ·exact jqz y
  ·exact jqz x
def jew (shs:List SV) (mv:List (Nat × Nat)) (g:List Lf->List Lf->Option GM):Spec:=fun vs hp nx =>
 match jiy (rdM [] hp) shs vs with|some (_,am1)=>(match jf7 hp am1 mv with|some (mo1,_)=>(match jiy (rdM (mo1.map (·.1)) hp) shs vs with|some (ls,am)=>(match jf7 hp am mv with|some (mo,ms)=>(match jtI (mo.map (·.1))&&decide (mo.map (·.1)=mo1.map (·.1)),g ls ms with|true,some t=>some (t.toRM am mv mo hp nx)|_,_=>none)|none=>none)|none=>none)|none=>none)|none=>none
def jop (hp:Hp):List (Nat × Nat)->List Lf->Prop->Prop|[],[],k=>k|(i,ty)::l,x::ms,k=>(match find hp i,x with|some (.row ty' c'),.r c=>(match zB ty' ty with|true=>jel c c'∧jop hp l ms k|false=>False)|some (.xrow ty' X'),.x X=>(match zB ty' ty with|true=>mX X X'∧jop hp l ms k|false=>False)|_,_=>False)|_,_,_=>False
def fitVu (n0:Nat) (us:List Nat) (rs:List RR) (v:V) (hp:Hp):Prop:=match v with| .w u=>jhX n0 hp rs [u] us| .t [_]=>False| .t l=>jhX n0 hp rs l us
def fitM (n0:Nat) (mv:List (Nat × Nat)) (ms:List Lf) (rs:List RR) (v:V) (hp:Hp):Prop:=jop hp mv ms (fitVu n0 (mv.map (·.1)) rs v hp)
section
variable [Globs] {P:zQ} {sp:jaa} {I I':Env} {B:Kd} {nx:Nat} {hp hp':Hp} {w w':zs} {am:List C}
def jH4 (ks:List Nat) (hh:HRel I B hp nx w):HRel I B (rdM ks hp) nx w:=by
 have key:∀h o,find (rdM ks hp) h=some o->∃o1,find hp h=some o1∧o.lt nx∧o.ok I B w h∧∀k,o.blk (I h)=some k->o1.blk (I h)=some k:=fun h o hf=>by
  rw[jqy]at hf;obtain⟨o1,h1,h2⟩:=zV.1 hf;obtain⟨_,a2,a3⟩:=hh.ok h o1 h1;refine⟨o1,h1,?_⟩;subst h2;split
  ·exact⟨trivial,trivial,fun _ h=>by cases h⟩
  ·cases o1<;>first|exact⟨a2,a3,fun _ h=>h⟩|exact⟨trivial,trivial,fun _ h=>by cases h⟩
 refine⟨fun h o hf=>?_,fun h o h' o' k hf hf' hne hb hb'=>?_,hh.glob⟩
 ·obtain⟨o1,h1,h2,h3,_⟩:=key h o hf;exact⟨(hh.ok h o1 h1).1,h2,h3⟩
 ·obtain⟨o1,h1,_,_,h4⟩:=key h o hf;obtain⟨o2,h5,_,_,h6⟩:=key h' o' hf';exact hh.apart h o1 h' o2 k h1 h5 hne (h4 k hb) (h6 k hb')
def jDb {h:Nat} {l:List Nat} (hn:jtI (h::l)=true):h∉l∧jtI l=true:=by
 simp only[jtI,zm]at hn;exact⟨fun hm=>by simp[hm]at hn,hn.2⟩
def ji0:O->Bool| .row _ _=>true| .xrow _ _=>true|_=>false
def je4 {o:O} {v:Value} (h:ji0 o=true):o.blk v=v.ownBlock:=by cases o<;>first|rfl|cases h
def jxF {ty:Nat} {o:O} {x:Lf} (h:movL ty o=some x):o=rowM ty x∧ji0 o=true:=by
 unfold movL at h;split at h
 ·split at h
  ·rename_i e;have e:=zj e;subst e;cases h;exact⟨rfl,rfl⟩
  ·cases h
 ·split at h
  ·rename_i e;have e:=zj e;subst e;cases h;exact⟨rfl,rfl⟩
  ·cases h
 ·cases h
def jib:∀{mv:List (Nat × Nat)} {mo:List (Nat × O)} {ms:List Lf},jf7 hp am mv=some (mo,ms) -> (∀p∈mo,find hp p.1=some p.2∧ji0 p.2=true) ∧ (∀x o,find (mkM mv ms) x=some o->∃h,am[x]?=some (.o h)∧find hp h=some o∧ji0 o=true∧h∈mo.map (·.1))
 |[],mo,ms,h=>by
  simp only[jf7,zk,qp]at h;obtain⟨rfl,rfl⟩:=h;exact⟨(fun _ h=>by cases h),fun _ _ h=>by cases h⟩
 |(i,ty)::l,mo,ms,h=>by
  unfold jf7 at h;split at h
  ·rename_i h0 ha;split at h
   ·rename_i o0 hf;split at h
    ·rename_i x0 mo' ms' hx hm;cases h;obtain⟨e1,e2⟩:=jxF hx;obtain⟨r1,r2⟩:=jib hm;refine⟨fun p hp'=>?_,fun x o hfx=>?_⟩
     ·rcases qu.1 hp' with rfl|hp'
      ·exact⟨hf,e2⟩
      ·exact r1 p hp'
     ·simp only[mkM,find]at hfx;split at hfx
      ·rename_i e;subst e;cases hfx;rw[<-e1];exact⟨h0,ha,hf,e2,zy⟩
      ·obtain⟨h,q1,q2,q3,q4⟩:=r2 x o hfx;exact⟨h,q1,q2,q3,zw _ q4⟩
    ·cases h
   ·cases h
  ·cases h
def jxG:∀{mv:List (Nat × Nat)} {mo:List (Nat × O)} {ms:List Lf},jf7 hp am mv=some (mo,ms)->jtI (mo.map (·.1))=true -> ∀x x' o o' h,find (mkM mv ms) x=some o->find (mkM mv ms) x'=some o'->am[x]?=some (.o h)->am[x']?=some (.o h)->x=x'
 |[],mo,ms,h,_,x,x',o,o',g,hx,_,_,_=>by
  simp only[jf7,zk,qp]at h;obtain⟨rfl,rfl⟩:=h;cases hx
 |(i,ty)::l,mo,ms,h,hn,x,x',o,o',g,hx,hx',hg,hg'=>by
  unfold jf7 at h;split at h
  ·rename_i h0 ha;split at h
   ·rename_i o0 hf;split at h
    ·rename_i x0 mo' ms' hx0 hm;cases h;obtain⟨n1,n2⟩:=jDb hn;simp only[mkM,find]at hx hx';split at hx
     ·rename_i e;subst e;rw[ha]at hg;cases hg;split at hx'
      ·rename_i e;exact e
      ·obtain⟨h2,q1,_,_,q4⟩:=(jib hm).2 x' o' hx';rw[q1]at hg';cases hg';exact absurd q4 n1
     ·split at hx'
      ·rename_i e;subst e;rw[ha]at hg';cases hg';obtain⟨h2,q1,_,_,q4⟩:=(jib hm).2 x o hx;rw[q1]at hg;cases hg;exact absurd q4 n1
      ·exact jxG hm n2 x x' o o' g hx hx' hg hg'
    ·cases h
   ·cases h
  ·cases h
def juO {k:Prop}:∀{mv:List (Nat × Nat)} {mo:List (Nat × O)} {ms ms':List Lf},jf7 hp am mv=some (mo,ms)->jop hp' mv ms' k -> k∧(∀h o,find (je3 mv mo ms') h=some o->∃x,x∈mv.map (·.1)∧am[x]?=some (.o h)∧find hp' x=some o∧ji0 o=true∧∃o0,find hp h=some o0∧ji0 o0=true) ∧ (∀h,find (je3 mv mo ms') h=none->h∉mo.map (·.1))∧(∀x∈mv.map (·.1),∃o h,find hp' x=some o∧ji0 o=true∧am[x]?=some (.o h)∧h∈mo.map (·.1)) ∧ ∀h∈mo.map (·.1),∃x∈mv.map (·.1),am[x]?=some (.o h)
 |[],mo,ms,[],h,hk=>by
  simp only[jf7,zk,qp]at h;obtain⟨rfl,rfl⟩:=h;exact⟨hk,(fun _ _ h=>by cases h),(fun _ _ h=>by cases h),(fun _ h=>by cases h),fun _ h=>by cases h⟩
 |[],mo,ms,_::_,h,hk=>hk.elim
 |(i,ty)::l,mo,ms,[],h,hk=>hk.elim
 |(i,ty)::l,mo,ms,y::ms',h,hk=>by
  unfold jf7 at h;split at h
  ·rename_i h0 ha;split at h
   ·rename_i o0 hf;split at h
    ·rename_i x0 mo' ms0 hx0 hm;cases h;obtain⟨_,e2⟩:=jxF hx0
     have hy:∃o1,find hp' i=some o1∧o1=rowM ty y∧ji0 o1=true∧jop hp' l ms' k:=by
      unfold jop at hk;split at hk
      ·rename_i ty' c' c hfi;split at hk
       ·rename_i e;have e:=zj e;subst e;have:=jb7 hk.1;subst this;exact⟨_,hfi,rfl,rfl,hk.2⟩
       ·exact hk.elim
      ·rename_i ty' X' X hfi;split at hk
       ·rename_i e;have e:=zj e;subst e;have:=jeb hk.1;subst this;exact⟨_,hfi,rfl,rfl,hk.2⟩
       ·exact hk.elim
      ·exact hk.elim
     obtain⟨o1,g1,g2,g3,g4⟩:=hy;obtain⟨r0,r1,r2,r3,r4⟩:=juO hm g4;refine⟨r0,fun g o hg=>?_,fun g hg=>?_,fun x hx=>?_,fun g hg=>?_⟩
     ·simp only[je3,find]at hg;split at hg
      ·rename_i e;subst e;cases hg;rw[<-g2];exact⟨i,zy,ha,g1,g3,o0,hf,e2⟩
      ·obtain⟨x,q1,q2⟩:=r1 g o hg;exact⟨x,zw _ q1,q2⟩
     ·simp only[je3,find]at hg;split at hg
      ·cases hg
      ·rename_i hne;intro hm2;rcases qu.1 hm2 with e|hm2
       ·exact hne e.symm
       ·exact r2 g hg hm2
     ·rcases qu.1 hx with rfl|hx
      ·exact⟨o1,h0,g1,g3,ha,zy⟩
      ·obtain⟨o,h,q1,q2,q3,q4⟩:=r3 x hx;exact⟨o,h,q1,q2,q3,zw _ q4⟩
     ·rcases qu.1 hg with rfl|hg
      ·exact⟨i,zy,ha⟩
      ·obtain⟨x,q1,q2⟩:=r4 g hg;exact⟨x,zw _ q1,q2⟩
    ·cases h
   ·cases h
  ·cases h
def jAc {B':Kd} {h h':Nat} {o:O} (hr:ji0 o=true) (he:I' h'=I h) (hok:o.ok I B w h) (hF:∀k,B.fr k->B'.fr k) (hb:∀k,(I h).ownBlock=some k->¬B'.all k):o.ok I' B' w h':=by
 cases o with
 |row ty c=>exact⟨by rw[he];exact hok.1,fun k hk=>hb k (by rw[<-he];exact hk)⟩
 |xrow ty X =>
  obtain⟨us,q1,q2,q3⟩:=hok;exact⟨us,by rw[he];exact q1,fun i j hi hj=>let ⟨u,hu,hux⟩:=q2 i j hi hj; ⟨u,hu,NC.at_mono hF hux⟩,fun k hk=>hb k (by rw[<-he];exact hk)⟩
 |_=>cases hr
def jAd {o:O} {n:Nat} (hr:ji0 o=true):o.lt n:=by cases o<;>first|trivial|cases hr
def jsc {ks:List Nat} {h:Nat} {o:O} (hf:find (rdM ks hp) h=some o) (hd:o≠.dead):find hp h=some o∧h∉ks∧rdO o=o:=by
 rw[jqy]at hf;obtain⟨o1,h1,h2⟩:=zV.1 hf;split at h2
 ·exact absurd h2.symm hd
 ·rename_i hc;have hr:rdO o1=o1∨rdO o1=.dead:=by cases o1<;>first|exact .inl rfl|exact .inr rfl
  rcases hr with e|e
  ·rw[e]at h2;subst h2;exact⟨h1,fun hm=>(by rw[show ks.contains h=true by simpa using hm]at hc;cases hc),e⟩
  ·exact absurd (h2.symm.trans e) hd
def jDc {f:Nat} {fn:Func} {body:Code} {shs:List SV} {mv:List (Nat × Nat)} {g:List Lf->List Lf->Option GM} {drawn:Nat->Array qx->St->(St->Prop)->Prop} (hdr:∀(B:Kd) (n0:Nat) (I:Env) (w:zs),jec P B fn.ntmps n0 I w (drawn n0)) (hsp:jab P sp) (hf:P.funcs[f]?=some fn) (hb:fn.body=some body) (hn:(fn.name == "runtime.NumGoroutine")=false)
  (h:∀ls ms t,g ls ms=some t->t.sel.1->∀b:Bv,jdQ shs 0 ls=some b->b.vs.length<=fn.ntmps∧∃fuel loops,sx P sp fn.ntmps b.n fuel loops (drawn b.n) body 0 [] ⟨jbE 0 b.vs,mkM mv ms++b.hp,b.n⟩ (jbX P fn.results.toList fun v hp _=>fitM b.n mv t.sel.2.1 t.sel.2.2 v hp)) :
  jaf P f false (jew shs mv g):=by
 refine .inl ⟨jdr hf hb hn,fun I B w args hp nx t hS hob hlt hh hB=>?_⟩;unfold jew at hS;split at hS
 ·rename_i am1 _;split at hS
  ·rename_i mo1 _ _;split at hS
   ·rename_i ls am hto;split at hS
    ·rename_i mo ms hmv;split at hS
     ·rename_i t' hnd hg;cases hS;rw[jqz]at hob ⊢;have hob:t'.sel.1:=hob;rw[zm]at hnd;obtain⟨hnd,hks⟩:=hnd;have hks:=of_decide_eq_true hks;rw[<-hks]at hto;obtain⟨mf1,mf2⟩:=jib hmv;have hhR:=jH4 (mo.map (·.1)) hh
      let Q:Nat->Prop:=fun k=>k<w.heap.size∧∀p∈mo,p.2.blk (I p.1)≠some k
      have hAQ:∀k,B.all k->Q k:=fun k hk=>⟨hB k hk,fun p hp e=>(O.blk_lt (hh.ok p.1 p.2 (mf1 p hp).1).2.2 e).2 hk⟩
      have hBQ:∀k,B.kp k->Q k:=fun k hk=>hAQ k (.inl hk)
      have hOQ:∀h o k,find hp h=some o->h∉mo.map (·.1)->o.blk (I h)=some k->Q k:=fun h o k hf hnm hk =>
       ⟨(O.blk_lt (hh.ok h o hf).2.2 hk).1,fun p hp e=>hh.apart h o p.1 p.2 k hf (mf1 p hp).1 (fun e2=>hnm (e2 ▸ jw hp)) hk e⟩
      have hQ:RdQ Q I (rdM (mo.map (·.1)) hp) w:=by
       refine⟨fun h cs hc=>?_,fun h o x hf hx _=>?_,fun h o X hf hx he=>?_⟩
       ·unfold jdX at hc;split at hc
        ·rename_i ty cs' hf;obtain⟨h1,h2,_⟩:=jsc hf (fun e=>by cases e);exact hOQ h _ _ h1 h2 rfl
        ·rename_i cs' hf;obtain⟨h1,_,_⟩:=jsc hf (fun e=>by cases e);obtain⟨k,o,h3,h4,_⟩:=(hh.ok h _ h1).2.2;rw[h3];exact hBQ k h4
        ·cases hc
       ·obtain⟨h1,h2,h3⟩:=jsc hf (fun e=>by subst e;cases hx);have hok:=(hh.ok h o h1).2.2;cases o with
        |row ty c=>exact fun a n cap hv _=>hOQ h _ a.block h1 h2 (by simp[O.blk,hv,zM])
        |ext c=>exact ja2 hBQ hok.2
        |fext c=>exact ja2 (fun k hk=>hBQ k (B.sub k hk)) hok.2
        |_=>first|(cases h3;done)|(cases hx;done)
       ·obtain⟨h1,h2,h3⟩:=jsc hf (fun e=>by subst e;cases hx);have hok:=(hh.ok h o h1).2.2;cases o with
        |xext Y=>cases hx;exact jD4 hBQ hok
        |xrow ty Y =>
         obtain⟨a1,cap,hv1,hc1,hx1⟩:=jd7 hok hx;refine⟨a1,cap,hv1,hc1,fun hn=>?_⟩;obtain⟨b,off,rfl,hcell⟩:=hx1 hn;exact⟨b,off,rfl,hOQ h _ b h1 h2 (by simp[O.blk,hv1,zM]),fun i j hi hj=>let ⟨u,hu,hux⟩:=hcell i j hi hj; ⟨u,hu,NC.at_mono hAQ hux⟩⟩
        |_=>first|(cases h3;done)|(cases hx;done)
      obtain⟨b,I0,hbl,q⟩:=jhY hQ hhR hB shs args ls am hto hlt 0 (fun _=>zX) [];rw[yu]at hbl;have hbn:b.n=am.length:=by have:=q.nn;omega
      let B0:Kd:=⟨Q,B.fr,fun _=>none,fun k hk=>hBQ k (B.sub k hk),fun _ _=>rfl⟩
      have hall0:∀k,B0.all k->Q k:=fun k hk=>hk.elim id fun h=>absurd rfl h
      have ham:∀x h,am[x]?=some (.o h)->x<b.n∧I0 x=I h:=fun x h hx=>by
       have hlt:=(List.getElem?_eq_some_iff.1 hx).1;refine⟨by rw[hbn];exact hlt,?_⟩;have h1:=q.own x hlt;rw[z7]at h1;rw[h1];simp[za,hx,C.val]
      have hkQ:∀h o k,find hp h=some o->h∈mo.map (·.1)->o.blk (I h)=some k->¬Q k:=fun h o k hf hm hk hq=>by
       obtain⟨p,hp1,rfl⟩:=qm.1 hm;have:=(mf1 p hp1).1;rw[hf]at this;cases this;exact hq.2 p hp1 hk
      have hh0:HRel I0 B0 (mkM mv ms++b.hp) b.n w:=by
       have key:∀x o,find (mkM mv ms++b.hp) x=some o->find (mkM mv ms) x=some o∨find b.hp x=some o:=fun x o hf=>by
        rw[jar]at hf;cases hg2:find (mkM mv ms) x with
        |some o2=>rw[hg2]at hf;exact .inl hf
        |none=>rw[hg2]at hf;exact .inr hf
       refine⟨fun x o hf=>?_,fun x o x' o' k hf hf' hne hk hk'=>?_,hh.glob.sub hBQ⟩
       ·rcases key x o hf with hf|hf
        ·obtain⟨h,a1,a2,a3,a4⟩:=mf2 x o hf;exact⟨(ham x h a1).1,jAd a3,jAc (I:=I) (I':=I0) (B:=B) (B':=B0) a3 (ham x h a1).2 (hh.ok h o a2).2.2 (fun _ h=>h) fun k hk hq=>hkQ h o k a2 a4 (by rw[je4 a3];exact hk) (hall0 k hq)⟩
        ·obtain⟨_,a2,a3,a4,a5⟩:=q.heap x o hf;exact⟨a2,a3,O.ok_moreB (B:=kd Q) (B2:=B0) ⟨fun _ h=>h,fun _ h=>h.elim⟩ (fun _ _ h=>by cases h) a4 fun k hk=>by rw[a5]at hk;cases hk⟩
       ·rcases key x o hf with hf|hf
        ·rcases key x' o' hf' with hf' | hf'
         ·obtain⟨h,a1,a2,a3,a4⟩:=mf2 x o hf;obtain⟨h',c1,c2,c3,c4⟩:=mf2 x' o' hf';rw[(ham x h a1).2]at hk;rw[(ham x' h' c1).2]at hk'
          by_cases e:h=h'
          ·subst e;exact hne (jxG hmv hnd x x' o o' h hf hf' a1 c1)
          ·exact hh.apart h o h' o' k a2 c2 e hk hk'
         ·obtain⟨_,_,_,_,a5⟩:=q.heap x' o' hf';rw[a5]at hk';cases hk'
        ·obtain⟨_,_,_,_,a5⟩:=q.heap x o hf;rw[a5]at hk;cases hk
      obtain⟨hlen,fuel,loops,hx⟩:=h ls ms t' hg hob b hbl;have hcalls:=jkg (n0:=b.n) (B:=B0) hsp (fun I w=>hdr _ _ I w) hf hb hlen hx q.lt (zq _) I0 w hh0 (fun k hk=>(hall0 k hk).1);rw[q.val]at hcalls;refine hcalls.mono ?_;rintro e w' ⟨I',v,hp',nx',rfl,hvlt,hag,⟨Bc,gB,hh'⟩,hbel,hold,hfit⟩;obtain⟨hfv,n1,n2,n3,n4⟩:=juO hmv hfit;have hBc:Old Bc w':=gB.old hold
      have hM:∀k,k<w.heap.size->¬Q k->∃p∈mo,p.2.blk (I p.1)=some k:=fun k hk hq=>by
       apply yE;intro hc;exact hq ⟨hk,fun p hp e=>hc ⟨p,hp,e⟩⟩
      have hat:∀p∈mo,∀k,p.2.blk (I p.1)=some k->∃x∈mv.map (·.1),∃o,find hp' x=some o∧o.blk (I' x)=some k:=fun p hp k hk=>by
       obtain⟨x,hx1,hx2⟩:=n4 p.1 (jw hp);obtain⟨o,h,hx3,hx4,hx5,_⟩:=n3 x hx1;refine⟨x,hx1,o,hx3,?_⟩;rw[je4 hx4,hag x (ham x p.1 hx2).1,(ham x p.1 hx2).2,<-je4 (mf1 p hp).2];exact hk
      have hmB:∀p∈mo,∀k,p.2.blk (I p.1)=some k->¬Bc.all k:=fun p hp k hk=>by
       obtain⟨x,_,o,h1,h2⟩:=hat p hp k hk;exact(O.blk_lt (hh'.ok x o h1).2.2 h2).2
      have hfr:∀k,Bc.fr k->B.fr k∨w.heap.size<=k:=fun k hk=>by
       rcases gB.out k hk with h1|h1
       ·exact .inl h1
       ·refine .inr (xZ fun hlt=>?_);obtain⟨p,hp,e⟩:=hM k hlt h1;exact hmB p hp k e (.inl (Bc.sub k hk))
      have hmu:∀k,Bc.mu k≠none->w.heap.size<=k:=fun k hk=>xZ fun hlt=>by
       by_cases hq:Q k
       ·exact hk (Bc.dis k (gB.le.kp k hq))
       ·obtain⟨p,hp,e⟩:=hM k hlt hq;exact hmB p hp k e (.inr hk)
      let Bn:Kd:=⟨fun k=>B.kp k∨Bc.fr k,fun k=>B.fr k∨Bc.fr k,fun k=>match B.mu k with|some g=>some g|none=>Bc.mu k,fun k hk=>hk.imp (B.sub k) id,fun k hk=>by
       have h1:B.mu k=none:=by
        rcases hk with hk|hk
        ·exact B.dis k hk
        ·rcases hfr k hk with h2|h2
         ·exact B.dis k (B.sub k h2)
         ·cases hm2:B.mu k with
          |none=>rfl
          |some g=>exact absurd (hB k (.inr (by rw[hm2];simp))) (yi h2)
       have h2:Bc.mu k=none:=by
        rcases hk with hk|hk
        ·exact Bc.dis k (gB.le.kp k (hBQ k hk))
        ·exact Bc.dis k (Bc.sub k hk)
       show(match B.mu k with|some g=>some g|none=>Bc.mu k)=none
       rw[h1,h2]⟩
      have hmn:∀k,Bn.mu k=match B.mu k with|some g=>some g|none=>Bc.mu k:=fun _=>rfl
      have hBn:B.Le Bn:=⟨fun k hk=>.inl hk,fun k hk=>.inl hk⟩
      have hBm:B.LeM Bn:=fun k g hk=>by rw[hmn,hk]
      have hna:∀k,Bn.all k->B.all k∨(w.heap.size<=k∧Bc.all k):=fun k hk=>by
       rcases hk with (hk|hk)|hk
       ·exact .inl (.inl hk)
       ·rcases hfr k hk with h2|h2
        ·exact .inl (.inl (B.sub k h2))
        ·exact .inr ⟨h2,.inl (Bc.sub k hk)⟩
       ·rw[hmn]at hk;cases hm2:B.mu k with
        |none=>rw[hm2]at hk;exact .inr ⟨hmu k hk,.inr hk⟩
        |some g=>exact .inl (.inr (by rw[hm2];simp))
      have gn:Grow B Bn false w w':=⟨hBn,fun k hk=>(hna k hk).imp id fun h=>hBc k h.2,fun k hk=>by
       rcases hk with hk|hk
       ·exact .inl hk
       ·exact(hfr k hk).imp id fun h hb=>absurd (hB k (.inl hb)) (yi h),fun h=>by cases h⟩
      have hsame:∀k,k<w.heap.size->¬(∃p∈mo,p.2.blk (I p.1)=some k)->w'.heap[k]?=w.heap[k]?:=fun k hk hnm=>hbel.block k ⟨hk,fun p hp e=>hnm ⟨p,hp,e⟩⟩;have hGB:∀k,(∃p∈mo,p.2.blk (I p.1)=some k)->¬B.all k:=fun k ⟨p,hp,e⟩=>(O.blk_lt (hh.ok p.1 p.2 (mf1 p hp).1).2.2 e).2
      have old:∀h o,find (je3 mv mo t'.sel.2.1++jal hp) h=some o->(find (je3 mv mo t'.sel.2.1) h=some o)∨(h∉mo.map (·.1)∧find (jal hp) h=some o):=fun h o hf=>by
       rw[jar]at hf;cases hg2:find (je3 mv mo t'.sel.2.1) h with
       |some o2=>rw[hg2]at hf;exact .inl hf
       |none=>rw[hg2]at hf;exact .inr ⟨n2 h hg2,hf⟩
      have own0:∀h o k,find (je3 mv mo t'.sel.2.1++jal hp) h=some o->o.blk (I h)=some k->∃o0,find hp h=some o0∧o0.blk (I h)=some k:=fun h o k hf hk=>by
       rcases old h o hf with hf|⟨_,hf⟩
       ·obtain⟨x,_,_,_,q4,o0,q5,q6⟩:=n1 h o hf;exact⟨o0,q5,by rw[je4 q6,<-je4 q4];exact hk⟩
       ·obtain⟨o1,h2,_,_,_,_,h7⟩:=jaN hh hf;exact⟨o1,h2,h7 k hk⟩
      have hh1:HRel I Bn (je3 mv mo t'.sel.2.1++jal hp) nx w':=by
       refine⟨fun h o hf=>?_,fun h o h' o' k hf hf' hne hk hk'=>?_,(jjp hsame (fun k hk=>nkp (hGB k hk)) hh.glob).sub hBn.kp⟩
       ·have hnB:∀k,o.blk (I h)=some k->¬Bn.all k:=fun k hk hb=>by
         obtain⟨o0,h1,h2⟩:=own0 h o k hf hk;have h3:=O.blk_lt (hh.ok h o0 h1).2.2 h2;rcases hna k hb with hb|hb
         ·exact h3.2 hb
         ·exact absurd h3.1 (yi hb.1)
        rcases old h o hf with hf|⟨hnm,hf⟩
        ·obtain⟨x,q1,q2,q3,q4,o0,q5,_⟩:=n1 h o hf;have he:I h=I' x:=by rw[hag x (ham x h q2).1,(ham x h q2).2]
         exact⟨(hh.ok h o0 q5).1,jAd q4,jAc (I:=I') (I':=I) (B:=Bc) (B':=Bn) q4 he (hh'.ok x o q3).2.2 (fun k hk=>.inr hk) fun k hk=>hnB k (by rw[je4 q4,he];exact hk)⟩
        ·obtain⟨o1,h2,h3,h4,h5,h6,h7⟩:=jaN hh hf
         exact⟨h3,h4,O.ok_moreB hBn hBm (O.ok_exceptS hsame hGB h5 (fun k hk hm=>by
          obtain⟨p,hp,e⟩:=hm;exact hh.apart h o1 p.1 p.2 k h2 (mf1 p hp).1 (fun e2=>hnm (e2 ▸ jw hp)) (h7 k hk) e) h6) hnB⟩
       ·obtain⟨o0,a1,a2⟩:=own0 h o k hf hk;obtain⟨o0',c1,c2⟩:=own0 h' o' k hf' hk';exact hh.apart h o0 h' o0' k a1 c1 hne a2 c2
      obtain⟨ws,hws,hfw⟩:∃ws,(jb8 ws).val I'=v.val I'∧jhX b.n hp' t'.sel.2.2 ws (mv.map (·.1)):=by
       match v,hfv with
       | .w u,hfit=>exact⟨[u],rfl,hfit⟩
       | .t [],hfit=>exact⟨[],rfl,hfit⟩
       | .t (x::y::l),hfit=>exact⟨x::y::l,rfl,hfit⟩
      have hin:CIn I I' Bn (je3 mv mo t'.sel.2.1++jal hp) hp' nx w.heap.size b.n am w' (mv.map (·.1)) (mv.map (·.1)):=by
       refine⟨(fun _ h=>h),hh1,fun k o b hk hbk=>?_,fun i hi=>?_⟩
       ·obtain⟨o0,a1,a2⟩:=own0 k o b hk hbk;exact .inl (O.blk_lt (hh.ok k o0 a1).2.2 a2).1
       ·have hi2:i<am.length:=by omega
        have h1:=q.own i hi2;rw[z7]at h1;refine⟨?_,by rw[hag i hi];exact h1.symm⟩;have:am.getD i (.d (.v zX))=am[i]:=by simp[za,hi2]
        rw[this];exact q.xlt _ (qi hi2)
      obtain⟨us2,I2,k⟩:=jkv (B:=Bn) (m:=w.heap.size) (us0:=mv.map (·.1)) (fun q' oq k hq hus hk=>xZ fun hlt=>by
       by_cases hq2:Q k
       ·exact(O.blk_lt (hh'.ok q' oq hq).2.2 hk).2 (.inl (gB.le.kp k hq2))
       ·obtain⟨p,hp,e⟩:=hM k hlt hq2;obtain⟨x,hx1,o,hx2,hx3⟩:=hat p hp k e;exact hh'.apart q' oq x o k hq hx2 (fun e2=>by subst e2;rw[show(mv.map (·.1)).contains q'=true by simpa using hx1]at hus;cases hus) hk hx3) (fun k hk=>(hna k hk).elim (fun h=>.inl (gB.le.kp k (hAQ k h))) (fun h=>h.2)) (fun k hk=>.inr hk) (fun k g hk=>by
       rw[hmn];cases hm2:B.mu k with
       |none=>exact hk
       |some g'=>exact absurd (hB k (.inr (by rw[hm2];simp))) (yi (hmu k (by rw[hk];simp)))) hh' t'.sel.2.2 ws (mv.map (·.1)) hfw nx _ I hin
      refine⟨I2,?_,k.agree,jgI k.lt,k.le,⟨Bn,gn,k.heap⟩,⟨hbel.os,hbel.tape,hbel.output,hbel.size,fun k hk=>hbel.block k (hBQ k hk)⟩,(fun h=>by cases h),fun h=>by cases h⟩
      show xX _=xX ((jb8 (jcp am t'.sel.2.2 nx).ws).val I2)
      rw[<-hws,jdo,jdo];simp only[k.val]
     ·cases hS
    ·cases hS
   ·cases hS
  ·cases hS
 ·cases hS
def jkW {f:Nat} {fn:Func} {body:Code} {shs:List SV} {mv:List (Nat × Nat)} {g:List Lf->List Lf->Option GM} (hm:P.follows .mixedOrders=true) (hsp:jab P sp) (hf:P.funcs[f]?=some fn) (hb:fn.body=some body) (hn:(fn.name == "runtime.NumGoroutine")=false)
  (h:∀ls ms t,g ls ms=some t->t.sel.1->∀b:Bv,jdQ shs 0 ls=some b->b.vs.length<=fn.ntmps∧∃fuel loops,sx P sp fn.ntmps b.n fuel loops (jcD P sp fn.ntmps) body 0 [] ⟨jbE 0 b.vs,mkM mv ms++b.hp,b.n⟩ (jbX P fn.results.toList fun v hp _=>fitM b.n mv t.sel.2.1 t.sel.2.2 v hp)) :
  jaf P f false (jew shs mv g) :=
 jDc (drawn:=fun _=>jcD P sp fn.ntmps) (fun _ _ _ _=>jb1 hm hsp) hsp hf hb hn h
end
end Go.Sx
end

section
open Go.RowKit
namespace Go.Sh
open Go Go.Proofs Go.RowKit Go.Sx
abbrev runA (n:Nat) (T0 T F:List Nat) (fn:Func) (sp:jaa) (loops:jfq) (b:Bv) (rs:List RR):Prop :=sx Tryz.prog sp fn.ntmps b.n 40 loops (jsb Tryz.prog sp fn.ntmps b.n n T0 T F) (bodyOf fn) 0 [] ⟨jbE 0 b.vs,b.hp,b.n⟩ (jbX Tryz.prog fn.results.toList fun v hp _=>jg1 b.n rs v hp)
def je5:Code->Option (Array qx)| .region _ ops true=>some ops| .seq a b=>(match je5 a with|some x=>some x|none=>je5 b)| .cond _ a b=>(match je5 a with|some x=>some x|none=>je5 b)| .block _ b=>je5 b| .loop b=>je5 b|_=>none
def je6:Code->List (Array qx)| .region _ ops true=>[ops]| .seq a b=>je6 a++je6 b| .cond _ a b=>je6 a++je6 b| .block _ b=>je6 b| .loop b=>je6 b|_=>[]
def jGB (B:Bd) (w:zs):jbD B w:=⟨fun _ _ h=>(by cases h),jl6 (fun _=>rfl) B w⟩
abbrev runM (mv:List (Nat × Nat)) (fn:Func) (sp:jaa) (loops:jfq) (b:Bv) (ms0 ms1:List Lf) (rs:List RR):Prop :=sx Tryz.prog sp fn.ntmps b.n 40 loops (jcD Tryz.prog sp fn.ntmps) (bodyOf fn) 0 [] ⟨jbE 0 b.vs,mkM mv ms0++b.hp,b.n⟩ (jbX Tryz.prog fn.results.toList fun v hp _=>fitM b.n mv ms1 rs v hp)
end Go.Sh
end

section
namespace Go.Sh
open Go Go.Proofs Go.RowKit Go.Sx
open Go.IntKind (wrap)
def jhl:List SV:=[.c (.mp 10),.c (.d)]
abbrev pu1 (iu x_:Int) (us:List (List Int)):Int:=(wrap .i64 (wrap .i64 (wrap .i64 (wrap .i64 (wrap .i64 (za (za us iu.toNat []) 0 0*x_)+wrap .i64 (za (za us iu.toNat []) 1 0*za (za us iu.toNat []) 5 (0:Int)))+wrap .i64 (za (za us iu.toNat []) 2 0*za (za us iu.toNat []) 6 (0:Int)))-wrap .i64 (za (za us iu.toNat []) 3 0*za (za us iu.toNat []) 7 (0:Int)))-wrap .i64 (za (za us iu.toNat []) 4 0*za (za us iu.toNat []) 8 (0:Int))))
abbrev pu9 (iu:Int) (us:List (List Int)):List (List Int):=qv us iu.toNat (wr (10:Nat) (za us iu.toNat []) (9:Nat) [wrap .i64 (za (za us iu.toNat []) 9 (0:Int)+1)])
abbrev pu5 (iu x_:Int) (us:List (List Int)):List (List Int):=qv us iu.toNat (wr (10:Nat) (za us iu.toNat []) (5:Nat) [x_,za (za us iu.toNat []) 5 (0:Int)])
abbrev puc (r:Int):Int:=if(if r<32767 then r else(32767:Int))>(-32767:Int)then if r<32767 then r else(32767:Int)else(-32767:Int)
def jkX (iu x_:Int) (us:List (List Int)):Option (Int × List (List Int)) :=
 if zf iu<zb us then if zf iu<zb us then
  if zf iu<zb us then if zf iu<zb us then
   if zf iu<zb us then if zf iu<zb us then
    if zf iu<zb us then if zf iu<zb us then
     if zf iu<zb us then
      ze (jf4 (pu1 iu x_ us) (16384:Int)) fun r0 =>
      if((puc r0)!=r0)=true then
      if zf iu<zb us then if zf iu<zb us then
       if zf iu<zb (pu9 iu us)then if zf iu<zb (pu9 iu us)then
        if zf iu<zb (pu9 iu us)then if zf iu<zb (pu5 iu x_ (pu9 iu us))then some ((puc r0,qv (pu5 iu x_ (pu9 iu us)) iu.toNat (wr (10:Nat) (za (pu5 iu x_ (pu9 iu us)) iu.toNat []) (7:Nat) [puc r0,za (za (pu9 iu us) iu.toNat []) 7 (0:Int)])))
         else none
        else none
        else none
       else none
       else none
      else none
      else
      if zf iu<zb us then if zf iu<zb us then
       if zf iu<zb us then if zf iu<zb (pu5 iu x_ us)then some ((puc r0,qv (pu5 iu x_ us) iu.toNat (wr (10:Nat) (za (pu5 iu x_ us) iu.toNat []) (7:Nat) [puc r0,za (za us iu.toNat []) 7 (0:Int)])))
        else none
       else none
       else none
      else none
     else none
     else none
    else none
    else none
   else none
   else none
  else none
  else none
 else none
def jhm:List Lf->List Lf->Option GM|[.d (.i .i64 iu),.d (.i .i64 x_)],[.r (.recs 10 us)]=>some (.leaf (ok (jkX iu x_ us)) [.r (.recs 10 ((val (jkX iu x_ us)).2))] [.c (.d (.i .i64 ((val (jkX iu x_ us)).1)))])|_,_=>none
abbrev sp_178:jaa->jaa:=jap 178 false (jew jhl [(0,236)] jhm)
def jxH (iu x_:Int) (us:List (List Int)) (r:Int × List (List Int)):Sk (top r) (jkX iu x_ us) :=.obC ((0:Int)<=0∧(0:Int)<3) (by decide) (.ob (.obC ((0:Int)<=1∧(1:Int)<3) (by decide) (.ob (.obC ((0:Int)<=0∧(0:Int)<2) (by decide) (.ob (.obC ((0:Int)<=2∧(2:Int)<3) (by decide) (.ob (.obC ((0:Int)<=1∧(1:Int)<2) (by decide) (.ob (.obC ((0:Int)<=0∧(0:Int)<2) (by decide) (.ob (.obC ((0:Int)<=0∧(0:Int)<2) (by decide) (.ob (.obC ((0:Int)<=1∧(1:Int)<2) (by decide) (.ob (.obC ((0:Int)<=1∧(1:Int)<2) (by decide) (.ob (.call (.brB
 (.ob (.ob (.obC ((0:Int)<=0∧(0:Int)<2) (by decide) (.ob (.obC ((0:Int)<=0∧(0:Int)<2) (by decide) (.ob (.ob (.ob (.obT (.ret (fun r=>(Ob (qv (pu5 iu x_ (pu9 iu us)) iu.toNat (wr (10:Nat) (za (pu5 iu x_ (pu9 iu us)) iu.toNat []) (7:Nat) [puc (val (jf4 (pu1 iu x_ us) (16384:Int))),za (za (pu9 iu us) iu.toNat []) 7 (0:Int)])=r.2) ∧
 (Ob ((puc (val (jf4 (pu1 iu x_ us) (16384:Int))))=r.1) ∧
 True))) ⟨⟨rfl⟩,⟨⟨rfl⟩,trivial⟩⟩))))))))))
 (.obC ((0:Int)<=0∧(0:Int)<2) (by decide) (.ob (.obC ((0:Int)<=0∧(0:Int)<2) (by decide) (.ob (.ob (.ob (.obT (.ret (fun r=>(Ob (qv (pu5 iu x_ us) iu.toNat (wr (10:Nat) (za (pu5 iu x_ us) iu.toNat []) (7:Nat) [puc (val (jf4 (pu1 iu x_ us) (16384:Int))),za (za us iu.toNat []) 7 (0:Int)])=r.2) ∧
 (Ob ((puc (val (jf4 (pu1 iu x_ us) (16384:Int))))=r.1) ∧
 True))) ⟨⟨rfl⟩,⟨⟨rfl⟩,trivial⟩⟩)))))))))))))))))))))))))))
def jvE (iu x_:Int) (us:List (List Int)) (r:Int × List (List Int)) (h:ze (jkX iu x_ us) some=some r):runM [(0,236)] Tryz.f178 ((sp_181 sp0)) (fun _ _ _=>none) (jaK jhl [.d (.i .i64 iu),.d (.i .i64 x_)]) [.r (.recs 10 us)] [.r (.recs 10 r.2)] [.c (.d (.i .i64 r.1))] :=Sk.vc (jxH iu x_ us r) (by kernel_rfl) h
def jvF:jaf Tryz.prog 178 false (jew jhl [(0,236)] jhm):=by
 refine jkW (sp:=(sp_181 sp0)) (fn:=Tryz.f178) (body:=bodyOf Tryz.f178) mixed (sp_181_ok jaj) Tryz.func178 (by kernel_rfl) (by kernel_rfl) fun ls ms t h ho b hb=>?_;unfold jhm at h;split at h
 ·rename_i iu x_ us;cases h;obtain rfl:=jav hb;exact⟨zh (by kernel_rfl),_,_,jvE iu x_ us _ (jai ho)⟩
 ·cases h
def sp_178_ok {sp:jaa} (h:jab Tryz.prog sp):jab Tryz.prog (sp_178 sp):=jag jvF h
attribute [irreducible] jkX
end Go.Sh
end

section
namespace Go.Sh
open Go Go.Proofs Go.RowKit Go.Sx
open Go.IntKind (wrap)
def jf8:List SV:=[.c (.m),.c (.d)]
def jqA (l:List (List Int)) (x0:(Int × Int × List (List Int))):Option ((Int × Int × List (List Int)) ⊕ (Int × List (List Int))) :=
 if x0.2.1<(↑l.length:Int)then if 0<=x0.2.1∧x0.2.1<(↑x0.2.2.length:Int)then
  ze (jkX (↑x0.2.1.toNat:Int) x0.1 x0.2.2) fun r0 =>
  some (.inl ((r0.1,wrap .i64 (x0.2.1+1),r0.2)))
  else none
 else some (.inr (x0.1,x0.2.2))
def je7 (u5:Int × List (List Int)):Option (Int × List (List Int)) :=some (u5.1,u5.2)
def jny (x_:Int) (l:List (List Int)):Option (Int × List (List Int)) :=ze (jae (jqA l) big ((x_,0,l))) (je7)
def jf9:List Lf->List Lf->Option GM|[.d (.i .i64 x_)],[.r (.recs 10 l)]=>some (.leaf (ok (jny x_ l)) [.r (.recs 10 ((val (jny x_ l)).2))] [.c (.d (.i .i64 ((val (jny x_ l)).1)))])|_,_=>none
abbrev sp_169:jaa->jaa:=jap 169 false (jew jf8 [(0,236)] jf9)
abbrev jjS (x_:Int) (l:List (List Int)) (r:Int × List (List Int)):Lp ((Int × Int × List (List Int)) × Nat) ((Int × Int × List (List Int))) ((Int × List (List Int))) ((Int × List (List Int))) (Int × List (List Int)) :=⟨fun z=>z.1,fun z=>z.2,fun z x n=>(x,n),fun z=>jqA l,fun z=>je7,fun z=>top r,fun z=>0,[.c fun vv=>vv.1.1,.c fun _=>(↑l.length:Int),.c fun vv=>vv.1.2.1,.c fun vv=>vv.1.2.2]⟩
def jtJ (x_:Int) (l:List (List Int)) (r:Int × List (List Int)):Sk (top r) (ze (jae (jqA l) big ((x_,0,l))) (je7)) :=
 .loop (jjS x_ l r) (fun kk=>((x_,0,l),big)) fun z0 =>
 .br
 (.ob (.call (.next)))
 (.exit (.obT (.ret (fun r=>(Ob (z0.1.2.2=r.2) ∧
 (Ob (z0.1.1=r.1) ∧
 True))) ⟨⟨rfl⟩,⟨⟨rfl⟩,trivial⟩⟩)))
def jvG (x_:Int) (l:List (List Int)) (r:Int × List (List Int)):Sk (top r) (jny x_ l) :=jtJ x_ l r
def jtK (x_:Int) (l:List (List Int)) (r:Int × List (List Int)) (h:ze (jny x_ l) some=some r):runM [(0,236)] Tryz.f169 ((sp_178 sp0)) (fun gs id st=>match id with
 |0=>some ⟨(Int × Int × List (List Int)) × Nat,fun z=>⟨[(0,.w (.c (.o 0))),(1,.w (.c (.d (.i .i64 z.1.1)))),(7,.w (.c (.d (.i .i64 ((↑l.length:Int)))))),(8,.w (.c (.d (.i .i64 z.1.2.1))))],[(0,.row 236 (.recs 10 z.1.2.2))],1⟩,fun z=>(jjS x_ l r).inv z,fun z=>z.2⟩
 |_=>none) (jaK jf8 [.d (.i .i64 x_)]) [.r (.recs 10 l)] [.r (.recs 10 r.2)] [.c (.d (.i .i64 r.1))] :=
 Sk.vc (jvG x_ l r) (by kernel_rfl) h
def jtL:jaf Tryz.prog 169 false (jew jf8 [(0,236)] jf9):=by
 refine jkW (sp:=(sp_178 sp0)) (fn:=Tryz.f169) (body:=bodyOf Tryz.f169) mixed (sp_178_ok jaj) Tryz.func169 (by kernel_rfl) (by kernel_rfl) fun ls ms t h ho b hb=>?_;unfold jf9 at h;split at h
 ·rename_i x_ l;cases h;obtain rfl:=jav hb;exact⟨zh (by kernel_rfl),_,_,jtK x_ l _ (jai ho)⟩
 ·cases h
def sp_169_ok {sp:jaa} (h:jab Tryz.prog sp):jab Tryz.prog (sp_169 sp):=jag jtL h
end Go.Sh
end

section
namespace Go.Sh
open Go Go.Proofs Go.RowKit Go.Sx
open Go.IntKind (wrap)
attribute [local irreducible] y43 jde
def jtM:List SV:=[.c (.r (.recs 5 [])),.b (.f .f32 []) 32,.c (.r (.recs 4 []))]
def jc2 (b:List Nat) (x0:(Int × List (List Int) × List Nat)):Option ((Int × List (List Int) × List Nat) ⊕ (List (List Int) × List Nat)) :=
 if x0.1<32 then if 0<=x0.1∧x0.1<(↑(32:Nat):Int)then
  if jcm .f32 .i64 (za b x0.1.toNat (0:Nat))=true then
   ze (jny (f2i .f32 (za b x0.1.toNat (0:Nat))) x0.2.1) fun r5 =>
   if 0<=x0.1∧x0.1<(↑(32:Nat):Int)then
   if 0+(0+zf x0.1*1)<32 then some (.inl ((wrap .i64 (x0.1+1),r5.2,jeB (32:Nat) x0.2.2 (0+(0+zf x0.1*1)) (qE .f32 r5.1))))
   else none
   else none
  else none
  else none
 else some (.inr (x0.2.1,x0.2.2))
def jhn (u5:List (List Int) × List Nat):Option (List Nat × List (List Int) × Int × Int) :=
 ze (y60 u5.1) fun r6 =>
 ze (y95 u5.1) fun r7 =>
 some ((u5.2,r6,r7,0))
def jdR (c:List (List Int)) (b:List Nat) (s:List (List Int)):Option (List Nat × List (List Int) × Int × Int) :=
 ze (y43 c) fun r0 =>
 if zb b=(32:Nat)∧0<=z5 none (0:Int)∧z5 none 0<=z5 none (↑(32:Nat):Int)∧z5 none (↑(32:Nat):Int)<=(↑(32:Nat):Int)then
  ze (y76 (yS (32:Nat) (yT (0:Nat) b))) fun r1 =>
  ze (jde [r0,r1]) fun r2 =>
  if(r2==0)=true then
  ze (y77 c s) fun r3 =>
  if(r3.2 != 0)=true then some ((zO,[],0,r3.2))
  else
   ze (y94 c s) fun r4 =>
   ze (jae (jc2 b) big (((0:Int),r4,zO))) (jhn)
  else
  if(r2 != 0)=true then some ((zO,[],0,r2))
  else
   ze (y94 c s) fun r4 =>
   ze (jae (jc2 b) big (((0:Int),r4,zO))) (jhn)
 else none
def jtN:List Lf->Option GT|[.r (.recs 5 c),.b 32 (.f .f32 b),.r (.recs 4 s)]=>some (.leaf (ok (jdR c b s)) [.b 32 (.f .f32 ((val (jdR c b s)).1)),.c (.row 174 (.recs 4 ((val (jdR c b s)).2.1))),.c (.d (.i .i64 ((val (jdR c b s)).2.2.1))),.c (.d (.i .i64 ((val (jdR c b s)).2.2.2)))])|_=>none
abbrev sp_143:jaa->jaa:=jap 143 true (jah jtM jtN)
abbrev jxI (c:List (List Int)) (b:List Nat) (s:List (List Int)) (r:List Nat × List (List Int) × Int × Int):Lp ((Int × List (List Int) × List Nat) × Nat) ((Int × List (List Int) × List Nat)) ((List (List Int) × List Nat)) ((List Nat × List (List Int) × Int × Int)) (List Nat × List (List Int) × Int × Int) :=⟨fun z=>z.1,fun z=>z.2,fun z x n=>(x,n),fun z=>jc2 b,fun z=>jhn,fun z=>top r,fun z=>0,[.c fun _=>0,.c fun _=>0,.c fun _=>b,.c fun vv=>vv.1.1,.c fun _=>zO,.c fun vv=>vv.1.2.1,.c fun vv=>vv.1.2.2]⟩
def jxJ (c:List (List Int)) (b:List Nat) (s:List (List Int)) (r:List Nat × List (List Int) × Int × Int):Sk (top r) (ze (jae (jc2 b) big (((0:Int),val (y94 c s),zO))) (jhn)) :=
 .loop (jxI c b s r) (fun kk=>(((0:Int),val (y94 c s),zO),big)) fun z0 =>
 .br
 (.ob (.ob (.call (.obT (.ob (.ob (.next)))))))
 (.exit (.obT (.call (.call (.obT (.obT (.obT (.obT (.obT (.ret (fun r=>(Ob (r.1=z0.1.2.2) ∧
 (Ob (val (y60 z0.1.2.1)=r.2.1) ∧
 (Ob (val (y95 z0.1.2.1)=r.2.2.1) ∧
 (Ob ((0:Int)=r.2.2.2) ∧
 True))))) ⟨⟨rfl⟩,⟨⟨rfl⟩,⟨⟨rfl⟩,⟨⟨rfl⟩,trivial⟩⟩⟩⟩))))))))))
def jGW (c:List (List Int)) (b:List Nat) (s:List (List Int)) (r:List Nat × List (List Int) × Int × Int):Sk (top r) (jdR c b s) :=.call (.ob (.call (.call (.brB
 (.call (.brB
 (.obT (.obT (.obT (.obT (.obT (.ret (fun r=>(Ob (r.1=zO) ∧
 (Ob (zb r.2.1=(0:Nat)) ∧
 (Ob ((0:Int)=r.2.2.1) ∧
 (Ob ((val (y77 c s)).2=r.2.2.2) ∧
 True))))) ⟨⟨rfl⟩,⟨⟨rfl⟩,⟨⟨rfl⟩,⟨⟨rfl⟩,trivial⟩⟩⟩⟩))))))
 (.call (.obT (jxJ c b s r)))))
 (.brB
 (.obT (.obT (.obT (.obT (.obT (.ret (fun r=>(Ob (r.1=zO) ∧
 (Ob (zb r.2.1=(0:Nat)) ∧
 (Ob ((0:Int)=r.2.2.1) ∧
 (Ob (val (jde [val (y43 c),val (y76 (yS (32:Nat) (yT (0:Nat) b)))])=r.2.2.2) ∧
 True))))) ⟨⟨rfl⟩,⟨⟨rfl⟩,⟨⟨rfl⟩,⟨⟨rfl⟩,trivial⟩⟩⟩⟩))))))
 (.call (.obT (jxJ c b s r))))))))
def jFq (c:List (List Int)) (b:List Nat) (s:List (List Int)) (r:List Nat × List (List Int) × Int × Int) (h:ze (jdR c b s) some=some r):jaR Tryz.f143 ((sp_161 (sp_166 (sp_165 (sp_167 (sp_168 (sp_169 (sp_170 (sp_171 sp0))))))))) (fun gs id st=>match id with
 |0=>some ⟨(Int × List (List Int) × List Nat) × Nat,fun z=>⟨[(6,.w (.c (.p 2 0 1 0))),(11,.w (.c (.o 3))),(12,.w (.c (.p 4 0 1 0))),(36,.w (.b 32 (.f .f32 b))),(37,.w (.c (.d (.i .i64 z.1.1))))],[(2,.arr 110 32 (.f .f32 (zO))),(3,.row 236 (.recs 10 z.1.2.1)),(4,.arr 110 32 (.f .f32 z.1.2.2))],5⟩,fun z=>(jxI c b s r).inv z,fun z=>z.2⟩
 |_=>none) (jaK jtM [.r (.recs 5 c),.b 32 (.f .f32 b),.r (.recs 4 s)]) [.b 32 (.f .f32 r.1),.c (.row 174 (.recs 4 r.2.1)),.c (.d (.i .i64 r.2.2.1)),.c (.d (.i .i64 r.2.2.2))] :=
 Sk.vc (jGW c b s r) (by kernel_rfl) h
def jFr:jaf Tryz.prog 143 true (jah jtM jtN):=by
 refine jan (sp:=(sp_161 (sp_166 (sp_165 (sp_167 (sp_168 (sp_169 (sp_170 (sp_171 sp0))))))))) (fn:=Tryz.f143) (body:=bodyOf Tryz.f143) mixed (sp_161_ok (sp_166_ok (sp_165_ok (sp_167_ok (sp_168_ok (sp_169_ok (sp_170_ok (sp_171_ok jaj)))))))) Tryz.func143 (by kernel_rfl) (by kernel_rfl) fun ls t h ho b hb=>?_;unfold jtN at h;split at h
 ·rename_i c b s;cases h;obtain rfl:=jav hb;exact⟨zh (by kernel_rfl),_,_,jFq c b s _ (jai ho)⟩
 ·cases h
def sp_143_ok {sp:jaa} (h:jab Tryz.prog sp):jab Tryz.prog (sp_143 sp):=jag jFr h
attribute [irreducible] jdR
end Go.Sh
end

section
open Go Go.RowKit
namespace Go.Sx
def jBC (P:zQ) (t:TypeId):Bool:=match P.underlying t with|some (.slice _)=>true|_=>false
section
variable [Globs] {P:zQ} {sp:jaa} {I I0:Env} {B:Kd} {nx N n0:Nat} {hp:Hp} {w w0:zs} {st:St} {a:Act} {ds:List Deferred}
def jDd {o:qx} {t yt:TypeId} {x:zU} {u:V} {aa:Option Addr} {n cap:Nat} {K:Act->zs->Prop} {Q:Exit->Act->zs->Prop} (hop:o.op=.binOp .eql t x (.const (.slice none 0 0)) yt) (hd:jcV N o.dst=true) (hit:jBC P t=true)
  (hx:jcz st x=some u) (hv:u.val I=.slice aa n cap) (hr:RelD ds I B N n0 st a w)
  (hK:RelD ds I B N n0 (st.put o.dst ⟨True,vb aa.isNone,st.hp,st.nx⟩) (a.put o.dst (.bool aa.isNone)) w->K (a.put o.dst (.bool aa.isNone)) w):o.wp P a w K Q:=by
 obtain⟨ms,hms⟩:∃ms,P.underlying t=some (.slice ms):=by
  unfold jBC at hit;split at hit
  ·rename_i ms h';exact⟨ms,h'⟩
  ·cases hit
 have h1:=hr.reads _ _ hx;have e1:a.eval x=.slice aa n cap:=by rw[h1.2,hv]
 have e2:a.eval (.const (.slice none 0 0))=.slice none 0 0:=rfl
 have heq:(Op.equal t (.slice aa n cap) (.slice none 0 0)).run P w=.ok aa.isNone w:=by
  unfold Op.equal;rw[show Op.maxDepth=9999+1 from rfl,Op.equalIn];cases aa<;>simp only[zr,run_underlying hms,zn,zu]<;>rfl
 have hg:(eqGuard .eql t x (.const (.slice none 0 0)) (.slice aa n cap) (.slice none 0 0)).run P w=.ok () w:=by
  cases x<;>rfl
 have hb:(binOp .eql t (.slice aa n cap) (.slice none 0 0)).run P w=.ok (.bool aa.isNone) w:=by
  simp only[binOp,zr,heq,zn,zu]
 have hrun:(execOp a.eval o).run P w=.ok (.value (.bool aa.isNone)) w:=by
  unfold execOp;simp only[hop,e1,e2,zr,hg,hb,zn,zu]
 obtain⟨B1,g,hh⟩:=hr.heap;have hl:Left I B1 st.nx w ⟨True,vb aa.isNone,st.hp,st.nx⟩ false I w:=⟨jak.refl _ _,trivial,zq _,⟨B1,Grow.refl _ _ _ _,hh⟩,Bel.refl _ _,(fun h=>by cases h),fun h=>by cases h⟩
 have:=hr.put1 (o:=o) g hd hl;unfold Oper.wp;rw[hrun];exact hK this
def jpz {f:Nat} {fn:Func} {body:Code} {args:List V} {hp0:Hp} {nx0:Nat} {post:V->Hp->Nat->Prop}
  (hf:P.funcs[f]?=some fn) (hb:fn.body=some body) (hlen:args.length<=fn.ntmps)
  (hlt:∀x∈args,V.lt nx0 x) (hn0:n0<=nx0) (I:Env) (w:zs) (hh:HRel I B hp0 nx0 w) (hB:Old B w)
  (h:∀a:Act,Rel I B fn.ntmps n0 ⟨jbE 0 args,hp0,nx0⟩ a w->body.wp P (Qx [] I B fn.ntmps n0 w (jbX P fn.results.toList post)) a w) :
  Calls P f (args.map (V.val I)).toArray w fun e w'=>∃I' v hp' nx',e=.returned (v.val I')∧v.lt nx'∧jak n0 I I'∧(∃B',Grow B B' false w' w'∧HRel I' B' hp' nx' w')∧Bel B w w'∧Old B w'∧post v hp' nx':=by
 refine calls_of_wp hf hb ?_;have hrel:=jfF (n0:=n0) hlen hlt hn0 I w hh hB;refine x7 (h _ hrel) ?_;rintro e a' w' ⟨x,I',st',rfl,hk,hr',hag',hbl'⟩
 have fin:∀l:List (Prop × W),jfE P st' fn.results.toList=some l->jmu l (post (jb8 (l.map (·.2))) st'.hp st'.nx) ->
   a'.defers=[]∧∃v,(results fn a'.tmps).run P w'=.ok v w'∧∃I' v' hp' nx',xX v=.returned (v'.val I')∧v'.lt nx'∧jak n0 I I'∧(∃B',Grow B B' false w' w'∧HRel I' B' hp' nx' w')∧Bel B w w'∧Old B w'∧post v' hp' nx':=by
  intro l hl ho;have hra:=jkf hr' _ l _ hl ho;refine⟨hr'.defers,(jb8 (l.map (·.2))).val I',?_,I',jb8 (l.map (·.2)),st'.hp,st'.nx,rfl,jgI (fun y hy=>?_),hag',hr'.heap,hbl',hr'.le,hra.2.2⟩
  ·rw[jdo];simp only[jrv,Array.mapM_eq_mapM_toList,zr,Sem.run_map,hra.1,zn,zu,xM];rfl
  ·obtain⟨z,hz,rfl⟩:=qm.1 hy;exact hra.2.1 z hz
 cases x with
 |normal =>
  simp only[jbX]at hk;split at hk
  ·rename_i l hl;exact fin l hl hk
  ·exact hk.elim
 |exit j=>exact hk.elim
 |ret =>
  simp only[jbX]at hk;split at hk
  ·rename_i l hl;exact fin l hl hk
  ·exact hk.elim
def jcQ {o:qx} {r:List qx} {all:Array qx} {Q:Exit->Act->zs->Prop} (hg:o.guard=none) (h:o.wp P a w (fun a' w'=>fd P all Q r a' w') Q):fd P all Q (o::r) a w:=by
 unfold fd;rw[if_pos (by simp[yy,hg])];exact .inl h
def jic:Code->Option (List qx)| .region _ ops false=>some ops.toList|_=>none
def jqB {c:Code} {l:List qx} {Q:Exit->Act->zs->Prop} (hc:jic c=some l) (h:fd P l.toArray Q l a w):c.wp P Q a w:=by
 unfold jic at hc;split at hc
 ·cases hc;refine wp_region_list ?_;simpa using h
 ·cases hc
def jxK {fuel:Nat} {loops:jfq} {drawn:Array qx->St->(St->Prop)->Prop} (hsp:jab P sp) (hdr:jec P B N n0 I0 w0 drawn) {x y:Code} {cur:Nat} {gs:List Nat} {k:Ex->St->Prop}
  (h:sx P sp N n0 fuel loops drawn (.seq x y) cur gs st k) (hr:RelD ds I B N n0 st a w) (hag:jak n0 I0 I) (hbl:Bel B w0 w):x.wp P (Exit.then (y.wp P (Qx ds I0 B N n0 w0 k)) (Qx ds I0 B N n0 w0 k)) a w:=by
 unfold sx at h;refine x7 (ja6 hsp hdr x cur gs st _ I a w h hr hag hbl) ?_;rintro e a' w' ⟨ex,I',st',rfl,hk,hr',hag',hbl'⟩;cases ex with
 |normal=>exact ja6 hsp hdr y cur gs st' k I' a' w' hk hr' hag' hbl'
 |exit j=>exact⟨.exit j,I',st',rfl,hk,hr',hag',hbl'⟩
 |ret=>exact⟨.ret,I',st',rfl,hk,hr',hag',hbl'⟩
def jH6 (P:zQ) (sp:jaa) (N:Nat) (R1 CD:Code) (o1 o2:qx) (x:zU) (rs:List ResultVar) (c:Cont) (post:List RR):Prop :=
 sx P sp N 1 1 (fun _ _ _=>none) (jcD P sp N) R1 0 [] ⟨jbE 0 [.w (.c (.o 0))],[(0,.ext c)],1⟩ fun ex st=>ex=.normal∧jkb P sp N o1 st fun st=>jcz st x=some (.w (.c (.o 0))) ∧ (Ob (c.n=0)->sx P sp N 1 1 (fun _ _ _=>none) (jcD P sp N) CD 0 [] (st.put o2.dst ⟨True,vb true,st.hp,st.nx⟩) (jbX P rs fun v hp _=>jg1 1 post v hp)) ∧ sx P sp N 1 1 (fun _ _ _=>none) (jcD P sp N) CD 0 [] (st.put o2.dst ⟨True,vb false,st.hp,st.nx⟩) (jbX P rs fun v hp _=>jg1 1 post v hp)
def jqC {f:Nat} {fn:Func} {R1 R2 C D:Code} {o1 o2:qx} {t yt:TypeId} {x:zU} {c0:Cont} {g:List Lf->Option GT} (hm:P.follows .mixedOrders=true) (hsp:jab P sp) (hf:P.funcs[f]?=some fn) (hb:fn.body=some (.seq R1 (.seq (.seq R2 C) D))) (hn:(fn.name == "runtime.NumGoroutine")=false)
  (hlen:1<=fn.ntmps) (hR2:jic R2=some [o1,o2]) (hg1:o1.guard=none) (hg2:o2.guard=none) (hop:o2.op=.binOp .eql t x (.const (.slice none 0 0)) yt) (hd:jcV fn.ntmps o2.dst=true) (hit:jBC P t=true)
  (hg:∀ls t,g ls=some t->∃c ob post,ls=[.r c]∧t=.leaf ob post∧(ob->jH6 P sp fn.ntmps R1 (.seq C D) o1 o2 x fn.results.toList c post)):jaf P f true (jah [.c (.r c0)] g):=by
 refine jhZ hf hb hn fun ls t ht ho b hbl I w hlt hh=>?_;have hB:Old (kd fun k=>k<w.heap.size) w:=fun k hk=>jbL.1 hk;obtain⟨c,ob,post,rfl,rfl,hv⟩:=hg ls t ht;have hv:=hv ho;simp only[jdQ,jwX,jdY,qn,jgw,zk]at hbl;subst hbl;have hh:HRel I (kd fun k=>k<w.heap.size) [(0,.ext c)] 1 w:=hh;refine jpz (args:=[.w (.c (.o 0))]) hf hb hlen hlt (zq _) I w hh hB fun a hr=>?_;obtain⟨aa,cap,hval,hcap,hcell⟩:=(hh.ok 0 _ rfl).2.2.1;refine wp_seq (x7 (ja6 hsp (jb1 hm hsp) R1 0 [] _ _ I a w hv hr (jak.refl _ _) (Bel.refl _ _)) ?_);rintro e a1 w1 ⟨ex,I1,st1,rfl,⟨rfl,hdo⟩,hr1,hag1,hbl1⟩;refine wp_seq (wp_seq (jqB hR2 (jcQ hg1 (jcW hsp hr1 hag1 hbl1 hdo fun I2 st2 a2 w2 hr2 hag2 hbl2 hk=>?_))));obtain⟨hx,hk1,hk2⟩:=hk
 have hval2:(V.w (.c (.o 0))).val I2=.slice aa c.n cap:=by
  show I2 0=_
  rw[hag2 0 (by omega)];exact hval
 refine jcQ hg2 (jDd (u:=.w (.c (.o 0))) hop hd hit hx hval2 hr2 fun hr3=>?_)
 have fin:C.wp P (Exit.then (D.wp P (Qx [] I (kd fun k=>k<w.heap.size) fn.ntmps 1 w (jbX P fn.results.toList fun v hp _=>jg1 1 post v hp))) (Qx [] I (kd fun k=>k<w.heap.size) fn.ntmps 1 w (jbX P fn.results.toList fun v hp _=>jg1 1 post v hp))) (a2.put o2.dst (.bool aa.isNone)) w2:=by
  cases aa with
  |none =>
   refine jxK hsp (jb1 hm hsp) (hk1 ⟨?_⟩) hr3 hag2 hbl2;refine Nat.eq_zero_of_not_pos fun hn=>?_;obtain⟨b,off,e,_⟩:=hcell hn;cases e
  |some p=>exact jxK hsp (jb1 hm hsp) hk2 hr3 hag2 hbl2
 unfold fd;exact fin
end
end Go.Sx
end

section
namespace Go.Sh
open Go Go.Proofs Go.RowKit Go.Sx Go.Sx09
def cl1 (f:Func):qx:=((jic (Sx09.sub [1,0,0] (Sx09.bodyOf f))).getD []).getD 0 default
def cl2 (f:Func):qx:=((jic (Sx09.sub [1,0,0] (Sx09.bodyOf f))).getD []).getD 1 default
def jnz:List SV:=[.c (.r (.ints .i64 []))]
def jaO (l:List (Int)):Option (List (Int)):=if l.length*8<=140737488355328 then some l else none
def jho:List Lf->Option GT|[.r (.ints .i64 l)]=>some (.leaf (ok (jaO l)) [.c (.row 3 (.ints .i64 (val (jaO l))))])|_=>none
abbrev sp_136:jaa->jaa:=jap 136 true (jah jnz jho)
def jvH:jaf Tryz.prog 136 true (jah jnz jho):=by
 refine jqC (sp:=sp0) (fn:=Tryz.f136) (R1:=Sx09.sub [0] (Sx09.bodyOf Tryz.f136)) (R2:=Sx09.sub [1,0,0] (Sx09.bodyOf Tryz.f136)) (C:=Sx09.sub [1,0,1] (Sx09.bodyOf Tryz.f136)) (D:=Sx09.sub [1,1] (Sx09.bodyOf Tryz.f136)) (o1:=cl1 Tryz.f136) (o2:=cl2 Tryz.f136) (t:=31) (yt:=31) (x:=.tmp 3)
  mixed jaj Tryz.func136 (by kernel_rfl) (by kernel_rfl) (zh (by kernel_rfl)) (by kernel_rfl) (by kernel_rfl) (by kernel_rfl) (by kernel_rfl) (by kernel_rfl) (by kernel_rfl) fun ls t h=>?_
 unfold jho at h;split at h
 ·rename_i l;cases h;refine⟨_,_,_,rfl,rfl,fun ho=>?_⟩
  have hl:l.length*8<=140737488355328:=by
   unfold ok jaO at ho;split at ho
   ·assumption
   ·cases ho
  have hv:val (jaO l)=l:=by
   unfold jaO;rw[if_pos hl];rfl
  rw[hv];refine jK (by kernel_rfl:(Ex.normal=Ex.normal∧some (V.w (W.c (Sx.C.o 0)))=some (V.w (W.c (Sx.C.o 0)))∧(Ob (l.length=0)->Ob True∧Ob (l.length=0)∧True)∧Ob ((([]:List (Int)).length+l.length)*8<=140737488355328∧([]:List (Int)).length+l.length<=9223372036854775807)∧Ob True∧Ob (([]:List (Int))++l=l)∧True)=_) ?_;exact⟨rfl,rfl,fun h=>⟨⟨trivial⟩,h,trivial⟩,⟨by simp only[qa];omega⟩,⟨trivial⟩,⟨rfl⟩,trivial⟩
 ·cases h
def sp_136_ok {sp:jaa} (h:jab Tryz.prog sp):jab Tryz.prog (sp_136 sp):=jag jvH h
def jnA:List SV:=[.c (.r (.recs 5 []))]
def jby (l:List (List Int)):Option (List (List Int)):=if l.length*40<=140737488355328 then some l else none
def jhp:List Lf->Option GT|[.r (.recs 5 l)]=>some (.leaf (ok (jby l)) [.c (.row 148 (.recs 5 (val (jby l))))])|_=>none
abbrev sp_137:jaa->jaa:=jap 137 true (jah jnA jhp)
def jvI:jaf Tryz.prog 137 true (jah jnA jhp):=by
 refine jqC (sp:=sp0) (fn:=Tryz.f137) (R1:=Sx09.sub [0] (Sx09.bodyOf Tryz.f137)) (R2:=Sx09.sub [1,0,0] (Sx09.bodyOf Tryz.f137)) (C:=Sx09.sub [1,0,1] (Sx09.bodyOf Tryz.f137)) (D:=Sx09.sub [1,1] (Sx09.bodyOf Tryz.f137)) (o1:=cl1 Tryz.f137) (o2:=cl2 Tryz.f137) (t:=116) (yt:=116) (x:=.tmp 3)
  mixed jaj Tryz.func137 (by kernel_rfl) (by kernel_rfl) (zh (by kernel_rfl)) (by kernel_rfl) (by kernel_rfl) (by kernel_rfl) (by kernel_rfl) (by kernel_rfl) (by kernel_rfl) fun ls t h=>?_
 unfold jhp at h;split at h
 ·rename_i l;cases h;refine⟨_,_,_,rfl,rfl,fun ho=>?_⟩
  have hl:l.length*40<=140737488355328:=by
   unfold ok jby at ho;split at ho
   ·assumption
   ·cases ho
  have hv:val (jby l)=l:=by
   unfold jby;rw[if_pos hl];rfl
  rw[hv];refine jK (by kernel_rfl:(Ex.normal=Ex.normal∧some (V.w (W.c (Sx.C.o 0)))=some (V.w (W.c (Sx.C.o 0)))∧(Ob (l.length=0)->Ob True∧Ob (l.length=0)∧True)∧Ob ((([]:List (List Int)).length+l.length)*40<=140737488355328∧([]:List (List Int)).length+l.length<=9223372036854775807)∧Ob True∧Ob (([]:List (List Int))++l=l)∧True)=_) ?_;exact⟨rfl,rfl,fun h=>⟨⟨trivial⟩,h,trivial⟩,⟨by simp only[qa];omega⟩,⟨trivial⟩,⟨rfl⟩,trivial⟩
 ·cases h
def sp_137_ok {sp:jaa} (h:jab Tryz.prog sp):jab Tryz.prog (sp_137 sp):=jag jvI h
def jnB:List SV:=[.c (.r (.recs 4 []))]
def jbb (l:List (List Int)):Option (List (List Int)):=if l.length*32<=140737488355328 then some l else none
def jhq:List Lf->Option GT|[.r (.recs 4 l)]=>some (.leaf (ok (jbb l)) [.c (.row 174 (.recs 4 (val (jbb l))))])|_=>none
abbrev sp_144:jaa->jaa:=jap 144 true (jah jnB jhq)
def jvJ:jaf Tryz.prog 144 true (jah jnB jhq):=by
 refine jqC (sp:=sp0) (fn:=Tryz.f144) (R1:=Sx09.sub [0] (Sx09.bodyOf Tryz.f144)) (R2:=Sx09.sub [1,0,0] (Sx09.bodyOf Tryz.f144)) (C:=Sx09.sub [1,0,1] (Sx09.bodyOf Tryz.f144)) (D:=Sx09.sub [1,1] (Sx09.bodyOf Tryz.f144)) (o1:=cl1 Tryz.f144) (o2:=cl2 Tryz.f144) (t:=158) (yt:=158) (x:=.tmp 3)
  mixed jaj Tryz.func144 (by kernel_rfl) (by kernel_rfl) (zh (by kernel_rfl)) (by kernel_rfl) (by kernel_rfl) (by kernel_rfl) (by kernel_rfl) (by kernel_rfl) (by kernel_rfl) fun ls t h=>?_
 unfold jhq at h;split at h
 ·rename_i l;cases h;refine⟨_,_,_,rfl,rfl,fun ho=>?_⟩
  have hl:l.length*32<=140737488355328:=by
   unfold ok jbb at ho;split at ho
   ·assumption
   ·cases ho
  have hv:val (jbb l)=l:=by
   unfold jbb;rw[if_pos hl];rfl
  rw[hv];refine jK (by kernel_rfl:(Ex.normal=Ex.normal∧some (V.w (W.c (Sx.C.o 0)))=some (V.w (W.c (Sx.C.o 0)))∧(Ob (l.length=0)->Ob True∧Ob (l.length=0)∧True)∧Ob ((([]:List (List Int)).length+l.length)*32<=140737488355328∧([]:List (List Int)).length+l.length<=9223372036854775807)∧Ob True∧Ob (([]:List (List Int))++l=l)∧True)=_) ?_;exact⟨rfl,rfl,fun h=>⟨⟨trivial⟩,h,trivial⟩,⟨by simp only[qa];omega⟩,⟨trivial⟩,⟨rfl⟩,trivial⟩
 ·cases h
def sp_144_ok {sp:jaa} (h:jab Tryz.prog sp):jab Tryz.prog (sp_144 sp):=jag jvJ h
end Go.Sh
end

section
namespace Go.Sh
open Go Go.Proofs Go.RowKit Go.Sx
open Go.IntKind (wrap)
attribute [local irreducible] y85 jbb
def je8:List SV:=[.c (.p [.p [.d,.x (.st zS []),.r (.ints .i64 [])],.d,.x (.ff .f32 []),.x (.rr 4 []),.r (.frs .f32 32 []),.r (.ints .i64 []),.m,.m,.m]),.c (.d)]
def y70 (u15:List (List Nat)) (r1:Int) (x0:(Int × List Int)):Option ((Int × List Int) ⊕ (List Int)) :=
 if x0.1<32 then if 0<=x0.1∧x0.1<(↑(32:Nat):Int)then
  if jcm .f32 .i64 (za (za u15 r1.toNat []) x0.1.toNat (0:Nat))=true then if 0<=x0.1∧x0.1<(↑(32:Nat):Int)then
   if 0+(0+zf x0.1*1)<32 then some (.inl ((wrap .i64 (x0.1+1),qv (jeE (32:Nat) x0.2) (0+(0+zf x0.1*1)) (f2i .f32 (za (za u15 r1.toNat []) x0.1.toNat (0:Nat))))))
   else none
   else none
  else none
  else none
 else some (.inr x0.2)
def y186 (i:Int) (u11:List (List Nat)) (u18:List (List (List Int))) (u14:List Int) (r0:List (List Int)) (u5:List Int):Option (List (List Nat) × List (List (List Int)) × List Int) :=
 ze (y85 u5) fun r2 =>
 if 0<=i∧i<(↑u11.length:Int)then if zf i<zb u11 then some ((qv u11 i.toNat r2,qv u18 i.toNat (NC.toRecs (qg [NC.r (Cont.recs (4:Nat) r0)] (NC.d (D.v zX)))),u14))
  else none
 else none
def y78 (u13:List (List NC)) (u12:List (List Nat)) (u16:List (List (List Int))) (u15:List (List Nat)) (u17:List Int) (i:Int) (u11:List (List Nat)) (u18:List (List (List Int))) (u14:List Int):Option (List (List Nat) × List (List (List Int)) × List Int) :=
 if 0<=i∧i<(↑u13.length:Int)then if zf i<zb u13 then
  if 0<=i∧i<(↑u16.length:Int)then if zf i<zb u16 then
   ze (jbb (za u16 i.toNat [])) fun r0 =>
   if 0<=i∧i<(↑u18.length:Int)then if zf i<zb u18 then
    if 0<=i∧i<(↑u17.length:Int)then if zf i<zb u17 then
     if(za u17 i.toNat (0:Int)==(-1:Int))=true then some ((u11,qv u18 i.toNat (NC.toRecs (qg [NC.r (Cont.recs (4:Nat) r0)] (NC.d (D.v zX)))),u14))
     else if(za u17 i.toNat (0:Int)!=i)=true then
      if 0<=za u17 i.toNat (0:Int)∧za u17 i.toNat 0<(↑u11.length:Int)then if zf (za u17 i.toNat (0:Int))<zb u11 then
       if 0<=i∧i<(↑u11.length:Int)then if zf i<zb u11 then some ((qv u11 i.toNat (za u11 (zf (za u17 i.toNat (0:Int))) []),qv u18 i.toNat (NC.toRecs (qg [NC.r (Cont.recs (4:Nat) r0)] (NC.d (D.v zX)))),u14))
        else none
       else none
       else none
      else none
      else
      if(nI u13 i.toNat (1:Nat)==0)=true then
       ze (y22 u13 i) fun r1 =>
       if 0<=r1∧r1<(↑u15.length:Int)then
       if zf r1<zb u15 then ze (jae (y70 u15 r1) big (((0:Int),zI))) (y186 i u11 u18 u14 r0)
       else none
       else none
      else if(nI u13 i.toNat (1:Nat)==1)=true then
       ze (jkB u12 u11 (nL u13 i.toNat (2:Nat)) (nL u13 i.toNat (3:Nat)) (nL u13 i.toNat (4:Nat))) fun r3 =>
       if 0<=i∧i<(↑u11.length:Int)then if zf i<zb u11 then
        if 0<=i∧i<(↑u14.length:Int)then if zf i<zb u14 then some ((qv u11 i.toNat r3.1,qv u18 i.toNat (NC.toRecs (qg [NC.r (Cont.recs (4:Nat) r0)] (NC.d (D.v zX)))),qv u14 i.toNat r3.2))
         else none
        else none
        else none
       else none
       else
       if(nI u13 i.toNat (1:Nat)==3)=true then
        ze (y21 u12 u11 (nL u13 i.toNat (2:Nat)) (nL u13 i.toNat (3:Nat)) (0:Int) (0:Int)) fun r4 =>
        ze (y85 r4) fun r5 =>
        if 0<=i∧i<(↑u16.length:Int)then
        if zf i<zb u16 then
         ze (jdR (nR u13 i.toNat (6:Nat)) r5 (za u16 i.toNat [])) fun r6 =>
         if 0<=i∧i<(↑u11.length:Int)then
         if zf i<zb u11 then if 0<=i∧i<(↑(zb (qv u18 i.toNat (NC.toRecs (qg [NC.r (Cont.recs (4:Nat) r0)] (NC.d (D.v zX)))))):Int)then
          if zf i<zb (qv u18 i.toNat (NC.toRecs (qg [NC.r (Cont.recs (4:Nat) r0)] (NC.d (D.v zX)))))then if 0<=i∧i<(↑u14.length:Int)then
           if zf i<zb u14 then some ((qv u11 i.toNat r6.1,qv (qv u18 i.toNat (NC.toRecs (qg [NC.r (Cont.recs (4:Nat) r0)] (NC.d (D.v zX))))) i.toNat (NC.toRecs (qg [NC.r (Cont.recs (4:Nat) r6.2.1)] (NC.d (D.v zX)))),qv u14 i.toNat r6.2.2.1))
           else none
           else none
          else none
          else none
         else none
         else none
        else none
        else none
       else
        ze (y21 u12 u11 (nL u13 i.toNat (2:Nat)) (nL u13 i.toNat (3:Nat)) (0:Int) (nI u13 i.toNat (5:Nat))) fun r7 =>
        ze (y85 r7) fun r8 =>
        if 0<=i∧i<(↑u11.length:Int)then
        if zf i<zb u11 then some ((qv u11 i.toNat r8,qv u18 i.toNat (NC.toRecs (qg [NC.r (Cont.recs (4:Nat) r0)] (NC.d (D.v zX)))),u14))
        else none
        else none
     else none
    else none
    else none
   else none
   else none
  else none
  else none
 else none
def je9:List Lf->List Lf->Option GM|[.d (.s u22),.x (.st [.s,.i .i64,.ints .i64,.ints .i64,.ints .i64,.i .i64,.recs 5,.i .i64] u13),.r (.ints .i64 u23),.d (.i .i64 u20),.x (.ff .f32 u12),.x (.rr 4 u16),.r (.frs .f32 32 u15),.r (.ints .i64 u17),.d (.i .i64 i)],[.r (.frs .f32 32 u11),.x (.rr 4 u18),.r (.ints .i64 u14)]=>some (.leaf (ok (y78 u13 u12 u16 u15 u17 i u11 u18 u14)) [.r (.frs .f32 32 ((val (y78 u13 u12 u16 u15 u17 i u11 u18 u14)).1)),.x (.rr 4 ((val (y78 u13 u12 u16 u15 u17 i u11 u18 u14)).2.1)),.r (.ints .i64 ((val (y78 u13 u12 u16 u15 u17 i u11 u18 u14)).2.2))] [])|_,_=>none
abbrev sp_103:jaa->jaa:=jap 103 false (jew je8 [(7,110),(8,158),(9,3)] je9)
abbrev jid (u22:zY) (u13:List (List NC)) (u23:List Int) (u20:Int) (u12:List (List Nat)) (u16:List (List (List Int))) (u15:List (List Nat)) (u17:List Int) (i:Int) (u11:List (List Nat)) (u18:List (List (List Int))) (u14:List Int) (r:List (List Nat) × List (List (List Int)) × List Int):Lp ((Int × List Int) × Nat) (Int × List Int) (List Int) ((List (List Nat) × List (List (List Int)) × List Int)) (List (List Nat) × List (List (List Int)) × List Int) :=⟨fun z=>z.1,fun z=>z.2,fun z x n=>(x,n),fun z=>y70 u15 (val (y22 u13 i)),fun z=>y186 i u11 u18 u14 (val (jbb (za u16 i.toNat []))),fun z=>top r,fun z=>0,[.c fun _=>0,.c fun _=>i,.c fun _=>0,.c fun _=>za u15 (zf (val (y22 u13 i))) [],.c fun vv=>vv.1.1,.c fun _=>u11,.c fun _=>qv u18 i.toNat (NC.toRecs (qg [NC.r (Cont.recs (4:Nat) (val (jbb (za u16 i.toNat []))))] (NC.d (D.v zX)))),.c fun _=>u14,.c fun _=>0,.c fun _=>u20,.c fun vv=>vv.1.2,.c fun _=>u22,.c fun _=>u12,.c fun _=>u16,.c fun _=>u15,.c fun _=>u17,.c fun _=>u13,.c fun _=>u23]⟩
def jsd (u22:zY) (u13:List (List NC)) (u23:List Int) (u20:Int) (u12:List (List Nat)) (u16:List (List (List Int))) (u15:List (List Nat)) (u17:List Int) (i:Int) (u11:List (List Nat)) (u18:List (List (List Int))) (u14:List Int) (r:List (List Nat) × List (List (List Int)) × List Int):Sk (top r) (ze (jae (y70 u15 (val (y22 u13 i))) big (((0:Int),zI))) (y186 i u11 u18 u14 (val (jbb (za u16 i.toNat []))))) :=
 .loop (jid u22 u13 u23 u20 u12 u16 u15 u17 i u11 u18 u14 r) (fun kk=>(((0:Int),zI),big)) fun z0 =>
 .br
 (.ob (.ob (.ob (.ob (.next)))))
 (.exit (.obT (.obT (.call (.ob (.ob (.rc)))))))
def jtO (u22:zY) (u13:List (List NC)) (u23:List Int) (u20:Int) (u12:List (List Nat)) (u16:List (List (List Int))) (u15:List (List Nat)) (u17:List Int) (i:Int) (u11:List (List Nat)) (u18:List (List (List Int))) (u14:List Int) (r:List (List Nat) × List (List (List Int)) × List Int):Sk (top r) (y78 u13 u12 u16 u15 u17 i u11 u18 u14) :=.obT (.obT (.ob (.ob (.obT (.obT (.ob (.ob (.call (.ob (.ob (.obT (.ob (.ob (.brB
 (.rc)
 (.brB
 (.obT (.obT (.ob (.ob (.ob (.ob (.rc)))))))
 (.brB
 (.obT (.obT (.call (.ob (.ob (jsd u22 u13 u23 u20 u12 u16 u15 u17 i u11 u18 u14 r))))))
 (.brB
 (.obT (.obT (.call (.ob (.ob (.ob (.ob (.rc))))))))
 (.brB
 (.obT (.obT (.obT (.call (.call (.obT (.ob (.ob (.call (.ob (.ob (.ob (.ob (.ob (.ob (.rc))))))))))))))))
 (.obT (.call (.call (.ob (.ob (.rc))))))))))))))))))))))))
def jse (u22:zY) (u13:List (List NC)) (u23:List Int) (u20:Int) (u12:List (List Nat)) (u16:List (List (List Int))) (u15:List (List Nat)) (u17:List Int) (i:Int) (u11:List (List Nat)) (u18:List (List (List Int))) (u14:List Int) (r:List (List Nat) × List (List (List Int)) × List Int) (h:ze (y78 u13 u12 u16 u15 u17 i u11 u18 u14) some=some r):runM [(7,110),(8,158),(9,3)] Tryz.f103 ((sp_144 (sp_145 (sp_147 (sp_143 (sp_148 (sp_146 sp0))))))) (fun gs id st=>match id with
 |2=>some ⟨(Int × List Int) × Nat,fun z=>⟨[(0,.w (.c (.p 10 0 1 0))),(1,.w (.c (.d (.i .i64 i)))),(6,.w (.c (.p 11 0 1 0))),(89,.w (.b 32 (.f .f32 (za u15 (zf (val (y22 u13 i))) [])))),(90,.w (.c (.d (.i .i64 z.1.1))))],[(7,.row 110 (.frs .f32 32 u11)),(8,.xrow 158 (XC.rr (4:Nat) (qv u18 i.toNat (NC.toRecs (qg [NC.r (Cont.recs (4:Nat) (val (jbb (za u16 i.toNat []))))] (NC.d (D.v zX))))))),(9,.row 3 (.ints .i64 u14)),(10,.ebox [.p 2 0 1 0,.d (.i .i64 u20),.o 3,.o 4,.o 5,.o 6,.o 7,.o 8,.o 9]),(11,.arr 206 32 (.i z.1.2)),(2,.ebox [.d (.s u22),.o 0,.o 1]),(3,.xext (XC.ff .f32 u12)),(4,.xext (XC.rr (4:Nat) u16)),(5,.ext (.frs .f32 32 u15)),(6,.ext (.ints .i64 u17)),(0,.xext (XC.st zS u13)),(1,.ext (.ints .i64 u23))],12⟩,fun z=>(jid u22 u13 u23 u20 u12 u16 u15 u17 i u11 u18 u14 r).inv z,fun z=>z.2⟩
 |_=>none) (jaK je8 [.d (.s u22),.x (.st zS u13),.r (.ints .i64 u23),.d (.i .i64 u20),.x (.ff .f32 u12),.x (.rr 4 u16),.r (.frs .f32 32 u15),.r (.ints .i64 u17),.d (.i .i64 i)]) [.r (.frs .f32 32 u11),.x (.rr 4 u18),.r (.ints .i64 u14)] [.r (.frs .f32 32 r.1),.x (.rr 4 r.2.1),.r (.ints .i64 r.2.2)] [] :=
 Sk.vc (jtO u22 u13 u23 u20 u12 u16 u15 u17 i u11 u18 u14 r) (by kernel_rfl) h
def jsf:jaf Tryz.prog 103 false (jew je8 [(7,110),(8,158),(9,3)] je9):=by
 refine jkW (sp:=(sp_144 (sp_145 (sp_147 (sp_143 (sp_148 (sp_146 sp0))))))) (fn:=Tryz.f103) (body:=bodyOf Tryz.f103) mixed (sp_144_ok (sp_145_ok (sp_147_ok (sp_143_ok (sp_148_ok (sp_146_ok jaj)))))) Tryz.func103 (by kernel_rfl) (by kernel_rfl) fun ls ms t h ho b hb=>?_;unfold je9 at h;split at h
 ·rename_i u22 u13 u23 u20 u12 u16 u15 u17 i u11 u18 u14;cases h;obtain rfl:=jav hb;exact⟨zh (by kernel_rfl),_,_,jse u22 u13 u23 u20 u12 u16 u15 u17 i u11 u18 u14 _ (jai ho)⟩
 ·cases h
def sp_103_ok {sp:jaa} (h:jab Tryz.prog sp):jab Tryz.prog (sp_103 sp):=jag jsf h
attribute [irreducible] y78
end Go.Sh
end

section
namespace Go.Sh
open Go Go.Proofs Go.RowKit Go.Sx
open Go.IntKind (wrap)
def jFs {body:Int->Option (Int ⊕ (Unit ⊕ Unit))} (n:Nat) (hlen:n<9223372036854775807)
  (h:∀i,i<n->body (i:Int)=some (.inl ((i:Int)+1))∨body (i:Int)=some (.inr (.inl ()))) (h3:body (n:Int)=some (.inr (.inr ()))) :
  ∃b:Bool,jae body big 0=some (if b=true then .inl ()else .inr ()):=by
 classical
 refine⟨(zo n).any fun i=>decide (body (i:Int)=some (.inr (.inl ()))),?_⟩;exact jdF n (fun i=>decide (body (i:Int)=some (.inr (.inl ())))) (.inl ()) (.inr ()) hlen (fun i hi hp=>of_decide_eq_true hp) (fun i hi hp=>(h i hi).resolve_right (of_decide_eq_false hp)) h3
def inB (n lo hi:Int):Bool:=decide (lo<=n)&&decide (n<=hi)
def jbl (n lo hi:Int):y23 n lo hi=some (inB n lo hi):=by
 unfold y23 inB;split
 ·rename_i h;simp[h]
 ·rename_i h;simp[h]
def jcg (n lo hi:Int):y54 n lo hi=some (inB n lo hi):=by
 unfold y54 inB;split
 ·rename_i h;simp[h]
 ·rename_i h;simp[h]
def jpA (n lo hi:Int):jdv n lo hi=some (inB n lo hi):=by
 unfold jdv inB;split
 ·rename_i h;simp[h]
 ·rename_i h;simp[h]
def jsg (n:Int):jef n 4000=some (inB n (-4000) 4000):=by
 unfold jef;rw[show wrap xd ((0:Int)-4000)=-4000 from by rw[jam (by omega)];rfl,jcg];rfl
def jpB (b:Bool) (e:Int):jg4 b e=some (if b=true then 0 else e):=by
 unfold jg4;cases b<;>rfl
def jfa (l:List Int) (n:Int) (hl:l.length<9223372036854775807):jft l n=some (l.any (·== n)):=by
 unfold jft;rw[jcA l 0 (·== n) (.inl ()) (.inr ()) hl (fun i hi hp=>?_) (fun i hi hp=>?_) ?_]
 ·cases l.any (·== n)<;>rfl
 ·unfold jg2;simp only[zg];rw[if_neg (by omega)]
 ·unfold jg2;simp only[zg];rw[if_pos (by omega),if_pos (by omega),if_pos hi,if_pos hp]
 ·unfold jg2;simp only[zg];rw[if_pos (by omega),if_pos (by omega),if_pos hi,if_neg (by rw[hp];exact qB),jam (by omega)]
def jga (l:List Int) (hl:l.length<=100):jky l=some l:=by
 unfold jky;rw[if_pos (by omega)];rfl
def jGX:jiC=jqk:=rfl
set_option maxHeartbeats 4000000 in
def jFt (s:ByteArray) (hs:s.size<1000):∃b:Bool,jae (jqk s) big 0=some (if b=true then .inl ()else .inr ()):=by
 refine jFs s.size (by omega) (fun i hi=>?_) ?_
 ·unfold jqk;rw[if_pos (by omega),if_pos (by omega),jam (by omega)]
  repeat' (first|exact .inl rfl|exact .inr rfl|split)
 ·unfold jqk;rw[if_neg (by omega)]
def jAe (s:ByteArray) (hs:s.size<1000):∃b:Bool,jhc s=some b∧jiD s=some b:=by
 obtain⟨b,hb⟩:=jFt s hs;unfold jhc jiD;rw[jGX,hb]
 have hne:(s != qA #[])=true<->1<=s.size:=by
  constructor
  ·intro h;refine Nat.pos_of_ne_zero fun h0=>?_
   have:s=qA #[]:=by
    cases s with
    |mk d =>
     have:d.size=0:=h0;rw[Array.eq_empty_of_size_eq_zero this]
   rw[this]at h;exact absurd h (by decide)
  ·intro h;cases hb:(s != qA #[])
   ·exfalso;have:(s==qA #[])=true:=by simpa [bne]using hb
    cases s with
    |mk d =>
     have h2:(d == #[])=true:=this;have e:d=#[]:=eq_of_beq h2;subst e;exact absurd h (by decide)
   ·rfl
 cases b with
 |true =>
  refine⟨false,rfl,?_⟩;split
  ·rfl
  ·split<;>rfl
 |false =>
  show ∃b,(if(s != qA #[])=true then some (decide ((s.size:Int)<=12))else some false)=some b∧_
  by_cases h1:1<=s.size
  ·rw[if_pos (hne.2 h1),if_neg (by omega)]
   by_cases h2:(s.size:Int)>12
   ·rw[if_pos h2];exact⟨false,by simp;omega,rfl⟩
   ·rw[if_neg h2];exact⟨true,by simp;omega,rfl⟩
  ·rw[if_neg (fun h=>h1 (hne.1 h)),if_pos (by omega)];exact⟨false,rfl,rfl⟩
end Go.Sh
end

section
namespace Go.Sh
open Go Go.Proofs Go.RowKit Go.Sx
def jdS (n:Nat) (l:List Int):Bool:=l.any fun x=>!inB x 0 ((n:Int)-1)
def jhr (l:List Int):Bool:=(zo l.length).any fun i=>(l.take i).any (·== l.getD i 0)
def jdf (r:List Int):Bool:=[r.getD 0 0,r.getD 1 0,r.getD 2 0,r.getD 3 0,r.getD 4 0].all Sx09.partB
def jbc (c:List (List Int)):Int:=if(c.length:Int)>6 then 8 else if c.any (fun r=>!jdf r)=true then 2 else 0
def exB (g:List (List NC)) (i:Nat):Bool:=(zo i).any fun k=>nS g k 0==nS g i 0
def jFu (l:List Int) (nm:ByteArray) (g:List (List NC)) (hl:l.length<1000) (hg:g.length<1000):y15 l nm g=some (jdS g.length l):=by
 have hb:∀x:Int,jql x nm g=some (!inB x 0 ((g.length:Int)-1)):=fun x=>by
  unfold jql jkI;rw[jam (by omega),jcg];rfl
 unfold y15 y35;rw[ja0 l 0 (fun x=>!inB x 0 ((g.length:Int)-1)) (fun i=>.inl (i:Int)) (.inr ()) (by omega) (fun i hi hp=>?_) (fun i hi hp=>?_) ?_]
 ·unfold jdS;cases hf:l.findIdx? (fun x=>!inB x 0 ((g.length:Int)-1))with
  |none =>
   have:l.any (fun x=>!inB x 0 ((g.length:Int)-1))=false:=by
    rw[qk]at hf;rw[xu];intro x hx;simp[hf x hx]
   rw[this];rfl
  |some i =>
   have:l.any (fun x=>!inB x 0 ((g.length:Int)-1))=true:=by
    rw[qj]at hf;obtain⟨h,hp,_⟩:=hf;exact qQ.2 ⟨_,qi h,hp⟩
   rw[this]
   show some (decide ((i:Int)>=0))=some true
   simp
 ·unfold y37;simp only[zg];rw[if_neg (by omega)]
 ·unfold y37;simp only[zg];rw[if_pos (by omega),if_pos (by omega),if_pos hi,hb,jac,if_pos hp]
 ·unfold y37;simp only[zg];rw[if_pos (by omega),if_pos (by omega),if_pos hi,hb,jac,if_neg (by rw[hp];exact qB),jam (by omega)]
def jAf (g:List (List NC)) {i k:Nat} (h:k<i) (j:Nat):nS (g.take i) k j=nS g k j:=by
 unfold nS;simp[za,List.getElem?_take,h]
def jBE (g:List (List NC)) (i:Nat) (hi0:i<g.length) (hg:g.length<1000) (a:Int) (b c d:List Int) (e:Int) (f:List (List Int)) (s:Int) :
  y8 (g.take i) (nS g i 0) a b c d e f s=some (exB g i):=by
 have hlen:(g.take i).length=i:=by simp;omega
 unfold y8 y19
 have key:=ja0 (body:=y13 (g.take i) (nS g i 0) a b c d e f s) (zo i) 0 (fun k=>nS g k 0==nS g i 0) (fun i=>.inl (i:Int)) (.inr ()) (by simp;omega) (fun k hk hp=>by
   have hk:k<i:=by simpa using hk
   have hr:(zo i).getD k 0=k:=by simp[za,hk]
   rw[hr]at hp;unfold y13;simp only[zg];rw[hlen,if_pos (by omega),if_pos (by omega),if_pos hk];unfold jqm;rw[jac,jAf g hk,if_pos hp]) (fun k hk hp=>by
   have hk:k<i:=by simpa using hk
   have hr:(zo i).getD k 0=k:=by simp[za,hk]
   rw[hr]at hp;unfold y13;simp only[zg];rw[hlen,if_pos (by omega),if_pos (by omega),if_pos hk];unfold jqm;rw[jac,jAf g hk,if_neg (by rw[hp];exact qB),jam (by omega)]) (by
   unfold y13;simp only[zg];rw[hlen,if_neg (by simp)])
 rw[key];unfold exB;cases hf:(zo i).findIdx? (fun k=>nS g k 0==nS g i 0)with
 |none =>
  have:(zo i).any (fun k=>nS g k 0==nS g i 0)=false:=by
   rw[qk]at hf;rw[xu];intro x hx;simp[hf x hx]
  rw[this];rfl
 |some m =>
  have:(zo i).any (fun k=>nS g k 0==nS g i 0)=true:=by
   rw[qj]at hf;obtain⟨h,hp,_⟩:=hf;exact qQ.2 ⟨_,qi h,hp⟩
  rw[this]
  show some (decide ((m:Int)>=0))=some true
  simp
def jnC (l:List Int) (v:Int) (hl:l.length<1000):y46 l v=some (l.any (·== v)):=by
 unfold y46 y39;rw[ja0 l 0 (fun x=>v==x) (fun i=>.inl (i:Int)) (.inr ()) (by omega) (fun i hi hp=>?_) (fun i hi hp=>?_) ?_]
 ·have hsym:l.any (·== v)=l.any (fun x=>v==x):=by
   congr 1
   funext x;exact Bool.beq_comm
  rw[hsym];cases hf:l.findIdx? (fun x=>v==x)with
  |none =>
   have:l.any (fun x=>v==x)=false:=by
    rw[qk]at hf;rw[xu];intro x hx;simp[hf x hx]
   rw[this];rfl
  |some i =>
   have:l.any (fun x=>v==x)=true:=by
    rw[qj]at hf;obtain⟨h,hp,_⟩:=hf;exact qQ.2 ⟨_,qi h,hp⟩
   rw[this]
   show some (decide ((i:Int)>=0))=some true
   simp
 ·unfold y24;simp only[zg];rw[if_neg (by omega)]
 ·unfold y24;simp only[zg];rw[if_pos (by omega),if_pos (by omega),if_pos hi,if_pos hp]
 ·unfold y24;simp only[zg];rw[if_pos (by omega),if_pos (by omega),if_pos hi,if_neg (by rw[hp];exact qB),jam (by omega)]
def jzr (l:List Int) (hl:l.length<1000):jm0 l=some (jhr l):=by
 unfold jm0
 have key:=jdF (body:=jtn l) l.length (fun i=>(l.take i).any (·== l.getD i 0)) (.inl ()) (.inr ()) (by omega) (fun i hi hp=>by
   unfold jtn;simp only[zg];rw[if_pos (by omega),if_pos (by omega),if_pos hi,if_pos (by simp only[z5];omega)];simp only[z6,zg,jo,yA];rw[jnC _ _ (by simp;omega),jac,if_pos hp]) (fun i hi hp=>by
   unfold jtn;simp only[zg];rw[if_pos (by omega),if_pos (by omega),if_pos hi,if_pos (by simp only[z5];omega)];simp only[z6,zg,jo,yA];rw[jnC _ _ (by simp;omega),jac,if_neg (by rw[hp];exact qB),jam (by omega)]) (by
   unfold jtn;simp only[zg];rw[if_neg (by omega)])
 rw[key];unfold jhr;cases (zo l.length).any (fun i=>(l.take i).any (·== l.getD i 0))<;>rfl
def jbQ (kd:Int) (al ga:List Int) (de:Int):Bool:=!(al.any fun x=>!inB x 0 64) && !(ga.any fun x=>!inB x (-4000) 4000)&&inB de 0 64&&(kd==2||de==0)
def jBF (nm:ByteArray) (kd:Int) (fr al ga:List Int) (de:Int) (ca:List (List Int)) (sd:Int) (ha:al.length<1000) (hg:ga.length<1000):jdu nm kd fr al ga de ca sd=some (jbQ kd al ga de):=by
 have hr1:∀x:Int,jkJ x=some (inB x 0 64):=fun x=>by unfold jkJ;rw[jcg];rfl
 have kg:=jcA (body:=jm3 ga) ga 0 (fun x=>!inB x (-4000) 4000) (.inl ()) (.inr ()) (by omega) (fun i hi hp=>by
   unfold jm3;simp only[zg];rw[if_pos (by omega),if_pos (by omega),if_pos hi,jsg,jac,if_pos hp]) (fun i hi hp=>by
   unfold jm3;simp only[zg];rw[if_pos (by omega),if_pos (by omega),if_pos hi,jsg,jac,if_neg (by rw[hp];exact qB),jam (by omega)]) (by
   unfold jm3;simp only[zg];rw[if_neg (by omega)])
 have ka:=jcA (body:=jqn al) al 0 (fun x=>!inB x 0 64) (.inl ()) (.inr ()) (by omega) (fun i hi hp=>by
   unfold jqn;simp only[zg];rw[if_pos (by omega),if_pos (by omega),if_pos hi,hr1,jac,if_pos hp]) (fun i hi hp=>by
   unfold jqn;simp only[zg];rw[if_pos (by omega),if_pos (by omega),if_pos hi,hr1,jac,if_neg (by rw[hp];exact qB),jam (by omega)]) (by
   unfold jqn;simp only[zg];rw[if_neg (by omega)])
 unfold jdu jbQ;rw[ka];cases al.any (fun x=>!inB x 0 64)with
 |true=>rfl
 |false =>
  show(jae (jm3 ga) big 0).bind (jfu kd de)=_
  rw[kg];cases ga.any (fun x=>!inB x (-4000) 4000)with
  |true=>rfl
  |false =>
   show(jkJ de).bind _=_
   rw[hr1,jac];cases inB de 0 64 with
   |false=>rfl
   |true=>cases hk:(kd==2)<;>simp
def ji1 {α:Type} (l:List α) (P:α->Bool):(l.findIdx? P).isSome=l.any P:=by
 induction l with
 |nil=>rfl
 |cons x r ih =>
  rw[xO,yO];cases P x with
  |true=>rfl
  |false=>simp[ih]
def jAg (r:List Int):y81 (r.getD 0 0) (r.getD 1 0) (r.getD 2 0) (r.getD 3 0) (r.getD 4 0)=some (if jdf r=true then 0 else 2):=by
 unfold y81
 have key:=jcA (body:=y71 (r.getD 0 0) (r.getD 1 0) (r.getD 2 0) (r.getD 3 0) (r.getD 4 0)) [r.getD 0 0,r.getD 1 0,r.getD 2 0,r.getD 3 0,r.getD 4 0] 0 (fun x=>!inB x (-32768) 32768) (.inl ()) (.inr ()) (by simp) (fun i hi hp=>by
   unfold y71;simp only[zg];rw[if_pos (by omega),if_pos (by omega),if_pos hi,jbl,jac,if_pos hp]) (fun i hi hp=>by
   unfold y71;simp only[zg];have hi5:i<5:=hi;rw[if_pos (by omega),if_pos (by omega),if_pos hi,jbl,jac,if_neg (by rw[hp];exact qB),jam (by omega)]) (by
   unfold y71;simp only[zg];rw[if_neg (by omega)])
 rw[key]
 have e:([r.getD 0 0,r.getD 1 0,r.getD 2 0,r.getD 3 0,r.getD 4 0].any fun x=>!inB x (-32768) 32768)=!jdf r:=by
  unfold jdf;rw[List.all_eq_not_any_not];simp only[Bool.not_not];rfl
 rw[e];cases jdf r<;>rfl
def jFv (c:List (List Int)) (hc:c.length<1000):(y38 c).bind (fun r=>some r.2)=some (jbc c):=by
 unfold y38 jbc;split
 ·rfl
 ·have key:=ja0 (body:=y72 c) c [] (fun r=>!jdf r) (fun i=>.inl ((i:Int),2)) (.inr ()) (by omega) (fun i hi hp=>by
    unfold y72;simp only[zg];have hp:jdf (c.getD i [])=false:=by simpa using hp
    rw[if_pos (by omega),if_pos (by omega),if_pos hi,jAg,hp,jac];rfl) (fun i hi hp=>by
    unfold y72;simp only[zg];have hp:jdf (c.getD i [])=true:=by simpa using hp
    rw[if_pos (by omega),if_pos (by omega),if_pos hi,jAg,hp,jac,jam (by omega)];rfl) (by
    unfold y72;simp only[zg];rw[if_neg (by omega)])
  rw[key,<-ji1];cases c.findIdx? (fun r=>!jdf r)<;>rfl
def jfx (c:List (List Int)) (hc:c.length<1000):y43 c=some (jbc c):=by
 unfold y43 jqo jbc;split
 ·rfl
 ·have key:=ja0 (body:=y98 c) c [] (fun r=>!jdf r) (fun i=>.inl ((i:Int),2)) (.inr ()) (by omega) (fun i hi hp=>by
    unfold y98;simp only[zg];have hp:jdf (c.getD i [])=false:=by simpa using hp
    have hs:Sx09.chkS ((c.getD i []).getD 0 0) ((c.getD i []).getD 1 0) ((c.getD i []).getD 2 0) ((c.getD i []).getD 3 0) ((c.getD i []).getD 4 0)=2:=by
     unfold Sx09.chkS;unfold jdf at hp;rw[if_neg (by rw[hp];exact qB)]
    rw[if_pos (by omega),if_pos (by omega),if_pos hi,hs];rfl) (fun i hi hp=>by
    unfold y98;simp only[zg];have hp:jdf (c.getD i [])=true:=by simpa using hp
    have hs:Sx09.chkS ((c.getD i []).getD 0 0) ((c.getD i []).getD 1 0) ((c.getD i []).getD 2 0) ((c.getD i []).getD 3 0) ((c.getD i []).getD 4 0)=0:=by
     unfold Sx09.chkS;unfold jdf at hp;rw[if_pos hp]
    rw[if_pos (by omega),if_pos (by omega),if_pos hi,hs,jam (by omega)];rfl) (by
    unfold y98;simp only[zg];rw[if_neg (by omega)])
  rw[key,<-ji1];cases c.findIdx? (fun r=>!jdf r)<;>rfl
def jFw (c:List (List Int)) (hc:c.length<1000):(y28 c).bind (fun r=>some r.2)=some (jbc c):=by
 have h1:=jfx c hc;unfold y28;rw[h1,jac];cases hz:(jbc c != 0)with
 |true=>rfl
 |false =>
  have h0:jbc c=0:=by simpa using hz
  rw[if_neg (by simp),if_pos (by omega),h0];rfl
def jex (s:ByteArray):Bool:=(jiD s).getD false
def jxL {s:ByteArray} (hs:s.size<1000):jiD s=some (jex s):=by
 obtain⟨b,_,h2⟩:=jAe s hs;unfold jex;rw[h2];rfl
def jxM {s:ByteArray} (hs:s.size<1000):jhc s=some (jex s):=by
 obtain⟨b,h1,h2⟩:=jAe s hs;unfold jex;rw[h1,h2];rfl
def jd2 (kd:Int) (f a g:Nat):Bool :=if(kd==0)=true then inB (f:Int) 0 0&&((a:Int)==(f:Int))&&((g:Int)==0)
 else if(kd==1)=true then inB (f:Int) 1 6&&((a:Int)==(f:Int))&&((g:Int)==(f:Int))
 else inB (f:Int) 1 1&&((a:Int)==(f:Int))&&((g:Int)==0)
def jBG (nm:ByteArray) (kd:Int) (fr al ga:List Int) (de:Int) (ca:List (List Int)) (sd:Int):jc0 nm kd fr al ga de ca sd=some (jd2 kd fr.length al.length ga.length):=by
 unfold jc0 jd2;simp only[jcg,jac]
 generalize (kd==0)=k0
 generalize (kd==1)=k1
 generalize inB (fr.length:Int) 0 0=c1
 generalize inB (fr.length:Int) 1 6=c2
 generalize inB (fr.length:Int) 1 1=c3
 generalize ((al.length:Int)==(fr.length:Int))=c4
 cases k0<;>cases k1<;>cases c1<;>cases c2<;>cases c3<;>cases c4<;>rfl
def jnD:ByteArray:=qA #[115,116,97,110,100]
def sdB (n:Nat) (s:Int):Bool:=s == -1||inB s 0 ((n:Int)-1)
def jbe (g:List (List NC)) (i:Nat):Int :=if(!jex (nS g i 0))=true then 4
 else if(nS g i 0==jnD)=true then 4
 else if exB g i=true then 5
 else if(!inB (nI g i 1) 0 4)=true then 15
 else if(!jd2 (nI g i 1) (nL g i 2).length (nL g i 3).length (nL g i 4).length)=true then 10
 else if jdS g.length (nL g i 2)=true then 6
 else if(!sdB g.length (nI g i 7))=true then 6
 else if jhr (nL g i 2)=true then 26
 else if(!jbQ (nI g i 1) (nL g i 3) (nL g i 4) (nI g i 5))=true then 2
 else if(nI g i 1==3)=true then jbc (nR g i 6)
 else if(((nR g i 6).length:Int)==0)=true then 0 else 10
structure Fw (g:List (List NC)):Prop where
 n:g.length<1000
 nm:∀i,i<g.length->(nS g i 0).size<1000
 fr:∀i,i<g.length->(nL g i 2).length<100
 al:∀i,i<g.length->(nL g i 3).length<100
 ga:∀i,i<g.length->(nL g i 4).length<100
 ca:∀i,i<g.length->(nR g i 6).length<100
set_option maxHeartbeats 2000000 in
def jxN {g:List (List NC)} (hw:Fw g) (nm:ByteArray) {i:Nat} (hi:i<g.length):jdw nm g (i:Int)=some (jbe g i):=by
 have hn:=hw.n;have h1:=hw.nm i hi;have h2:=hw.fr i hi;have h3:=hw.al i hi;have h4:=hw.ga i hi;have h5:=hw.ca i hi
 have hst:jkI (nI g i 7) nm g=some (inB (nI g i 7) 0 ((g.length:Int)-1)):=by
  unfold jkI;rw[jam (by omega),jcg];rfl
 unfold jdw;rw[if_pos (by omega),if_pos (by simpa using hi)];simp only[zg,z6,jm,jo,yA];rw[hst,jFu _ nm g (by omega) hn,jxM h1];simp only[jac,jcg,jBG,jpB];rw[jBE g i hi hn,jzr _ (by omega),jBF _ _ _ _ _ _ _ _ (by omega) (by omega),jFw _ (by omega)];simp only[jac];have hb:(0:Int)<=0∧(0:Int)<=(i:Int)∧(i:Int)<=(g.length:Int):=by omega
 simp only[if_pos hb];unfold jbe sdB;rw[show(qA #[115,116,97,110,100])=jnD from rfl];rw[show(nI g i 1 != 3)=!(nI g i 1==3)from rfl,show(nI g i 7 != -1)=!(nI g i 7 == -1)from rfl]
 generalize jex (nS g i 0)=b1
 generalize (nS g i 0==jnD)=b2
 generalize exB g i=b3
 generalize inB (nI g i 1) 0 4=b4
 generalize jd2 (nI g i 1) (nL g i 2).length (nL g i 3).length (nL g i 4).length=b5
 generalize jdS g.length (nL g i 2)=b6
 generalize inB (nI g i 7) 0 ((g.length:Int)-1)=b7
 generalize (nI g i 7 == -1)=b8
 generalize jhr (nL g i 2)=b9
 generalize jbQ (nI g i 1) (nL g i 3) (nL g i 4) (nI g i 5)=b10
 generalize (nI g i 1==3)=b11
 generalize (((nR g i 6).length:Int)==0)=b12
 generalize jbc (nR g i 6)=ce
 cases b7<;>cases b8<;>(cases b1;rfl;cases b2<;>try rfl)<;>(cases b3<;>try rfl)<;>(cases b4;rfl;cases b5;rfl;cases b6<;>try rfl)<;>(cases b9<;>try rfl)<;>(cases b10;rfl;cases b11<;>cases b12<;>rfl)
def jBH (x y z:Bool) (r:Int):(if(!x)=true then some (10:Int)else if(!y)=true then some 10 else if(!z)=true then some 10 else some r)=some (if(!(x&&y&&z))=true then 10 else r):=by
 cases x<;>cases y<;>cases z<;>rfl
set_option maxHeartbeats 4000000 in
def jxO {g:List (List NC)} (hw:Fw g) (nm:ByteArray) {i:Nat} (hi:i<g.length):jqh nm g (i:Int)=some (jbe g i):=by
 have hn:=hw.n;have h1:=hw.nm i hi;have h2:=hw.fr i hi;have h3:=hw.al i hi;have h4:=hw.ga i hi;have h5:=hw.ca i hi
 have k0:=jdF (body:=js2 g (i:Int)) i (fun k=>nS g k 0==nS g i 0) (.inl ()) (.inr ()) (by omega) (fun k hk hp=>by
   unfold js2;simp only[zg];rw[if_pos (by omega),if_pos (by omega),if_pos (by omega),if_pos hp]) (fun k hk hp=>by
   unfold js2;simp only[zg];rw[if_pos (by omega),if_pos (by omega),if_pos (by omega),if_neg (by rw[hp];exact qB),jam (by omega)]) (by
   unfold js2;simp only[zg];rw[if_neg (by omega)])
 have k1:=jcA (body:=y16 g (i:Int)) (nL g i 2) 0 (fun x=>!inB x 0 ((g.length:Int)-1)) (.inl ()) (.inr ()) (by omega) (fun k hk hp=>by
   unfold y16;simp only[zg];rw[if_pos (by omega),if_pos (by omega),if_pos hk,jam (by omega),jbl,jac,if_pos hp]) (fun k hk hp=>by
   unfold y16;simp only[zg];rw[if_pos (by omega),if_pos (by omega),if_pos hk,jam (x:=(g.length:Int)-1) (by omega),jbl,jac,if_neg (by rw[hp];exact qB),jam (by omega)]) (by
   unfold y16;simp only[zg];rw[if_neg (by omega)])
 have k2:=jdF (body:=jqc g (i:Int)) (nL g i 2).length (fun k=>((nL g i 2).take k).any (·== (nL g i 2).getD k 0)) (.inl ()) (.inr ()) (by omega) (fun k hk hp=>by
   unfold jqc;simp only[zg];rw[if_pos (by omega),if_pos (by simp only[z5];omega),if_pos (by omega),if_pos hk];simp only[z6,zg,jo,yA];rw[jfa _ _ (by simp;omega),jac,if_pos hp]) (fun k hk hp=>by
   unfold jqc;simp only[zg];rw[if_pos (by omega),if_pos (by simp only[z5];omega),if_pos (by omega),if_pos hk];simp only[z6,zg,jo,yA];rw[jfa _ _ (by simp;omega),jac,if_neg (by rw[hp];exact qB),jam (by omega)]) (by
   unfold jqc;simp only[zg];rw[if_neg (by omega)])
 have k3:=jcA (body:=js3 g (i:Int)) (nL g i 3) 0 (fun x=>!inB x 0 64) (.inl ()) (.inr ()) (by omega) (fun k hk hp=>by
   unfold js3;simp only[zg];rw[if_pos (by omega),if_pos (by omega),if_pos hk,jbl,jac,if_pos hp]) (fun k hk hp=>by
   unfold js3;simp only[zg];rw[if_pos (by omega),if_pos (by omega),if_pos hk,jbl,jac,if_neg (by rw[hp];exact qB),jam (by omega)]) (by
   unfold js3;simp only[zg];rw[if_neg (by omega)])
 have k4:=jcA (body:=jqf g (i:Int)) (nL g i 4) 0 (fun x=>!inB x (-4000) 4000) (.inl ()) (.inr ()) (by omega) (fun k hk hp=>by
   unfold jqf;simp only[zg];rw[if_pos (by omega),if_pos (by omega),if_pos hk,jbl,jac,if_pos hp]) (fun k hk hp=>by
   unfold jqf;simp only[zg];rw[if_pos (by omega),if_pos (by omega),if_pos hk,jbl,jac,if_neg (by rw[hp];exact qB),jam (by omega)]) (by
   unfold jqf;simp only[zg];rw[if_neg (by omega)])
 have t4:y237 g (i:Int) ()=some (if(!inB (nI g i 5) 0 64)=true then 2 else if(!(nI g i 1==2||nI g i 5==0))=true then 2 else if(nI g i 1==3)=true then jbc (nR g i 6)else if(((nR g i 6).length:Int)==0)=true then 0 else 10):=by
  unfold y237;simp only[zg];rw[jFv _ (by omega),jbl,jac,show(nI g i 1 != 3)=!(nI g i 1==3)from rfl,show(nI g i 1 != 2)=!(nI g i 1==2)from rfl,show(nI g i 5 != 0)=!(nI g i 5==0)from rfl]
  have hz:(if((nR g i 6).length:Int)>0 then some (10:Int)else some 0)=some (if(((nR g i 6).length:Int)==0)=true then 0 else 10):=by
   by_cases h:(nR g i 6).length=0
   ·rw[if_neg (by omega),if_pos (by simp[h])]
   ·rw[if_pos (by omega),if_neg (by simpa using h)]
  rw[hz]
  generalize inB (nI g i 5) 0 64=c1
  generalize (nI g i 1==2)=c2
  generalize (nI g i 5==0)=c3
  generalize (nI g i 1==3)=c4
  cases c1<;>cases c2<;>cases c3<;>cases c4<;>rfl
 have t3:y238 g (i:Int) ()=some (if((nL g i 4).any fun x=>!inB x (-4000) 4000)=true then 2 else if(!inB (nI g i 5) 0 64)=true then 2 else if(!(nI g i 1==2||nI g i 5==0))=true then 2 else if(nI g i 1==3)=true then jbc (nR g i 6)else if(((nR g i 6).length:Int)==0)=true then 0 else 10):=by
  unfold y238;rw[k4,jac];cases (nL g i 4).any (fun x=>!inB x (-4000) 4000)with
  |true=>rfl
  |false=>exact t4
 have t2:y239 g (i:Int) ()=some (if(!jbQ (nI g i 1) (nL g i 3) (nL g i 4) (nI g i 5))=true then 2 else if(nI g i 1==3)=true then jbc (nR g i 6)else if(((nR g i 6).length:Int)==0)=true then 0 else 10):=by
  unfold y239 jbQ;rw[k3,jac]
  generalize hA:(nL g i 3).any (fun x=>!inB x 0 64)=bA
  cases bA with
  |true=>rfl
  |false =>
   refine t3.trans ?_
   generalize (nL g i 4).any (fun x=>!inB x (-4000) 4000)=bG
   generalize inB (nI g i 5) 0 64=c1
   generalize (nI g i 1==2||nI g i 5==0)=c2
   cases bG<;>cases c1<;>cases c2<;>rfl
 have t1:y240 g (i:Int) ()=some (if(!inB (nI g i 7) (-1) ((g.length:Int)-1))=true then 6 else if jhr (nL g i 2)=true then 26 else if(!jbQ (nI g i 1) (nL g i 3) (nL g i 4) (nI g i 5))=true then 2 else if(nI g i 1==3)=true then jbc (nR g i 6)else if(((nR g i 6).length:Int)==0)=true then 0 else 10):=by
  unfold y240;simp only[zg];rw[jam (by omega),jbl,jac,k2,jac];cases inB (nI g i 7) (-1) ((g.length:Int)-1)with
  |false=>rfl
  |true =>
   show y214 g (i:Int) (if jhr (nL g i 2)=true then .inl ()else .inr ())=_
   cases jhr (nL g i 2)with
   |true=>rfl
   |false=>exact t2
 have hsd:inB (nI g i 7) (-1) ((g.length:Int)-1)=sdB g.length (nI g i 7):=by
  unfold sdB inB;have:((nI g i 7)==(-1:Int))=decide (nI g i 7=-1):=rfl;rw[this]
  by_cases h:nI g i 7=-1
  ·simp[h];omega
  ·have e:decide ((-1:Int)<=nI g i 7)=decide ((0:Int)<=nI g i 7):=by
    congr 1
    exact propext ⟨fun _=>by omega,fun _=>by omega⟩
   rw[e];simp[h]
 rw[hsd]at t1
 have t1':((some (if jdS g.length (nL g i 2)=true then Sum.inl ()else Sum.inr ()):Option (Unit ⊕ Unit)).bind (y34 g (i:Int)))=some (if jdS g.length (nL g i 2)=true then 6 else if(!sdB g.length (nI g i 7))=true then 6 else if jhr (nL g i 2)=true then 26 else if(!jbQ (nI g i 1) (nL g i 3) (nL g i 4) (nI g i 5))=true then 2 else if(nI g i 1==3)=true then jbc (nR g i 6)else if(((nR g i 6).length:Int)==0)=true then 0 else 10):=by
  rw[jac];cases jdS g.length (nL g i 2)with
  |true=>rfl
  |false=>exact t1
 have k1:jae (y16 g (i:Int)) big 0=some (if jdS g.length (nL g i 2)=true then .inl ()else .inr ()):=k1
 have t0:y164 g (i:Int) ()=some (if(!inB (nI g i 1) 0 4)=true then 15 else if(!jd2 (nI g i 1) (nL g i 2).length (nL g i 3).length (nL g i 4).length)=true then 10 else if jdS g.length (nL g i 2)=true then 6 else if(!sdB g.length (nI g i 7))=true then 6 else if jhr (nL g i 2)=true then 26 else if(!jbQ (nI g i 1) (nL g i 3) (nL g i 4) (nI g i 5))=true then 2 else if(nI g i 1==3)=true then jbc (nR g i 6)else if(((nR g i 6).length:Int)==0)=true then 0 else 10):=by
  unfold y164;simp only[zg];rw[k1,t1'];simp only[jbl,jac]
  generalize (if jdS g.length (nL g i 2)=true then(6:Int)else if(!sdB g.length (nI g i 7))=true then 6 else if jhr (nL g i 2)=true then 26 else if(!jbQ (nI g i 1) (nL g i 3) (nL g i 4) (nI g i 5))=true then 2 else if(nI g i 1==3)=true then jbc (nR g i 6)else if(((nR g i 6).length:Int)==0)=true then 0 else 10)=rest
  by_cases h0:(!inB (nI g i 1) 0 4)=true
  ·rw[if_pos h0,if_pos h0]
  ·rw[if_neg h0,if_neg h0]
   by_cases hk:nI g i 1=0
   ·have e0:(nI g i 1==0)=true:=by simp[hk]
    have e1:¬(nI g i 1==1)=true:=by simp[hk]
    rw[if_pos e0,if_neg e1,if_neg e1]
    have hs:jd2 (nI g i 1) (nL g i 2).length (nL g i 3).length (nL g i 4).length=(inB ((nL g i 2).length:Int) 0 0&&(((nL g i 3).length:Int)==((nL g i 2).length:Int))&&(((nL g i 4).length:Int)==0)):=by
     unfold jd2;rw[if_pos e0]
    rw[hs];exact jBH _ _ _ _
   ·have e0:¬(nI g i 1==0)=true:=by simpa using hk
    rw[if_neg e0]
    by_cases hk1:(nI g i 1==1)=true
    ·rw[if_pos hk1,if_pos hk1]
     have hs:jd2 (nI g i 1) (nL g i 2).length (nL g i 3).length (nL g i 4).length=(inB ((nL g i 2).length:Int) 1 6&&(((nL g i 3).length:Int)==((nL g i 2).length:Int))&&(((nL g i 4).length:Int)==((nL g i 2).length:Int))):=by
      unfold jd2;rw[if_neg e0,if_pos hk1]
     rw[hs];exact jBH _ _ _ _
    ·rw[if_neg hk1,if_neg hk1]
     have hs:jd2 (nI g i 1) (nL g i 2).length (nL g i 3).length (nL g i 4).length=(inB ((nL g i 2).length:Int) 1 1&&(((nL g i 3).length:Int)==((nL g i 2).length:Int))&&(((nL g i 4).length:Int)==0)):=by
      unfold jd2;rw[if_neg e0,if_neg hk1]
     rw[hs];exact jBH _ _ _ _
 unfold jqh;rw[if_pos (by omega),if_pos (by simpa using hi)];simp only[zg];rw[jxL h1,jac,k0,jac];unfold jbe;rw[show(qA #[115,116,97,110,100])=jnD from rfl];cases jex (nS g i 0)with
 |false=>rfl
 |true =>
  have ht:¬((!true)=true):=by simp
  by_cases hs:(nS g i 0==jnD)=true
  ·rw[if_neg ht,if_pos hs,if_neg ht,if_pos hs]
  ·rw[if_neg ht,if_neg hs,if_neg ht,if_neg hs]
   show jeR g (i:Int) (if exB g i=true then .inl ()else .inr ())=_
   cases exB g i with
   |true=>rfl
   |false=>exact t0
def cg (nm:ByteArray) (g:List (List NC)):Int × Int :=if(!jex nm)=true then(0,4)
 else if(g.length:Int)>24 then(0,8)
 else match(zo g.length).findIdx? (fun i=>jbe g i != 0)with
  |some i=>((i:Int),jbe g i)
  |none=>(0,0)
def jDe (a b:Int):jeU [a,b]=some (if(a != 0)=true then a else b):=by
 unfold jeU
 have key:=ja0 (body:=jtg [a,b]) [a,b] 0 (fun x=>x != 0) (fun i=>.inl ([a,b].getD i 0)) (.inr ()) (by simp) (fun i hi hp=>by
   unfold jtg;simp only[zg];rw[if_pos (by omega),if_pos (by omega),if_pos hi,if_pos hp]) (fun i hi hp=>by
   unfold jtg;simp only[zg];have hi2:i<2:=hi;rw[if_pos (by omega),if_pos (by omega),if_pos hi,if_neg (by rw[hp];exact qB),jam (by omega)]) (by
   unfold jtg;simp only[zg];rw[if_neg (by omega)])
 rw[key];cases ha:(a != 0)with
 |true=>simp[xO,ha];rfl
 |false =>
  cases hb:(b != 0)with
  |true=>simp[xO,ha,hb];rfl
  |false =>
   have:b=0:=by simpa using hb
   simp[xO,ha,hb,this];rfl
def jsh {n:Nat} {P:Nat->Bool} {i:Nat} (h:(zo n).findIdx? P=some i):i<n:=by
 rw[qj]at h;obtain⟨h,_⟩:=h;simpa using h
def juP {g:List (List NC)} (hw:Fw g) {nm:ByteArray} (hs:nm.size<1000):y75 nm g=some (cg nm g):=by
 have hn:=hw.n;unfold y75 cg;rw[jxM hs];simp only[jac,jpB];rw[jDe,jac];cases jex nm with
 |false=>rfl
 |true =>
  by_cases h24:(g.length:Int)>24
  ·rw[if_neg (by simp:¬(!true)=true),if_pos h24];have e:decide ((g.length:Int)<=24)=false:=by simp;omega
   rw[e];rfl
  ·rw[if_neg (by simp:¬(!true)=true),if_neg h24];have e:decide ((g.length:Int)<=24)=true:=by simp;omega
   rw[e]
   show ze (jae (y91 nm g) big 0) y256=_
   have key:=ja0 (body:=y91 nm g) (zo g.length) 0 (fun i=>jbe g i != 0) (fun i=>.inl ((i:Int),jbe g i)) (.inr ()) (by simp;omega) (fun i hi hp=>by
     have hi:i<g.length:=by simpa using hi
     have hr:(zo g.length).getD i 0=i:=by simp[za,hi]
     rw[hr]at hp;unfold y91;rw[if_pos (by omega),jxN hw nm hi,jac,if_pos hp]) (fun i hi hp=>by
     have hi:i<g.length:=by simpa using hi
     have hr:(zo g.length).getD i 0=i:=by simp[za,hi]
     rw[hr]at hp;unfold y91;rw[if_pos (by omega),jxN hw nm hi,jac,if_neg (by rw[hp];exact qB),jam (by omega)]) (by
     unfold y91;rw[if_neg (by simp)])
   rw[key];cases (zo g.length).findIdx? (fun i=>jbe g i != 0)<;>rfl
def jDf {g:List (List NC)} (hw:Fw g) {nm:ByteArray} (hs:nm.size<1000):y87 nm g=some (cg nm g):=by
 have hn:=hw.n;unfold y87 cg;rw[jxL hs,jac];cases jex nm with
 |false=>rfl
 |true =>
  have ht:¬((!true)=true):=by simp
  rw[if_neg ht,if_neg ht]
  by_cases h24:(g.length:Int)>24
  ·rw[if_pos h24,if_pos h24]
  ·rw[if_neg h24,if_neg h24]
   have key:=ja0 (body:=y97 nm g) (zo g.length) 0 (fun i=>jbe g i != 0) (fun i=>.inl ((i:Int),jbe g i)) (.inr ()) (by simp;omega) (fun i hi hp=>by
     have hi:i<g.length:=by simpa using hi
     have hr:(zo g.length).getD i 0=i:=by simp[za,hi]
     rw[hr]at hp;unfold y97;rw[if_pos (by omega),jxO hw nm hi,jac,if_pos hp]) (fun i hi hp=>by
     have hi:i<g.length:=by simpa using hi
     have hr:(zo g.length).getD i 0=i:=by simp[za,hi]
     rw[hr]at hp;unfold y97;rw[if_pos (by omega),jxO hw nm hi,jac,if_neg (by rw[hp];exact qB),jam (by omega)]) (by
     unfold y97;rw[if_neg (by simp)])
   rw[key];cases (zo g.length).findIdx? (fun i=>jbe g i != 0)<;>rfl
def jxP (g:List (List NC)) (i:Nat):List NC:=[.d (.s (nS g i 0)),.d (.i .i64 (nI g i 1)),.r (.ints .i64 (nL g i 2)),.r (.ints .i64 (nL g i 3)),.r (.ints .i64 (nL g i 4)),.d (.i .i64 (nI g i 5)),.r (.recs 5 (nR g i 6)),.d (.i .i64 (nI g i 7))]
def cpU (g:List (List NC)):List (List NC):=(zo g.length).map (jxP g)
def joq {g:List (List NC)} (hw:Fw g) (nm:ByteArray):y4 nm g=some (nm,cpU g):=by
 have hn:=hw.n;unfold y4
 have key:=jaD (body:=js1 g) (fun k=>((k:Int),(zo k).map (jxP g))) (y:=cpU g) (k:=g.length) (fun i hi=>by
   have h2:=hw.fr i hi;have h3:=hw.al i hi;have h4:=hw.ga i hi;have h5:=hw.ca i hi;unfold js1;simp only[zg];rw[if_pos (by omega),if_pos (by omega),if_pos hi,jga _ (by omega),jga _ (by omega),jga _ (by omega)];simp only[jac];rw[if_pos (by omega),if_pos (by simp only[qr,yq,zC,qa];omega),jam (by omega),yf,qO];rfl) (by
   unfold js1;rw[if_neg (by simp)];rfl) (by omega)
 have key:jae (js1 g) big ((0:Int),[])=some (cpU g):=key;rw[key];rfl
def jey (g:List (List NC)):(cpU g).length=g.length:=by simp[cpU]
def jfI {g:List (List NC)} {i:Nat} (hi:i<g.length):(cpU g).getD i []=jxP g i:=by simp[cpU,za,hi]
def cp_S {g:List (List NC)} {i:Nat} (hi:i<g.length):nS (cpU g) i 0=nS g i 0:=by
 show NC.toS (((cpU g).getD i []).getD 0 _)=_
 rw[jfI hi];rfl
def cp_I {g:List (List NC)} {i:Nat} (hi:i<g.length):nI (cpU g) i 1=nI g i 1∧nI (cpU g) i 5=nI g i 5∧nI (cpU g) i 7=nI g i 7:=by
 refine⟨?_,?_,?_⟩
 ·show NC.toI (((cpU g).getD i []).getD 1 _)=_
  rw[jfI hi];rfl
 ·show NC.toI (((cpU g).getD i []).getD 5 _)=_
  rw[jfI hi];rfl
 ·show NC.toI (((cpU g).getD i []).getD 7 _)=_
  rw[jfI hi];rfl
def jqD {g:List (List NC)} {i:Nat} (hi:i<g.length):nL (cpU g) i 2=nL g i 2∧nL (cpU g) i 3=nL g i 3∧nL (cpU g) i 4=nL g i 4:=by
 refine⟨?_,?_,?_⟩
 ·show NC.toInts (((cpU g).getD i []).getD 2 _)=_
  rw[jfI hi];rfl
 ·show NC.toInts (((cpU g).getD i []).getD 3 _)=_
  rw[jfI hi];rfl
 ·show NC.toInts (((cpU g).getD i []).getD 4 _)=_
  rw[jfI hi];rfl
def cp_R {g:List (List NC)} {i:Nat} (hi:i<g.length):nR (cpU g) i 6=nR g i 6:=by
 show NC.toRecs (((cpU g).getD i []).getD 6 _)=_
 rw[jfI hi];rfl
def cp_fw {g:List (List NC)} (hw:Fw g):Fw (cpU g):=by
 constructor
 ·rw[jey];exact hw.n
 all_goals intro i hi;rw[jey]at hi
 ·rw[cp_S hi];exact hw.nm i hi
 ·rw[(jqD hi).1];exact hw.fr i hi
 ·rw[(jqD hi).2.1];exact hw.al i hi
 ·rw[(jqD hi).2.2];exact hw.ga i hi
 ·rw[cp_R hi];exact hw.ca i hi
def jDg {g:List (List NC)} {i:Nat} (hi:i<g.length):jbe (cpU g) i=jbe g i:=by
 have hex:exB (cpU g) i=exB g i:=by
  unfold exB;rw[cp_S hi]
  have:∀l:List Nat,(∀k∈l,k<i)->(l.any fun k=>nS (cpU g) k 0==nS g i 0)=l.any fun k=>nS g k 0==nS g i 0:=by
   intro l
   induction l with
   |nil=>intro _;rfl
   |cons x r ih =>
    intro h;have hx:=h x zy;rw[yO,yO,cp_S (by omega),ih fun k hk=>h k (zw _ hk)]
  exact this _ fun k hk=>qG.1 hk
 unfold jbe;rw[cp_S hi,hex,(cp_I hi).1,(cp_I hi).2.1,(cp_I hi).2.2,(jqD hi).1,(jqD hi).2.1,(jqD hi).2.2,cp_R hi,jey]
def cgM (e:Nat->Int) (o:Option Nat):Int × Int:=match o with|some i=>((i:Int),e i)|none=>(0,0)
def cgF (b:Bool) (n:Nat) (e:Nat->Int):Int × Int:=if(!b)=true then(0,4)else if(n:Int)>24 then(0,8)else cgM e ((zo n).findIdx? fun i=>e i != 0)
def jBK (e e':Nat->Int) (n:Nat) (hn:∀i,i<n->e i=e' i) (l:List Nat):(∀i∈l,i<n)->l.findIdx? (fun i=>e i != 0)=l.findIdx? (fun i=>e' i != 0):=by
 induction l with
 |nil=>intro _;rfl
 |cons x r ih =>
  intro h;rw[xO,xO,hn x (h x zy),ih fun i hi=>h i (zw _ hi)]
def juQ (b:Bool) (n:Nat) (e e':Nat->Int) (hn:∀i,i<n->e i=e' i):cgF b n e=cgF b n e':=by
 unfold cgF;rw[jBK e e' n hn _ fun i hi=>qG.1 hi]
 have hm:cgM e ((zo n).findIdx? fun i=>e' i != 0)=cgM e' ((zo n).findIdx? fun i=>e' i != 0):=by
  cases h:(zo n).findIdx? (fun i=>e' i != 0)with
  |none=>rfl
  |some i =>
   show((i:Int),e i)=((i:Int),e' i)
   rw[hn i (jsh h)]
 rw[hm]
def jnE (nm:ByteArray) (g:List (List NC)):cg nm g=cgF (jex nm) g.length (jbe g):=by
 unfold cg cgF cgM;rfl
def cp_cg (nm:ByteArray) (g:List (List NC)):cg nm (cpU g)=cg nm g:=by
 rw[jnE,jnE,jey];exact juQ _ _ _ _ fun i hi=>jDg hi
def jDh (nm:ByteArray) (g:List (List NC)):jeg nm g=some false∨(jeg nm g=some true∧Fw g∧nm.size<1000):=by
 unfold jeg
 by_cases h0:((nm.size:Nat):Int)>20
 ·rw[if_pos h0];exact .inl rfl
 rw[if_neg h0]
 have loop:g.length<=26->(ze (jae (jkE g) big 0) jeu=some false∨(ze (jae (jkE g) big 0) jeu=some true∧Fw g∧nm.size<1000)):=by
  intro h26
  let P:Nat->Bool:=fun i=>decide ((((nS g i 0).size:Nat):Int)>20)||decide (((nL g i 2).length:Int)>8)||decide (((nL g i 3).length:Int)>8)||decide (((nL g i 4).length:Int)>8)||decide (((nR g i 6).length:Int)>8)
  have key:=jdF (body:=jkE g) g.length P (.inl ()) (.inr ()) (by omega) (fun i hi hp=>by
    unfold jkE;simp only[zg];rw[if_pos (by omega),if_pos (by omega),if_pos hi];simp only[P,qY,decide_eq_true_eq]at hp
    repeat' split
    all_goals first|rfl|(exfalso;omega)) (fun i hi hp=>by
    unfold jkE;simp only[zg];rw[if_pos (by omega),if_pos (by omega),if_pos hi];simp only[P,jg,decide_eq_false_iff_not]at hp;rw[if_neg hp.1.1.1.1,if_neg hp.1.1.1.2,if_neg hp.1.1.2,if_neg hp.1.2,if_neg hp.2,jam (by omega)]) (by
    unfold jkE;simp only[zg];rw[if_neg (by omega)])
  rw[key];cases hP:(zo g.length).any P with
  |true=>exact .inl rfl
  |false =>
   refine .inr ⟨rfl,?_,by omega⟩
   have hall:∀i,i<g.length->P i=false:=fun i hi=>by
    have:=xu.1 hP i (by simpa using hi);simpa using this
   have hq:∀i,i<g.length->(nS g i 0).size<=20∧(nL g i 2).length<=8∧(nL g i 3).length<=8∧(nL g i 4).length<=8∧(nR g i 6).length<=8:=fun i hi=>by
    have hp:=hall i hi;simp only[P,jg,decide_eq_false_iff_not]at hp;omega
   exact⟨by omega,fun i hi=>by have:=hq i hi;omega,fun i hi=>by have:=hq i hi;omega,fun i hi=>by have:=hq i hi;omega,fun i hi=>by have:=hq i hi;omega,fun i hi=>by have:=hq i hi;omega⟩
 split
 ·split
  ·exact .inl rfl
  ·split
   ·exact .inl rfl
   ·exact loop (by omega)
 ·split
  ·exact .inl rfl
  ·exact loop (by omega)
def jtP {g:List (List NC)} {i:Nat} (h:jbe g i=0):(∀x∈nL g i 2,0<=x∧x<(g.length:Int))∧(nI g i 7=-1∨(0<=nI g i 7∧nI g i 7<(g.length:Int))):=by
 have hm:jdS g.length (nL g i 2)=false:=by
  cases hb:jdS g.length (nL g i 2)with
  |false=>rfl
  |true =>
   exfalso;unfold jbe at h;rw[if_pos hb]at h
   repeat' split at h
   all_goals exact absurd h (by decide)
 have hs:sdB g.length (nI g i 7)=true:=by
  cases hb:sdB g.length (nI g i 7)with
  |true=>rfl
  |false =>
   exfalso;unfold jbe at h;rw[hm,if_neg (by simp:¬(false=true)),hb,if_pos (by simp:(!false)=true)]at h
   repeat' split at h
   all_goals exact absurd h (by decide)
 refine⟨fun x hx=>?_,?_⟩
 ·have:=xu.1 hm x hx;simp only[inB,gP,jF,zm,decide_eq_true_eq]at this;omega
 ·unfold sdB inB at hs;simp only[qY,beq_iff_eq,zm,decide_eq_true_eq]at hs;omega
def jbm (out:List Int) (k:Nat):Bool:=out.any (·== (k:Int))
def jdI (g:List (List NC)) (i k:Nat):Bool:=(nL g i 2).any (·== (k:Int))||nI g i 7==(k:Int)
def jc8 (g:List (List NC)) (out:List Int) (i:Nat):Bool:=!(zo g.length).any fun k=>jdI g i k && !jbm out k
def jdg (g:List (List NC)) (out:List Int) (i:Nat):Bool:=!jbm out i&&jc8 g out i
def jbn (g:List (List NC)) (out:List Int):Option Nat:=(zo g.length).find? (jdg g out)
def jbf (n:Nat) (out:List Int):List Bool:=(zo n).map (jbm out)
def juR {g:List (List NC)} (hw:Fw g) {i:Nat} (hi:i<g.length) (k:Nat) (nm:ByteArray) (a:Int) (b c:List Int) (d:Int) (e:List (List Int)):jds nm a (nL g i 2) b c d e (nI g i 7) (k:Int)=some (jdI g i k):=by
 have h2:=hw.fr i hi;unfold jds jdI;rw[jfa _ _ (by omega),jac];cases (nL g i 2).any (·== (k:Int))<;>rfl
def jDi {g:List (List NC)} (hw:Fw g) (nm:ByteArray) {i:Nat} (hi:i<g.length) (out:List Int) (ho:out.length<1000):jdt nm g out (i:Int)=some (jc8 g out i):=by
 have hn:=hw.n;unfold jdt
 have key:=jdF (body:=js9 g out (i:Int)) g.length (fun k=>jdI g i k && !jbm out k) (.inl ()) (.inr ()) (by omega) (fun k hk hp=>by
   simp only[zm,xL]at hp;unfold js9;simp only[zg];rw[if_pos (by omega),if_pos (by omega),if_pos hi,juR hw hi,jac,if_pos hp.1,jfa _ _ (by omega),jac];have h2:(out.any (·== (k:Int)))=false:=hp.2;rw[h2];rfl) (fun k hk hp=>by
   unfold js9;simp only[zg];rw[if_pos (by omega),if_pos (by omega),if_pos hi,juR hw hi,jac];cases h1:jdI g i k with
   |false=>rw[if_neg (by simp),jam (by omega)]
   |true =>
    rw[h1]at hp;have h2:jbm out k=true:=by simpa using hp
    have h2:(out.any (·== (k:Int)))=true:=h2;rw[if_pos rfl,jfa _ _ (by omega),jac,h2,jam (by omega)];rfl) (by
   unfold js9;rw[if_neg (by omega)])
 rw[key];unfold jc8;cases (zo g.length).any (fun k=>jdI g i k && !jbm out k)<;>rfl
def jgy (n:Nat) (out:List Int):(jbf n out).length=n:=by simp[jbf]
def jgz {n k:Nat} (hk:k<n) (out:List Int):(jbf n out).getD k false=jbm out k:=by simp[jbf,za,hk]
def jBL {n i:Nat} (hi:i<n) (out:List Int):(jbf n out).set i true=jbf n (out++[(i:Int)]):=by
 refine xF (by simp[jbf]) fun k h1 h2=>?_;have hk:k<n:=by simpa [jbf]using h2
 rw[gQ];simp only[jbf,j7,yB,jbm,gZ,yO,kq,kh]
 by_cases h:i=k
 ·subst h;simp
 ·rw[if_neg h];have:((i:Int)==(k:Int))=false:=by simp;omega
  rw[this,kh]
def juS {g:List (List NC)} (hw:Fw g) {i:Nat} (hi:i<g.length) (hr:jbe g i=0) (out:List Int):jdH g (i:Int) (jbf g.length out)=some (jc8 g out i):=by
 have h2:=hw.fr i hi;obtain⟨r1,r2⟩:=jtP hr
 have hmem:∀x,x∈Sx09.needL (nL g i 2) (nI g i 7)<->(x∈nL g i 2∨(nI g i 7≠-1∧x=nI g i 7)):=fun x=>by
  unfold Sx09.needL;split
  ·rename_i h;simp[h]
  ·rename_i h;simp[h]
 have hrg:∀x∈Sx09.needL (nL g i 2) (nI g i 7),0<=x∧x<(g.length:Int):=fun x hx=>by
  rcases(hmem x).1 hx with h|⟨h,rfl⟩
  ·exact r1 x h
  ·exact r2.resolve_left h
 unfold jdH;simp only[zg]
 rw[if_pos (by omega),if_pos ⟨by omega,by
  rw[zx];intro x hx;rw[jgy];simpa using hrg x hx⟩]
 congr 1
 rw[jc];unfold Sx09.readyB jc8;rw[zx,xL,xu];constructor
 ·intro h k hk;have hk:k<g.length:=qG.1 hk;simp only[zm,xL,not_and,fH];intro hn
  have hx:(k:Int)∈Sx09.needL (nL g i 2) (nI g i 7):=by
   rw[hmem];unfold jdI at hn;rw[qY,qQ]at hn;rcases hn with ⟨x,hx,e⟩|e
   ·have:x=(k:Int):=by simpa using e
    subst this;exact .inl hx
   ·have:nI g i 7=(k:Int):=by simpa using e
    exact .inr ⟨by omega,this.symm⟩
  have:=h _ hx
  rwa [zg,jgz hk]at this
 ·intro h x hx;obtain⟨h0,h1⟩:=hrg x hx;obtain⟨k,rfl⟩:∃k:Nat,x=(k:Int):=⟨x.toNat,by omega⟩
  have hk:k<g.length:=by omega
  rw[zg,jgz hk];have:=h k (qG.2 hk);simp only[zm,xL,not_and,fH]at this;refine this ?_;unfold jdI;rw[qY,qQ];rcases(hmem _).1 hx with h|⟨h,e⟩
  ·exact .inl ⟨_,h,by simp⟩
  ·exact .inr (by simp[<-e])
def jFx (P:Nat->Bool) (l:List Nat):(l.findIdx? P).map (fun i=>l.getD i 0)=l.find? P:=by
 induction l with
 |nil=>rfl
 |cons x r ih =>
  rw[xO,f0];cases P x with
  |true=>rfl
  |false =>
   rw[<-ih];cases r.findIdx? P<;>rfl
def jDj {Y:Type} (n:Nat) (P:Nat->Bool) {body:Int->Option (Int ⊕ Y)} (hit:Nat->Y) (miss:Y) (hlen:n<9223372036854775807)
  (h1:∀i,i<n->P i=true->body (i:Int)=some (.inr (hit i)))
  (h2:∀i,i<n->P i=false->body (i:Int)=some (.inl ((i:Int)+1))) (h3:body (n:Int)=some (.inr miss)) :
  jae body big 0=some (match(zo n).find? P with|some i=>hit i|none=>miss):=by
 have hg:∀i,i<n->(zo n).getD i 0=i:=fun i hi=>by simp[za,hi]
 have key:=ja0 (body:=body) (zo n) 0 P hit miss (by simpa using hlen) (fun i hi hp=>by
   have hi:i<n:=by simpa using hi
   rw[hg i hi]at hp;exact h1 i hi hp) (fun i hi hp=>by
   have hi:i<n:=by simpa using hi
   rw[hg i hi]at hp;exact h2 i hi hp) (by simpa using h3)
 rw[key,<-jFx];cases h:(zo n).findIdx? P with
 |none=>rfl
 |some i =>
  show some (hit i)=some (hit ((zo n).getD i 0))
  rw[hg i (jsh h)]
def jdJ (next:List Int->Option Nat):Nat->List Int->Option (List Int)|0,out=>some out|k+1,out=>match next out with|some i=>jdJ next k (out++[(i:Int)])|none=>none
def jqE {X Y:Type} {body:X->Option (X ⊕ Y)} (F:List Int->X) (next:List Int->Option Nat) (good:List Int->Y) (bad:Y) (n:Nat)
  (h1:∀out,out.length<n->body (F out)=some (match next out with|some i=>.inl (F (out++[(i:Int)]))|none=>.inr bad)) (h2:∀out,out.length=n->body (F out)=some (.inr (good out))) :
  ∀(k:Nat) (out:List Int) (N:Nat),out.length+k=n->k<N->jae body N (F out)=some (match jdJ next k out with|some l=>good l|none=>bad)
 |0,out,0,_,h=>by omega
 |0,out,N+1,ho,_=>by
  unfold jae;rw[h2 out (by omega)];rfl
 |k+1,out,0,_,h=>by omega
 |k+1,out,N+1,ho,hN=>by
  unfold jae;rw[h1 out (by omega)];unfold jdJ;cases hx:next out with
  |none=>rfl
  |some i=>exact jqE F next good bad n h1 h2 k (out++[(i:Int)]) N (by simp;omega) (by omega)
def jnF:List SV:=[.a [.d,.x (.st zS [])]]
def jgK (u4:zY) (u1:List (List NC)):Option (List Int × Int) :=
 if(jgx u4 u1)=true then
  ze (jcx u4 u1) fun r0 =>
  some ([],nzI r0)
 else
  ze (jay u4 u1) fun r1 =>
  some ((r1,0))
def jnG:List Lf->Option GT|[.d (.s u4),.x (.st [.s,.i .i64,.ints .i64,.ints .i64,.ints .i64,.i .i64,.recs 5,.i .i64] u1)]=>some (.leaf (ok (jgK u4 u1)) [.c (.row 3 (.ints .i64 ((val (jgK u4 u1)).1))),.c (.d (.i .i64 ((val (jgK u4 u1)).2)))])|_=>none
abbrev sp_20:jaa->jaa:=jap 20 true (jah jnF jnG)
def jDk (u4:zY) (u1:List (List NC)) (r:List Int × Int):Sk (top r) (jgK u4 u1) :=.brB
 (.call (.obT (.obT (.ret (fun r=>(Ob (zb r.1=(0:Nat)) ∧
 (Ob (nzI (val (jcx u4 u1))=r.2) ∧
 True))) ⟨⟨rfl⟩,⟨⟨rfl⟩,trivial⟩⟩))))
 (.call (.obT (.obT (.rc))))
def jBM (u4:zY) (u1:List (List NC)) (r:List Int × Int) (h:ze (jgK u4 u1) some=some r):jaR Tryz.f20 ((sp_80 sp0)) (fun _ _ _=>none) (jaK jnF [.d (.s u4),.x (.st zS u1)]) [.c (.row 3 (.ints .i64 r.1)),.c (.d (.i .i64 r.2))] :=Sk.vc (jDk u4 u1 r) (by kernel_rfl) h
def jBN:jaf Tryz.prog 20 true (jah jnF jnG):=by
 refine jan (sp:=(sp_80 sp0)) (fn:=Tryz.f20) (body:=bodyOf Tryz.f20) mixed (sp_80_ok jaj) Tryz.func20 (by kernel_rfl) (by kernel_rfl) fun ls t h ho b hb=>?_;unfold jnG at h;split at h
 ·rename_i u4 u1;cases h;obtain rfl:=jav hb;exact⟨zh (by kernel_rfl),_,_,jBM u4 u1 _ (jai ho)⟩
 ·cases h
def sp_20_ok {sp:jaa} (h:jab Tryz.prog sp):jab Tryz.prog (sp_20 sp):=jag jBN h
open Go.IntKind (wrap)
def jAh {g:List (List NC)} {out:List Int} {i:Nat} (h:jbn g out=some i):i<g.length∧jdg g out i=true :=⟨qG.1 (List.mem_of_find?_eq_some h),List.find?_some h⟩
def jgA (P:Nat->Bool) (n k:Nat):Int:=match(List.range' (n-k) k).find? P with
 |some i=>(i:Int)
 |none=>-1
def jBO (P:Nat->Bool) {n k:Nat} (hk:k<n):jgA P n (k+1)=if P (n-1-k)=true then((n-1-k:Nat):Int)else jgA P n k:=by
 unfold jgA;have e:n-(k+1)=n-1-k:=by omega
 rw[List.range'_succ,e,f0];have e2:n-1-k+1=n-k:=by omega
 rw[e2];cases P (n-1-k)<;>rfl
def jDl (P:Nat->Bool) (n:Nat):jgA P n n=match(zo n).find? P with|some i=>(i:Int)|none=>-1:=by
 unfold jgA;rw[yZ,<-List.range_eq_range']
def jor (g:List (List NC)) (out:List Int):Int:=match jbn g out with|some i=>(i:Int)|none=>-1
def jDm {g:List (List NC)} (hw:Fw g) (nm:ByteArray) (out:List Int) (ho:out.length<1000):jae (jqj nm g out) big (-1,wrap xd ((g.length:Int)-1))=some (jor g out):=by
 have hn:=hw.n
 have key:=jaD (body:=jqj nm g out) (fun k=>(jgA (jdg g out) g.length k,(g.length:Int)-1-(k:Int))) (y:=jor g out) (k:=g.length) (fun k hk=>by
   unfold jqj;obtain⟨j,hj⟩:∃j:Nat,(g.length:Int)-1-(k:Int)=(j:Int):=⟨g.length-1-k,by omega⟩
   have hjn:j=g.length-1-k:=by omega
   have hjl:j<g.length:=by omega
   rw[hj,if_pos (by omega),jfa _ _ (by omega),jac,jDi hw nm hjl out ho];have hs:=jBO (jdg g out) hk;rw[<-hjn]at hs;have he:(g.length:Int)-1-((k+1:Nat):Int)=(j:Int)-1:=by omega
   rw[he,hs,jam (by omega)];have hc:jdg g out j=(!(out.any (·== (j:Int)))&&jc8 g out j):=rfl;rw[hc];cases out.any (·== (j:Int))with
   |true=>rfl
   |false =>
    cases jc8 g out j<;>rfl) (by
   unfold jqj;rw[if_neg (by show ¬((g.length:Int)-1-(g.length:Int)>=0);omega)]
   show some (Sum.inr (jgA (jdg g out) g.length g.length))=_
   rw[jDl];rfl) (by omega)
 have e0:jgA (jdg g out) g.length 0=-1:=rfl;have key:jae (jqj nm g out) big (jgA (jdg g out) g.length 0,(g.length:Int)-1-((0:Nat):Int))=some (jor g out):=key;rw[e0]at key;rw[jam (by omega)];have e1:(g.length:Int)-1-((0:Nat):Int)=(g.length:Int)-1:=by omega
 rw[e1]at key;exact key
def jnH {g:List (List NC)} (hw:Fw g) (nm:ByteArray):jiJ nm g=some (match jdJ (jbn g) g.length []with|some l=>(l,true)|none=>([],false)):=by
 have hn:=hw.n;unfold jiJ
 have key:=jqE (body:=jtc nm g) (fun out=>out) (jbn g) (fun l=>.inr l) (.inl ()) g.length (fun out ho=>by
   unfold jtc;rw[if_pos (by omega),jDm hw nm out (by omega),jac];unfold jg9 jor;cases hx:jbn g out with
   |none=>rfl
   |some i =>
    show(if(i:Int)<0 then _ else _)=_
    rw[if_neg (by omega),if_pos (by simp only[zC,qa];omega)]) (fun out ho=>by
   unfold jtc;rw[if_neg (by omega)]) g.length [] big (by simp) (by have:big=18446744073709551616:=rfl;omega)
 rw[key];cases jdJ (jbn g) g.length []<;>rfl
def jBP (n:Nat):jbf n []=zi n false:=by
 refine xF (by simp[jbf]) fun k h1 h2=>?_;simp[jbf,jbm]
def jDn {g:List (List NC)} (hw:Fw g) (hall:∀i,i<g.length->jbe g i=0) (out:List Int) (k:Int):jae (jcB g (k,jbf g.length out,out)) big 0=some (jor g out):=by
 have hn:=hw.n
 have key:=jDj (body:=jcB g (k,jbf g.length out,out)) g.length (jdg g out) (fun i=>(i:Int)) (-1) (by omega) (fun i hi hp=>by
   unfold jcB;simp only[zg,jgy];unfold jdg at hp;rw[zm]at hp;rw[if_pos (by omega),if_pos (by omega),if_pos hi,jgz hi,if_pos hp.1,juS hw hi (hall i hi),jac,if_pos hp.2]) (fun i hi hp=>by
   unfold jcB;simp only[zg,jgy];unfold jdg at hp;rw[if_pos (by omega),if_pos (by omega),if_pos hi,jgz hi];cases hh:jbm out i with
   |true=>rw[if_neg (by simp),jam (by omega)]
   |false =>
    rw[hh]at hp;have hr:jc8 g out i=false:=by simpa using hp
    rw[if_pos (by rfl),juS hw hi (hall i hi),jac,hr,if_neg (by simp),jam (by omega)]) (by
   unfold jcB;rw[if_neg (by omega)])
 exact key
def jxQ {g:List (List NC)} (hw:Fw g) (hall:∀i,i<g.length->jbe g i=0):jae (jcf g) big ((0:Int),zi g.length false,[])=some (match jdJ (jbn g) g.length []with|some l=>.inr l|none=>.inl ()):=by
 have hn:=hw.n
 have key:=jqE (body:=jcf g) (fun out=>((out.length:Int),jbf g.length out,out)) (jbn g) (fun l=>.inr l) (.inl ()) g.length (fun out ho=>by
   unfold jcf;rw[if_pos (by show(out.length:Int)<_;omega),jDn hw hall,jac];unfold jiS jor;cases hx:jbn g out with
   |none=>rfl
   |some i =>
    have hi:=(jAh hx).1
    have hne:((i:Int) == -1)=false:=by
     rw[beq_eq_false_iff_ne];omega
    simp only[jgy];rw[hne,if_neg (by simp),if_pos (by omega),if_pos (by omega),if_pos (by simp only[zC,qa];omega),jam (by omega),zg,jBL hi];simp) (fun out ho=>by
   unfold jcf;rw[if_neg (by show ¬(out.length:Int)<_;omega)]) g.length [] big (by simp) (by have:big=18446744073709551616:=rfl;omega)
 rw[jBP]at key;exact key
def jnI (next:List Int->Option Nat):∀(k:Nat) (out l:List Int),jdJ next k out=some l->out.length+k=l.length∧l.take out.length=out∧∀j,out.length<=j->j<l.length->∃i,next (l.take j)=some i∧l.getD j 0=((i:Nat):Int)
 |0,out,l,h=>by
  cases h;exact⟨rfl,x6,fun j h1 h2=>by omega⟩
 |k+1,out,l,h=>by
  unfold jdJ at h;cases hx:next out with
  |none=>rw[hx]at h;cases h
  |some i =>
   rw[hx]at h;obtain⟨h1,h2,h3⟩:=jnI next k (out++[(i:Int)]) l h
   simp only[z9,zC,qa]at h1 h2 h3
   have ht:l.take out.length=out:=by
    have:(l.take (out.length+1)).take out.length=out:=by rw[h2];simp
    rwa [List.take_take,yH (by omega)]at this
   refine⟨by omega,ht,fun j hj1 hj2=>?_⟩
   by_cases hj:j=out.length
   ·subst hj;refine⟨i,by rw[ht];exact hx,?_⟩;have hg:(l.take (out.length+1))[out.length]?=some (i:Int):=by rw[h2];simp
    rw[jy (by omega)]at hg;simp[za,hg]
   ·exact h3 j (by omega) hj2
def jtQ {nm:ByteArray} {g:List (List NC)} (h:(cg nm g).2=0):∀i,i<g.length->jbe g i=0:=by
 rw[jnE]at h;unfold cgF at h;split at h
 ·exact absurd (show(4:Int)=0 from h) (by omega)
 ·split at h
  ·exact absurd (show(8:Int)=0 from h) (by omega)
  ·cases hf:(zo g.length).findIdx? (fun i=>jbe g i != 0)with
   |none =>
    intro i hi;rw[qk]at hf;simpa using hf i (qG.2 hi)
   |some i =>
    rw[hf]at h;have h:jbe g i=0:=h;rw[qj]at hf;obtain⟨hlt,hp,_⟩:=hf;simp only[yB]at hp;rw[h]at hp;exact absurd hp (by decide)
def jDo {n:Nat} (h:n<1000):(0:Int)<=(n:Int)∧(n:Int)=(n:Int)∧((1:Nat):Int)*(n:Int)<=281474976710656∧(n:Int)<=9223372036854775807:=by
 omega
def jFy {g:List (List NC)} (hw:Fw g) {nm:ByteArray} (hs:nm.size<1000) (h:(cg nm g).2=0):jbI nm g=match jdJ (jbn g) g.length []with|some _=>none|none=>some 19:=by
 unfold jbI;rw[juP hw hs,jac,if_neg (by rw[h];simp),if_pos (jDo hw.n),zg,jxQ hw (jtQ h),jac];cases jdJ (jbn g) g.length []<;>rfl
def jFz {g:List (List NC)} (hw:Fw g) {nm:ByteArray} (hs:nm.size<1000) (h:(cg nm g).2=0) {l:List Int} (hl:jdJ (jbn g) g.length []=some l):jbx nm g=some (nm,l,0):=by
 unfold jbx;rw[show jfw=jcf from rfl];rw[juP hw hs,jac,if_neg (by rw[h];simp),if_pos (jDo hw.n),zg,jxQ hw (jtQ h),jac,hl];rfl
def jzs {g:List (List NC)} (hw:Fw g) {nm:ByteArray} (hs:nm.size<1000):jmW nm g=some (if(cg nm g).2≠0 then(cg nm g).2 else match jdJ (jbn g) g.length []with|some _=>0|none=>19):=by
 unfold jmW;rw[jDf hw hs,jac]
 by_cases h:(cg nm g).2=0
 ·rw[if_neg (by rw[h];simp),if_neg (fun hn=>hn h),jnH hw,jac];cases jdJ (jbn g) g.length []<;>rfl
 ·rw[if_pos (bne_iff_ne.2 h),if_pos h]
end Go.Sh
end

section
namespace Go.Sx
open Ieee Go.Fl
def mg (K m:Nat) (e:Int):Nat:=m*2^(e+K).toNat
def sg (s:Bool) (a:Nat):Int:=if s then -(a:Int)else(a:Int)
def jnJ (s:Bool) (m k:Nat):signed s m k=sg s (m*2^k):=by
 unfold signed sg;rw[jn]
def jsi (s:Bool) (a b:Nat):sg s (a*b)=sg s a*(b:Int):=by
 unfold sg;cases s<;>simp[Int.neg_mul]
def jzt {a b:Int} {c:Nat} (hc:0<c):compare (a*(c:Int)) (b*(c:Int))=compare a b:=by
 have hc':(0:Int)<(c:Int):=by omega
 rcases Int.lt_trichotomy a b with h|h|h
 ·have h1:a*(c:Int)<b*(c:Int):=Int.mul_lt_mul_of_pos_right h hc';rw[Int.compare_eq_lt.2 h1,Int.compare_eq_lt.2 h]
 ·subst h;rw[Int.compare_eq_eq.2 rfl,Int.compare_eq_eq.2 rfl]
 ·have h1:b*(c:Int)<a*(c:Int):=Int.mul_lt_mul_of_pos_right h hc';rw[Int.compare_eq_gt.2 h1,Int.compare_eq_gt.2 h]
def jkY (K:Nat) {s t:Bool} {m n:Nat} {i j:Int} (hi:0<=i+K) (hj:0<=j+K) :
  Datum.order (.number s m i) (.number t n j)=some (compare (sg s (mg K m i)) (sg t (mg K n j))):=by
 simp only[Datum.order,jnJ]
 have key:∀(x:Int) (m:Nat),min i j<=x->0<=x+K->mg K m x=m*2^(x-min i j).toNat*2^(min i j+K).toNat:=by
  intro x m h1 h2;unfold mg;rw[yN,<-jJ]
  congr 2
  omega
 rw[key i m (by omega) hi,key j n (by omega) hj,jsi s (m*_),jsi t (n*_),jzt (yI _)]
def jFA {s:Bool} {m:Nat} {i:Int}:Datum.sum (.number s m i) (Datum.opposite (.number s m i))=some (.number false 0 i):=by
 simp only[Datum.opposite,Datum.sum,Int.min_self,Int.sub_self,Int.toNat_zero,jnJ];cases s<;>simp[sg]<;>omega
def jxR (s:Bool) (n drop:Nat):Toward.cut .zero s n drop=n/2^drop:=by
 have h1:(n/(1 <<< min drop (n.log2+2)))=n/2^drop:=by
  rw[jn,Nat.one_mul]
  by_cases h:drop<=n.log2+2
  ·rw[yH h]
  ·rw[Nat.min_eq_right (by omega)];have h2:n<2^(n.log2+1):=gI;have h3:2^(n.log2+1)<=2^(n.log2+2):=Nat.pow_le_pow_right (by omega) (by omega);have h4:2^(n.log2+2)<=2^drop:=Nat.pow_le_pow_right (by omega) (by omega);rw[j6 (by omega),j6 (by omega)]
 simp[Toward.cut,h1]
def jxS (K:Nat) {s:Bool} {m:Nat} {i:Int} (hi:0<=i+K):Datum.toInt .zero (.number s m i)=some (sg s (mg K m i/2^K)):=by
 simp only[Datum.toInt,Datum.integral,jnJ,Nat.pow_zero,yU,jxR,jn]
 congr 2
 unfold mg
 by_cases h:0<=i
 ·have e1:(-i).toNat=0:=by omega
  have e2:(i+K).toNat=i.toNat+K:=by omega
  rw[e1,e2,jJ,Nat.pow_zero,Nat.div_one,<-yN,Nat.mul_div_cancel _ (yI K)]
 ·have e1:i.toNat=0:=by omega
  have e2:K=(i+K).toNat+(-i).toNat:=by omega
  rw[e1,Nat.pow_zero,yU]
  conv=>rhs;rhs;rw[e2,jJ]
  rw[xN m,Nat.mul_div_mul_left _ _ (yI _)]
def jGY {s:Bool} {m:Nat} (hm0:m≠0) (hm:m<16777216) :
  single.read (single.write (.number s m 0))=.number s (m*2^(23-m.log2)) ((m.log2:Int)-23)∧m.log2<=23:=by
 have hl:m.log2<=23:=by
  have:=(Nat.log2_lt hm0 (k:=24)).2 (by omega);omega
 refine⟨?_,hl⟩;have hlo:2^m.log2<=m:=Nat.log2_self_le hm0;have hhi:m<2^(m.log2+1):=gI;have hp:2^m.log2*2^(23-m.log2)=8388608:=by rw[<-jJ,Nat.add_sub_cancel' hl]
 have h1:8388608<=m*2^(23-m.log2):=by rw[<-hp];exact Nat.mul_le_mul_right _ hlo
 have h2:m*2^(23-m.log2)<16777216:=by
  have h3:m*2^(23-m.log2)<2^(m.log2+1)*2^(23-m.log2):=Nat.mul_lt_mul_of_pos_right hhi (yI _);have h4:2^(m.log2+1)*2^(23-m.log2)=16777216:=by rw[Nat.pow_succ,yN,xN 2,<-yN,hp]
  omega
 have e1:single.signWeight=2147483648:=rfl;have e2:single.binade=8388608:=rfl;have e3:single.infRung=2139095040:=rfl;have e4:single.leastPlace=-149:=rfl;have e5:single.fractionBits=23:=rfl
 have hw:single.write (.number s m 0)=single.word s ((m.log2+126)*8388608+m*2^(23-m.log2)):=by
  simp only[Format.write,Format.nearest,if_neg hm0,e2,e3,e4,e5];have hlast:max ((0:Int)+(m.log2:Int)-(23:Nat)) (-149)=(m.log2:Int)-23:=by omega
  rw[hlast];have ha:((0:Int)-((m.log2:Int)-23)).toNat=23-m.log2:=by omega
  have hb:(((m.log2:Int)-23)-0).toNat=0:=by omega
  rw[ha,hb,jwE _ _ _ rfl,jn];have hc:((m.log2:Int)-23 - -149).toNat=m.log2+126:=by omega
  rw[hc,yH (by omega)]
 rw[hw]
 generalize m*2^(23-m.log2)=k at *
 generalize m.log2=q at *
 have hrd:∀r,8388608<=r->r<2139095040->single.read (single.word s r)=.number s (8388608+r%8388608) (-149+(r/8388608-1:Nat)):=by
  intro r h1 h2;unfold Format.read Format.word;simp only[e1,e2,e3,e4];cases s
  ·simp only[qw,if_false];have ha:r%2147483648=r:=Nat.mod_eq_of_lt (by omega);have hb:r/2147483648=0:=j6 (by omega);rw[ha,hb,if_neg (by omega),if_pos h2];rfl
  ·simp only[if_true];have ha:(2147483648+r)%2147483648=r:=by omega
   have hb:(2147483648+r)/2147483648=1:=by omega
   rw[ha,hb,if_neg (by omega),if_pos h2];rfl
 rw[hrd _ (by omega) (by omega)];have ha:8388608+((q+126)*8388608+k)%8388608=k:=by omega
 have hb:((q+126)*8388608+k)/8388608-1=q+126:=by omega
 have hc:(-149:Int)+((q+126:Nat):Int)=(q:Int)-23:=by omega
 rw[ha,hb,hc]
def jDp (K:Nat) (hK:149<=K) {n:Int} (hn:-16777216<n∧n<16777216) :
  ∃m e,xa .f32 (qE .f32 n)=.number (decide (n<0)) m e∧mg K m e=n.natAbs*2^K∧-149<=e:=by
 unfold xa qE FloatKind.encode FloatKind.format
 by_cases h0:n.natAbs=0
 ·rw[h0];have:n=0:=by omega
  subst this;exact⟨0,-149,by rfl,by simp[mg],by omega⟩
 ·obtain⟨h1,h2⟩:=jGY (s:=decide (n<0)) h0 (by omega);refine⟨_,_,h1,?_,by omega⟩;unfold mg;have e1:((n.natAbs.log2:Int)-23+K).toNat=K-(23-n.natAbs.log2):=by omega
  rw[e1,yN,<-jJ]
  congr 2
  omega
def juT (n:Int):sg (decide (n<0)) n.natAbs=n:=by
 unfold sg
 by_cases h:n<0
 ·simp[h];omega
 ·simp[h];omega
def jxT {n:Int} (hn:-16777216<n∧n<16777216):f2i .f32 (qE .f32 n)=n∧jcm .f32 .i64 (qE .f32 n)=true:=by
 obtain⟨m,e,h1,h2,h3⟩:=jDp 149 (by omega) hn
 have ht:Datum.toInt .zero (xa .f32 (qE .f32 n))=some n:=by
  rw[h1,jxS 149 (by omega),h2,Nat.mul_div_cancel _ (yI _),juT]
 unfold f2i jcm;rw[ht];refine⟨rfl,?_⟩;have e1:xd.min=-9223372036854775808:=rfl;have e2:xd.max=9223372036854775807:=rfl;simp only[e1,e2,decide_eq_true_eq];omega
end Go.Sx
namespace Go.Sh
open Go Go.Proofs Go.RowKit Go.Sx Ieee Go.Fl
open Go.IntKind (wrap)
def jaC {α:Type} {l:List α} {x:Nat} {d:α} (hx:x<l.length):l.getD x d=l[x]:=by simp[za,hx]
def jd3 {α:Type} {l:List α} {x:Nat} (hx:x<l.length) (d:α):l.take (x+1)=l.take x++[l.getD x d]:=by
 rw[List.take_succ_eq_append_getElem hx,jaC hx]
def KK:Nat:=1100
def PP:Nat:=2^KK
def jxU:0<PP:=yI _
def jDq (a b:Int):(some (compare a b)==some Ordering.eq)=decide (a=b):=by
 rcases Int.lt_trichotomy a b with h|h|h
 ·rw[Int.compare_eq_lt.2 h,decide_eq_false (by omega)];rfl
 ·rw[Int.compare_eq_eq.2 h,decide_eq_true h];rfl
 ·rw[Int.compare_eq_gt.2 h,decide_eq_false (by omega)];rfl
def jH8 (a b:Int):(some (compare a b)==some Ordering.lt)=decide (a<b):=by
 rcases Int.lt_trichotomy a b with h|h|h
 ·rw[Int.compare_eq_lt.2 h,decide_eq_true h];rfl
 ·rw[Int.compare_eq_eq.2 h,decide_eq_false (by omega)];rfl
 ·rw[Int.compare_eq_gt.2 h,decide_eq_false (by omega)];rfl
def jH9 (a b:Int):(some (compare a b)==some Ordering.gt)=decide (b<a):=by
 rcases Int.lt_trichotomy a b with h|h|h
 ·rw[Int.compare_eq_lt.2 h,decide_eq_false (by omega)];rfl
 ·rw[Int.compare_eq_eq.2 h,decide_eq_false (by omega)];rfl
 ·rw[Int.compare_eq_gt.2 h,decide_eq_true h];rfl
def seD:Datum->Int| .number _ m e=>if 16777216*PP<=mg KK m e then 2 else if mg KK m e/PP*PP≠mg KK m e then 27 else if mg KK m e/PP<=32767 then 0 else 2|_=>27
def se (b:Nat):Int:=seD (xa .f32 b)
def mg_up (m e:Nat):mg KK m (e:Int)=m*2^e*PP:=by
 unfold mg PP;rw[yN,<-jJ]
 congr 2
def sg_f (a:Nat):sg false a=(a:Int):=rfl
def sg_t (a:Nat):sg true a=-(a:Int):=rfl
def jDr {s:Bool} {m:Nat} {i:Int} (hi:0<=i+KK):Datum.toInt .zero (.number s m i)=some (sg s (mg KK m i/PP)):=jxS KK hi
def jAi {n:Int} (hn:-16777216<n∧n<16777216):∃m e,xa .f32 (qE .f32 n)=.number (decide (n<0)) m e∧mg KK m e=n.natAbs*PP∧-149<=e:=jDp KK (by unfold KK;omega) hn
def jGC:mg KK 8388608 1=16777216*PP:=by
 have:=mg_up 8388608 1;rw[show(8388608*2^1:Nat)=16777216 from rfl]at this;exact this
attribute [irreducible] PP
def sub_self (f:Format) {b:Nat} {s:Bool} {m:Nat} {e:Int} (h:f.read b=.number s m e):f.sub b b=some 0:=by
 unfold Format.sub;rw[h,jFA];simp[Format.write,Format.nearest,Format.word]
def jGZ (f:Format) {b:Nat} {s:Bool} (h:f.read b=.infinity s):f.sub b b=none:=by
 unfold Format.sub;rw[h];cases s<;>rfl
def jlx (b:Nat):jnv b=some (se b):=by
 have hz:Format.order single 0 0=some .eq:=by decide
 unfold jnv se xa;simp only[show FloatKind.format .f32=single from rfl];rcases read32 b with ⟨s,m,e,h,hm,he1,he2⟩|⟨s,h⟩|⟨s,t,h⟩
 ·have h1:single.order b b=some .eq:=by
   unfold Format.order;rw[h,jkY KK (by unfold KK;omega) (by unfold KK;omega),Int.compare_eq_eq.2 rfl]
  have hA:single.order b 1266679808=some (compare (sg s (mg KK m e)) ((16777216*PP:Nat):Int)):=by
   unfold Format.order;have hc:single.read 1266679808=.number false 8388608 1:=by decide
   rw[h,hc,jkY KK (by unfold KK;omega) (by unfold KK;omega)];rw[jGC]
   first|rw[sg_f]|rw[sg_t]
  have hB:single.order b 3414163456=some (compare (sg s (mg KK m e)) (-((16777216*PP:Nat):Int))):=by
   unfold Format.order;have hc:single.read 3414163456=.number true 8388608 1:=by decide
   rw[h,hc,jkY KK (by unfold KK;omega) (by unfold KK;omega)];rw[jGC]
   first|rw[sg_f]|rw[sg_t]
  have hT:Datum.toInt .zero (xa .f32 b)=some (sg s (mg KK m e/PP)):=by
   unfold xa;simp only[show FloatKind.format .f32=single from rfl];rw[h,jDr (by unfold KK;omega)]
  rw[h1,sub_self single h,hA,hB];simp only[Option.isSome_some,z6,hz,if_true,bne_self_eq_false,qw,if_false,jH9,jDq,jH8,h,seD]
  generalize hg:mg KK m e=A at *
  have hP:=jxU;have hdm:=Nat.div_add_mod A PP;rw[xN]at hdm;have hml:=Nat.mod_lt A hP;have hq:f2i .f32 b=sg s (A/PP):=by unfold f2i;rw[hT];rfl
  by_cases hbig:16777216*PP<=A
  ·rw[if_pos hbig];cases s
   ·rw[if_pos];simp only[sg,qw,if_false,qY,decide_eq_true_eq];omega
   ·rw[if_neg,if_pos]
    ·simp only[sg,if_true,qY,decide_eq_true_eq];omega
    ·simp only[sg,if_true,qY,decide_eq_true_eq];omega
  ·rw[if_neg hbig];have hd:A/PP<16777216:=(Nat.div_lt_iff_lt_mul hP).2 (by omega)
   generalize A/PP=Q at *
   generalize A%PP=R at *
   generalize hQP:Q*PP=QP at *
   have hn:-16777216<sg s Q∧sg s Q<16777216:=by cases s<;>simp only[sg,qw,if_false,if_true]<;>omega
   have hok:jcm .f32 .i64 b=true:=by
    unfold jcm;rw[hT];have e1:xd.min=-9223372036854775808:=rfl;have e2:xd.max=9223372036854775807:=rfl;simp only[e1,e2,decide_eq_true_eq];omega
   rw[if_neg,if_neg,if_pos hok]
   ·obtain⟨m',e',h3,h4,h5⟩:=jAi hn
    have hC:single.order (qE .f32 (f2i .f32 b)) b=some (compare (sg s Q*(PP:Int)) (sg s A)):=by
     unfold Format.order;have h3':single.read (qE .f32 (f2i .f32 b))=.number (decide (sg s Q<0)) m' e':=by rw[hq];exact h3
     rw[h3',h,jkY KK (by unfold KK;omega) (by unfold KK;omega),h4,hg,jsi,juT]
    rw[hC]
    have hne:(some (compare (sg s Q*(PP:Int)) (sg s A))!=some Ordering.eq)=decide (QP≠A):=by
     rw[bne,jDq]
     have:(sg s Q*(PP:Int)=sg s A)<->QP=A:=by
      rw[<-jsi,hQP];cases s<;>simp only[sg,qw,if_false,if_true]<;>omega
     by_cases hw:QP=A
     ·rw[decide_eq_true (this.2 hw),decide_eq_false (by omega)];rfl
     ·rw[decide_eq_false (fun h=>hw (this.1 h)),decide_eq_true hw];rfl
    rw[hne,hq]
    by_cases hw:QP=A
    ·rw[decide_eq_false (show ¬(QP≠A) by omega),if_neg qB,if_neg (show ¬(QP≠A) by omega)];rw[if_pos hok]
     have hb:(decide (-32767<=sg s Q)&&decide (sg s Q<=32767))=decide (Q<=32767):=by
      rw[jc,zm,decide_eq_true_eq,decide_eq_true_eq,decide_eq_true_eq];cases s<;>simp only[sg,qw,if_false,if_true]<;>omega
     unfold jcM jc1;rw[show wrap xd ((0:Int)-32767)=-32767 from by rw[jam (by omega)];rfl,jpA];unfold inB;simp only[Option.bind_some,hb,decide_eq_true_eq];split<;>rfl
    ·rw[decide_eq_true (show QP≠A from hw),if_pos rfl,if_pos hw]
   ·cases s<;>simp only[sg,qw,if_false,if_true,qY,decide_eq_true_eq]<;>omega
   ·cases s<;>simp only[sg,qw,if_false,if_true,qY,decide_eq_true_eq]<;>omega
 ·have h1:single.order b b=some .eq:=by
   unfold Format.order;rw[h];cases s<;>rfl
  rw[h1,jGZ single h,h];rfl
 ·have h1:single.order b b=none:=by
   unfold Format.order;rw[h];rfl
  rw[h1,h];rfl
def jbR (l:List Nat):Int:=match l.findIdx? (fun b=>se b != 0)with|some i=>se (l.getD i 0)|none=>0
def juU {l:List Nat} (h:jbR l=0):∀b∈l,se b=0:=by
 intro b hb;unfold jbR at h;cases hf:l.findIdx? (fun b=>se b != 0)with
 |none =>
  rw[qk]at hf;simpa using hf b hb
 |some i =>
  rw[hf]at h;rw[qj]at hf;obtain⟨hk,hp,_⟩:=hf;have h:se (l.getD i 0)=0:=h;rw[show l.getD i 0=l[i] by simp[za,hk]]at h;simp[h]at hp
def jAj {l:List Nat} (h:∀b∈l,se b=0):jbR l=0:=by
 unfold jbR
 have:l.findIdx? (fun b=>se b != 0)=none:=by
  rw[qk];intro b hb;simp[h b hb]
 rw[this]
def jjT {l:List Nat} (hl:l.length<1000000000000):y76 l=some (jbR l):=by
 unfold y76 jbR
 have h:=ja0 l 0 (fun b=>se b != 0) (body:=jtD l) (fun i=>.inl (se (l.getD i 0))) (.inr ()) (by omega)
  (fun i hi hp=>by
   unfold jtD;rw[if_pos (by omega),if_pos (by omega),if_pos (by omega),zg,jlx,jac,if_pos hp])
  (fun i hi hp=>by
   unfold jtD;rw[if_pos (by omega),if_pos (by omega),if_pos (by omega),zg,jlx,jac,if_neg (by rw[hp];simp),jam (by omega)])
  (by unfold jtD;rw[if_neg (by omega)])
 rw[h];cases l.findIdx? (fun b=>se b != 0)<;>rfl
def jtR {l:List Nat} (hl:l.length<1000000000000):jnr l=some (jbR l):=(by kernel_rfl:jnr l=y76 l).trans (jjT hl)
def inR (x:Int):Prop:=-32767<=x∧x<=32767
instance (x : Int) : Decidable (inR x) := by unfold inR; infer_instance
def nf (n:Int):Nat:=qE .f32 n
def fi (b:Nat):Int:=f2i .f32 b
def jkZ {α U:Type} (l:List α) (d:α) (f:α->U) {body:Int × List U->Option ((Int × List U) ⊕ List U)} (hlen:l.length<1000000000000)
  (h1:∀i,i<l.length->∀o:List U,o.length=i->body ((i:Int),o)=some (.inl ((i:Int)+1,o++[f (l.getD i d)])))
  (h2:∀o,body ((l.length:Int),o)=some (.inr o)):jae body big (0,[])=some (l.map f):=by
 refine jaD (fun i=>((i:Int),(l.take i).map f)) (k:=l.length) (fun i hi=>?_) ?_ (by omega)
 ·have:=h1 i hi ((l.take i).map f) (by simp;omega);rw[this,jd3 hi d];simp
 ·rw[x6];exact h2 _
def jfb {b:Nat} (h:se b=0):jcm .f32 .i64 b=true∧inR (fi b):=by
 unfold se at h;unfold fi f2i jcm;rcases Fl.read32 b with ⟨s,m,e,hd,hm,he1,he2⟩|⟨s,hd⟩|⟨s,t,hd⟩
 ·have hdec:xa .f32 b=.number s m e:=hd;rw[hdec]at h ⊢;rw[jDr (by unfold KK;omega)];unfold seD at h
  have h3:mg KK m e/PP<=32767:=by
   dsimp only at h;split at h
   ·omega
   ·split at h
    ·omega
    ·split at h
     ·assumption
     ·omega
  clear h
  generalize mg KK m e/PP=Q at *
  have e1:xd.min=-9223372036854775808:=rfl;have e2:xd.max=9223372036854775807:=rfl;simp only[e1,e2,decide_eq_true_eq,z6,inR];cases s<;>simp only[sg,qw,if_false,if_true]<;>omega
 ·have hdec:xa .f32 b=.infinity s:=hd;rw[hdec]at h;simp[seD]at h
 ·have hdec:xa .f32 b=.nan s t:=hd;rw[hdec]at h;simp[seD]at h
def jv0 {n:Int} (hn:-16777216<n∧n<16777216):fi (nf n)=n:=(jxT hn).1
def jv1 {n:Int} (hn:-16777216<n∧n<16777216):se (nf n)=if inR n then 0 else 2:=by
 obtain⟨m,e,h1,h2,h3⟩:=jAi hn;unfold se nf;rw[h1];unfold seD;dsimp only
 rw[h2,Nat.mul_div_cancel _ jxU,if_neg (by
  intro h;have:=Nat.le_of_mul_le_mul_right h jxU;omega),if_neg (by omega)]
 by_cases h:n.natAbs<=32767
 ·rw[if_pos h,if_pos (show inR n by unfold inR;omega)]
 ·rw[if_neg h,if_neg (show ¬inR n by unfold inR;omega)]
end Go.Sh
end

section
namespace Go.Sh
open Go Go.Proofs Go.RowKit Go.Sx Ieee Go.Fl
def jxV (u:List Int) (x:Int):Int:=(2*(u.getD 0 0*x+u.getD 1 0*u.getD 5 0+u.getD 2 0*u.getD 6 0-u.getD 3 0*u.getD 7 0-u.getD 4 0*u.getD 8 0)+16384)/32768
def jgb (u:List Int) (x:Int):Int:=max (-32767) (min 32767 (jxV u x))
def jxW (u:List Int) (x:Int):List Int:=[u.getD 0 0,u.getD 1 0,u.getD 2 0,u.getD 3 0,u.getD 4 0,x,u.getD 5 0,jgb u x,u.getD 7 0,u.getD 9 0+if jgb u x=jxV u x then 0 else 1]
def okFu (u:List Int):Prop:=u.length=10∧(∀j,j<5->-32768<=u.getD j 0∧u.getD j 0<=32768)∧(∀j,5<=j->j<9->-32767<=u.getD j 0∧u.getD j 0<=32767)∧0<=u.getD 9 0∧u.getD 9 0<=1000000000
def jtS {x y a b:Int} (ha:0<=a) (hb:0<=b) (hx:-a<=x∧x<=a) (hy:-b<=y∧y<=b):-(a*b)<=x*y∧x*y<=a*b:=by
 have h1:(x*y).natAbs<=a.natAbs*b.natAbs:=by
  rw[Int.natAbs_mul];exact Nat.mul_le_mul (by omega) (by omega)
 have h2:a*b=((a.natAbs*b.natAbs:Nat):Int):=by
  rw[Int.natCast_mul];have e1:(a.natAbs:Int)=a:=by omega
  have e2:(b.natAbs:Int)=b:=by omega
  rw[e1,e2]
 rw[h2];omega
def mkU (r s:List Int):List Int:=[r.getD 0 0,r.getD 1 0,r.getD 2 0,r.getD 3 0,r.getD 4 0,s.getD 0 0,s.getD 1 0,s.getD 2 0,s.getD 3 0,0]
def jbz (c s:List (List Int)) (k:Nat):List (List Int):=(zo k).map fun i=>mkU (c.getD i []) (s.getD i [])
def jDs (c s:List (List Int)) (k:Nat):jbz c s (k+1)=jbz c s k++[mkU (c.getD k []) (s.getD k [])]:=by simp[jbz,yf]
def ji2 (c s:List (List Int)) (k:Nat):(jbz c s k).length=k:=by simp[jbz]
def jbK:List (List Int)->Int->List (List Int)|[],_=>[]|u::us,x=>jxW u x::jbK us (jgb u x)
def jdh:List (List Int)->Int->Int|[],x=>x|u::us,x=>jdh us (jgb u x)
def jhs:∀(us:List (List Int)) (x:Int),(jbK us x).length=us.length
 |[],_=>rfl
 |u::us,x=>by simp[jbK,jhs us]
def jsj:∀(us:List (List Int)) (u:List Int) (x:Int),jbK (us++[u]) x=jbK us x++[jxW u (jdh us x)]∧jdh (us++[u]) x=jgb u (jdh us x)
 |[],_,_=>⟨rfl,rfl⟩
 |v::us,u,x=>by
  have:=jsj us u (jgb v x);simp only[qq,jbK,jdh,this,and_self]
def jez (u:List Int) (x:Int):-32767<=jgb u x∧jgb u x<=32767:=by unfold jgb;omega
def ji3:∀(us:List (List Int)) {x:Int},-32767<=x->x<=32767->-32767<=jdh us x∧jdh us x<=32767|[],_,h1,h2=>⟨h1,h2⟩|u::us,x,_,_=>ji3 us (jez u x).1 (jez u x).2
def jk0 (k:Int) (u:List Int):Prop:=u.length=10∧(∀j,j<5->-32768<=u.getD j 0∧u.getD j 0<=32768)∧(∀j,5<=j->j<9->-32767<=u.getD j 0∧u.getD j 0<=32767)∧0<=u.getD 9 0∧u.getD 9 0<=k
def jFC {k:Int} {u:List Int} {x:Int} (h:jk0 k u) (h1:-32767<=x) (h2:x<=32767):jk0 (k+1) (jxW u x):=by
 obtain⟨hl,hc,hs,h0,h9⟩:=h;have hr:=jez u x;refine⟨rfl,fun j hj=>?_,fun j hj hj2=>?_,?_,?_⟩
 ·match j,hj with
  |0,_=>exact hc 0 (by decide)
  |1,_=>exact hc 1 (by decide)
  |2,_=>exact hc 2 (by decide)
  |3,_=>exact hc 3 (by decide)
  |4,_=>exact hc 4 (by decide)
 ·match j,hj,hj2 with
  |5,_,_=>exact⟨h1,h2⟩
  |6,_,_=>exact hs 5 (by decide) (by decide)
  |7,_,_=>exact hr
  |8,_,_=>exact hs 7 (by decide) (by decide)
 ·show 0<=u.getD 9 0+_
  split<;>omega
 ·show u.getD 9 0+_<=k+1
  split<;>omega
def juV:∀{us:List (List Int)} {x:Int} {u:List Int},-32767<=x->x<=32767->u∈jbK us x->∃v∈us,∃y,-32767<=y∧y<=32767∧u=jxW v y
 |[],_,_,_,_,h=>by cases h
 |v::us,x,u,h1,h2,h=>by
  rcases qu.1 h with rfl|h
  ·exact⟨v,zy,x,h1,h2,rfl⟩
  ·obtain⟨v',hv,y,r⟩:=juV (jez v x).1 (jez v x).2 h;exact⟨v',zw _ hv,y,r⟩
def jxX {k:Int} {u:List Int} (h:jk0 k u) (hk:k<=1000000000):okFu u:=⟨h.1,h.2.1,h.2.2.1,h.2.2.2.1,Int.le_trans h.2.2.2.2 hk⟩
def jb3:List (List Int)->List Int->List (List Int)|us,[]=>us|us,x::l=>jb3 (jbK us x) l
def jb9:List (List Int)->List Int->List Int|_,[]=>[]|us,x::l=>jdh us x::jb9 (jbK us x) l
def jbi:List (List Int)->Int|[]=>0|u::us=>u.getD 9 0+jbi us
def jht:∀a b:List (List Int),jbi (a++b)=jbi a+jbi b
 |[],b=>by simp[jbi]
 |u::a,b=>by simp only[qq,jbi,jht a b];omega
def jpC:∀(us:List (List Int)) (a b:List Int),jb3 us (a++b)=jb3 (jb3 us a) b|_,[],_=>rfl|us,x::a,b=>jpC (jbK us x) a b
def jnK:∀(us:List (List Int)) (a b:List Int),jb9 us (a++b)=jb9 us a++jb9 (jb3 us a) b
 |_,[],_=>rfl
 |us,x::a,b=>by simp only[qq,jb9,jb3,jnK (jbK us x) a b]
def jhu:∀(us:List (List Int)) (l:List Int),(jb9 us l).length=l.length
 |_,[]=>rfl
 |us,x::l=>by simp[jb9,jhu (jbK us x) l]
def jdN:∀(us:List (List Int)) (l:List Int),(jb3 us l).length=us.length
 |_,[]=>rfl
 |us,x::l=>by simp[jb3,jdN (jbK us x) l,jhs]
def jDt {us:List (List Int)} {l:List Int} {i:Nat} (hi:i<l.length):jb3 us (l.take (i+1))=jbK (jb3 us (l.take i)) (l.getD i 0) ∧
  jb9 us (l.take (i+1))=jb9 us (l.take i)++[jdh (jb3 us (l.take i)) (l.getD i 0)]:=by
 rw[jd3 hi 0,jpC,jnK];exact⟨rfl,rfl⟩
def jpD:∀{us:List (List Int)} {l:List Int},(∀x∈l,inR x)->∀y∈jb9 us l,inR y
 |_,[],_,y,hy=>by cases hy
 |us,x::l,h,y,hy=>by
  rcases qu.1 hy with rfl|hy
  ·exact ji3 us (h x zy).1 (h x zy).2
  ·exact jpD (fun x hx=>h x (zw _ hx)) y hy
def jos:∀{us:List (List Int)} {l:List Int} {k:Int},(∀u∈us,jk0 k u)->(∀x∈l,inR x)->∀u∈jb3 us l,jk0 (k+l.length) u
 |us,[],k,h,_,u,hu=>by simpa using h u hu
 |us,x::l,k,h,hx,u,hu=>by
  have hr:=hx x zy
  have h1:∀v∈jbK us x,jk0 (k+1) v:=fun v hv=>by
   obtain⟨w,hw,y,hy1,hy2,rfl⟩:=juV hr.1 hr.2 hv;exact jFC (h w hw) hy1 hy2
  have:=jos h1 (fun x hx'=>hx x (zw _ hx')) u hu;rw[show k+((x::l).length:Int)=k+1+(l.length:Int) by simp;omega];exact this
def jG0 {us:List (List Int)} (hl:us.length<=100000) (h:∀u∈us,0<=u.getD 9 0∧u.getD 9 0<=1000000000):y95 us=some (jbi us):=by
 unfold y95
 have hb:∀i,i<=us.length->0<=jbi (us.take i)∧jbi (us.take i)<=i*1000000000:=by
  intro i
  induction i with
  |zero=>intro _;simp[jbi]
  |succ i ih =>
   intro hi;have:=ih (by omega);have hu:=h (us.getD i []) (by rw[jaC (by omega)];exact qi _);rw[jd3 (by omega) [],jht];have e:jbi [us.getD i []]=(us.getD i []).getD 9 0:=by simp[jbi]
   rw[e]
   push_cast
   omega
 have hit:jae (jtG us) big (0,0)=some (jbi us):=jaD (body:=jtG us) (fun i=>(jbi (us.take i),(i:Int))) (y:=jbi us) (k:=us.length) (fun i hi=>by
  have h1:=hb i (by omega);have hu:=h (us.getD i []) (by rw[jaC hi];exact qi hi);unfold jtG;dsimp only;rw[if_pos (by omega),if_pos (by omega),if_pos (by omega),zg,jam (by omega),jam (by omega),jd3 hi [],jht];have e:jbi [us.getD i []]=(us.getD i []).getD 9 0:=by simp[jbi]
  rw[e];rfl) (by unfold jtG;dsimp only;rw[if_neg (by omega),x6]) (by omega)
 rw[hit];rfl
def stU (u:List Int):List Int:=[u.getD 5 0,u.getD 6 0,u.getD 7 0,u.getD 8 0]
def jDu {us:List (List Int)} (hl:us.length<=100000):y60 us=some (us.map stU):=by
 unfold y60
 rw[jkZ us [] stU (body:=y99 us) (by omega) (fun i hi o ho=>by
  unfold y99;dsimp only;rw[if_pos (by omega),if_pos (by omega),if_pos (by omega),zg,if_pos (by simp only[zC,qa];omega),jam (by omega)];rfl) (fun o=>by unfold y99;dsimp only;rw[if_neg (by omega)])]
 rfl
def jgc (r:List Int):Bool:=!(decide (inR (r.getD 0 0))&&decide (inR (r.getD 1 0))&&decide (inR (r.getD 2 0))&&decide (inR (r.getD 3 0)))
def csS (c s:List (List Int)):Int × Int:=if s.length≠c.length then(0,10)else match s.findIdx? jgc with|some i=>((i:Int),2)|none=>(0,0)
def jBQ (x:Int):(decide ((-32767:Int)<=x)&&decide (x<=(32767:Int)))=decide (inR x):=by
 rw[jc,zm,decide_eq_true_eq,decide_eq_true_eq,decide_eq_true_eq];rfl
end Go.Sh
end

section
namespace Go.Sx06
def jpE {n b:Int} (hb:0<b):(0<=n->0<=n.tdiv b∧n.tdiv b<=n)∧(n<=0->n<=n.tdiv b∧n.tdiv b<=0):=by
 constructor
 ·intro hn;rw[Int.tdiv_eq_ediv_of_nonneg hn];exact⟨Int.ediv_nonneg hn (by omega),Int.ediv_le_self b hn⟩
 ·intro hn;have h1:n=-(-n):=by omega
  rw[h1,Int.neg_tdiv,Int.tdiv_eq_ediv_of_nonneg (by omega:0<=-n)];have h2:=Int.ediv_nonneg (by omega:0<=-n) (by omega:0<=b);have h3:=Int.ediv_le_self b (by omega:0<=-n);omega
def jpF {n b:Int} (hb:0<b):-b<n.tmod b∧n.tmod b<b:=by
 refine⟨?_,Int.tmod_lt_of_pos n hb⟩;have h:=Int.tmod_lt_of_pos (-n) hb;rw[Int.neg_tmod]at h;omega
def juW {n b:Int} (hb:0<b) (h:n.tmod b<0):n.tdiv b-1=n/b:=by
 have h1:=Int.tmod_add_mul_tdiv n b;have h2:=jpF (n:=n) hb
 have h3:n/b=(n.tdiv b-1):=by
  apply (Int.ediv_eq_iff_of_pos hb).2;rw[Int.mul_comm]at h1;constructor<;>rw[Int.sub_mul]<;>omega
 exact h3.symm
def juX {n b:Int} (hb:0<b) (h:¬n.tmod b<0):n.tdiv b=n/b:=by
 have h1:=Int.tmod_add_mul_tdiv n b;have h2:=jpF (n:=n) hb
 have h3:n/b=n.tdiv b:=by
  apply (Int.ediv_eq_iff_of_pos hb).2;rw[Int.mul_comm]at h1;constructor<;>omega
 exact h3.symm
end Go.Sx06
end

section
namespace Go.Sh
open Go Go.Proofs Go.RowKit Go.Sx Go.Sx06 Ieee Go.Fl
open Go.IntKind (wrap)
def jGD (a b:Int):jde [a,b]=some (if a≠0 then a else b):=by
 unfold jde
 rw[ja0 [a,b] 0 (fun x=>x != 0) (body:=jtq [a,b]) (fun i=>.inl ([a,b].getD i 0)) (.inr ()) (by simp) (fun i hi hp=>by
  unfold jtq;rw[if_pos (by omega),if_pos (by omega),if_pos (by omega),zg,if_pos hp]) (fun i hi hp=>by
  unfold jtq;rw[if_pos (by omega),if_pos (by omega),if_pos (by omega),zg,if_neg (by rw[hp];simp),jam (by simp at hi;omega)]) (by
  unfold jtq;rw[if_neg (by omega)])]
 by_cases ha:a=0
 ·by_cases hb:b=0
  ·simp[ha,hb,xO,jev,jm5]
  ·simp[ha,hb,xO,jev,jhe]
 ·simp[ha,xO,jev,jhe]
def jBR {n b:Int} (hb:0<b) (hb2:b<=1000000) (hn:-4000000000000000000<=n∧n<=4000000000000000000):jf4 n b=some ((2*n+b)/(2*b)):=by
 unfold jf4 jeZ;rw[jam (x:=2*n) (by omega),jam (x:=2*n+b) (by omega),jam (x:=2*b) (by omega),if_pos (by omega),if_pos (by omega)];have h0:0<2*b:=by omega
 generalize 2*b=m at *
 have hN:-8000000000001000000<=2*n+b∧2*n+b<=8000000000001000000:=by omega
 generalize 2*n+b=N at *
 have h1:=jpE (n:=N) h0;rw[jam (x:=N.tdiv m) (by omega)];split
 ·rename_i h;rw[jam (by omega),jac,juW h0 h]
 ·rename_i h;rw[jac,juX h0 h]
def jqF (r:Int):(if(if r<(32767:Int)then r else(32767:Int))>(-32767:Int)then if r<(32767:Int)then r else(32767:Int)else(-32767:Int))=max (-32767) (min 32767 r):=by omega
def jBS {us:List (List Int)} {i:Nat} {x:Int} (hi:i<us.length) (hu:okFu (us.getD i [])) (hx:inR x):jkX (i:Int) x us=some (jgb (us.getD i []) x,us.set i (jxW (us.getD i []) x)):=by
 obtain⟨hl,hc,hs,h0,h9⟩:=hu;unfold jkX;simp only[pu1,pu9,pu5,puc,zg,hi,if_true,jE]
 generalize hr:us.getD i []=r at *
 match r,hl with
 |[b0,b1,b2,a0,a1,x1,x2,y1,y2,k],_ =>
  have c0:=hc 0 (by decide);have c1:=hc 1 (by decide);have c2:=hc 2 (by decide);have c3:=hc 3 (by decide);have c4:=hc 4 (by decide);have s5:=hs 5 (by decide) (by decide);have s6:=hs 6 (by decide) (by decide);have s7:=hs 7 (by decide) (by decide);have s8:=hs 8 (by decide) (by decide);simp only[List.getD_cons_zero,List.getD_cons_succ]at c0 c1 c2 c3 c4 s5 s6 s7 s8 h0 h9 ⊢;have m0:=jtS (a:=32768) (b:=32767) (by decide) (by decide) c0 hx;have m1:=jtS (a:=32768) (b:=32767) (by decide) (by decide) c1 s5;have m2:=jtS (a:=32768) (b:=32767) (by decide) (by decide) c2 s6;have m3:=jtS (a:=32768) (b:=32767) (by decide) (by decide) c3 s7;have m4:=jtS (a:=32768) (b:=32767) (by decide) (by decide) c4 s8
  rw[jam (x:=b0*x) (by omega),jam (x:=b1*x1) (by omega),jam (x:=b2*x2) (by omega),jam (x:=a0*y1) (by omega),jam (x:=a1*y2) (by omega),jam (x:=b0*x+b1*x1) (by omega),jam (x:=b0*x+b1*x1+b2*x2) (by omega),jam (x:=b0*x+b1*x1+b2*x2-a0*y1) (by omega),jam (x:=b0*x+b1*x1+b2*x2-a0*y1-a1*y2) (by omega),jBR (by decide) (by decide) (by omega),jac,jam (x:=k+1) (by omega)]
  have hraw:jxV [b0,b1,b2,a0,a1,x1,x2,y1,y2,k] x=(2*(b0*x+b1*x1+b2*x2-a0*y1-a1*y2)+16384)/(2*16384):=rfl;rw[<-hraw];have hout:max (-32767) (min 32767 (jxV [b0,b1,b2,a0,a1,x1,x2,y1,y2,k] x))=jgb [b0,b1,b2,a0,a1,x1,x2,y1,y2,k] x:=rfl;simp only[jqF,hout];have hg:∀a:List Int,(us.set i a).getD i []=a:=fun a=>by simp[za,hi]
  simp only[hg,List.set_set]
  by_cases hz:jgb [b0,b1,b2,a0,a1,x1,x2,y1,y2,k] x=jxV [b0,b1,b2,a0,a1,x1,x2,y1,y2,k] x
  ·rw[if_neg (by simpa using hz)]
   congr 3
   show _=[b0,b1,b2,a0,a1,x,x1,_,y1,k+if _ then 0 else 1]
   rw[if_pos hz,Int.add_zero];rfl
  ·rw[if_pos (by simpa using hz)]
   congr 3
   show _=[b0,b1,b2,a0,a1,x,x1,_,y1,k+if _ then 0 else 1]
   rw[if_neg hz];rfl
def jtT {us:List (List Int)} {l:List (List Int)} {i:Nat} (hi:i<l.length) (h:us.length=i):(us++l.drop i).getD i []=l.getD i []:=by
 subst h;rw[jaC (by simp;omega),jaC hi,List.getElem_append_right (zq _)];simp
def jzu {l:List (List Int)} {x:Int} (hl:l.length<1000000) (hu:∀u∈l,okFu u) (hx:inR x):jny x l=some (jdh l x,jbK l x):=by
 unfold jny
 have hit:jae (jqA l) big (x,0,l)=some (jdh l x,jbK l x):=jaD (body:=jqA l) (fun i=>(jdh (l.take i) x,(i:Int),jbK (l.take i) x++l.drop i)) (y:=(jdh l x,jbK l x)) (k:=l.length) (fun i hi=>by
  have hlen:(jbK (l.take i) x).length=i:=by rw[jhs,List.length_take];omega
  have hmem:l.getD i []∈l:=by rw[jaC hi];exact qi hi
  have hg:=jtT (us:=jbK (l.take i) x) hi hlen;unfold jqA;dsimp only
  rw[if_pos (by omega),if_pos (by simp only[z9,hlen,xm];omega),zg,jBS (by simp only[z9,hlen,xm];omega) (by rw[hg];exact hu _ hmem) (ji3 _ hx.1 hx.2),jac,jam (by omega),hg]
  obtain⟨e1,e2⟩:=jsj (l.take i) (l.getD i []) x;rw[<-jd3 hi]at e1 e2;rw[e1,e2,yC _ _ (by omega),hlen,yZ,List.drop_eq_getElem_cons hi,List.set_cons_zero,qD];rfl) (by
  unfold jqA;dsimp only;rw[if_neg (by omega),x6,List.drop_length,yu]) (by omega)
 rw[hit];rfl
def jzv {c s:List (List Int)} (hc:c.length<=s.length) (hl:c.length<1000000):y94 c s=some (jbz c s c.length):=by
 unfold y94
 have hit:jae (jqv c s) big (0,[])=some (jbz c s c.length):=jaD (body:=jqv c s) (fun i=>((i:Int),jbz c s i)) (y:=jbz c s c.length) (k:=c.length) (fun i hi=>by
  unfold jqv;dsimp only;rw[if_pos (by omega),if_pos (by omega),zg,if_pos hi,if_pos (by omega),if_pos (by omega),if_pos (by rw[ji2];simp only[zC,qa];omega),jam (by omega),jDs];rfl) (by unfold jqv;dsimp only;rw[if_neg (by omega)]) (by omega)
 rw[hit];rfl
def jxY (n:Int):jcM n 32767=some (decide (inR n)):=by
 unfold jcM;rw[show wrap xd ((0:Int)-32767)=-32767 from by rw[jam (by omega)];rfl,jpA,<-jBQ];rfl
def jDv (s:List (List Int)) (i:Nat):jae (y92 s (i:Int)) big 0=some (if jgc (s.getD i [])=true then .inl ()else .inr ()):=by
 have hit:=jcA [(s.getD i []).getD 0 0,(s.getD i []).getD 1 0,(s.getD i []).getD 2 0,(s.getD i []).getD 3 0] 0 (fun v=>!decide (inR v)) (body:=y92 s (i:Int)) (.inl ()) (.inr ()) (by simp) (fun j hj hp=>by
  have hj:j<4:=hj;unfold y92;rw[if_pos (by omega),zg,zg,yU,if_pos ⟨by omega,by match j,hj with|0,_=>rfl|1,_=>rfl|2,_=>rfl|3,_=>rfl⟩,jxY,jac,if_pos hp]) (fun j hj hp=>by
  have hj:j<4:=hj;unfold y92;rw[if_pos (by omega),zg,zg,yU,if_pos ⟨by omega,by match j,hj with|0,_=>rfl|1,_=>rfl|2,_=>rfl|3,_=>rfl⟩,jxY,jac,if_neg (by rw[hp];simp),jam (by omega)]) (by
  unfold y92;rw[if_neg (by simp)])
 rw[hit]
 congr 2
 unfold jgc;simp only[yO,kq];cases decide (inR ((s.getD i []).getD 0 0))<;>cases decide (inR ((s.getD i []).getD 1 0))<;>cases decide (inR ((s.getD i []).getD 2 0))<;>cases decide (inR ((s.getD i []).getD 3 0))<;>rfl
def jDw (b:Bool) (e:Int):jc1 b e=some (if b=true then 0 else e):=by
 unfold jc1;cases b<;>rfl
def jvK {c s:List (List Int)} (hc:c.length<1000) (hl:s.length<=100000):y77 c s=some (if jbc c≠0 then(0,jbc c)else csS c s):=by
 unfold y77 csS;rw[jfx c hc,jac,jDw,jac,jGD,jac]
 have hb:∀i,i<s.length->y93 s (i:Int)=if jgc (s.getD i [])=true then some (.inr (.inl (i:Int)))else some (.inl ((i:Int)+1)):=by
  intro i hi;unfold y93;rw[if_pos (by omega),if_pos (by omega),zg,if_pos hi,jDv,jac]
  by_cases h:jgc (s.getD i [])=true
  ·rw[if_pos h,if_pos h];rfl
  ·rw[if_neg h,if_neg h]
   show some (Sum.inl (wrap .i64 ((i:Int)+1)))=_
   rw[jam (by omega)]
 have hit:=ja0 s [] jgc (body:=y93 s) (fun i=>.inl (i:Int)) (.inr ()) (by omega) (fun i hi hp=>by rw[hb i hi,if_pos hp]) (fun i hi hp=>by rw[hb i hi,if_neg (by rw[hp];simp)])
  (by unfold y93;rw[if_neg (by omega)])
 have hx:(if((s.length:Int)==(c.length:Int))=true then(0:Int)else(10:Int))=if s.length≠c.length then 10 else 0:=by
  by_cases h:s.length=c.length
  ·rw[if_pos (by rw[h];exact beq_self_eq_true _),if_neg (by omega)]
  ·rw[if_neg (by rw[beq_iff_eq];omega),if_pos h]
 rw[hx,hit]
 by_cases h1:jbc c=0
 ·rw[if_neg (show ¬jbc c≠0 by omega),if_neg (show ¬jbc c≠0 by omega)]
  by_cases h:s.length=c.length
  ·rw[if_neg (show ¬s.length≠c.length by omega),if_neg (show ¬s.length≠c.length by omega),if_neg (by decide)];cases s.findIdx? jgc<;>rfl
  ·rw[if_pos h,if_pos h,if_pos (by decide)]
 ·rw[if_pos h1,if_pos h1,if_pos (by simpa using h1)]
def jsk {c s:List (List Int)} (h:(csS c s).2=0):s.length=c.length∧∀k j,k<s.length->j<4->inR ((s.getD k []).getD j 0):=by
 unfold csS at h;split at h
 ·cases h
 ·rename_i hl;refine⟨by omega,fun k j hk hj=>?_⟩;split at h
  ·cases h
  ·rename_i hf;rw[qk]at hf;have:=hf (s.getD k []) (by rw[jaC hk];exact qi hk);unfold jgc at this;simp only[jF,zm,decide_eq_true_eq]at this
   match j,hj with
   |0,_=>exact this.1.1.1
   |1,_=>exact this.1.1.2
   |2,_=>exact this.1.2
   |3,_=>exact this.2
def jgL {c:List (List Int)} (h:jbc c=0):c.length<=6∧∀r∈c,jdf r=true:=by
 unfold jbc at h;split at h
 ·cases h
 ·split at h
  ·cases h
  ·rename_i h1 h2;refine⟨by omega,fun r hr=>?_⟩;have:=mt qQ.2 h2;cases hb:jdf r with
   |true=>rfl
   |false=>exact absurd ⟨r,hr,by rw[hb];rfl⟩ this
def jAk {c s:List (List Int)} (h:jbc c=0) (hs:(csS c s).2=0):∀u∈jbz c s c.length,jk0 0 u:=by
 obtain⟨hl,hst⟩:=jsk hs;intro u hu;simp only[jbz,qm,qG]at hu;obtain⟨i,hi,rfl⟩:=hu;have h0:=(jgL h).2 (c.getD i []) (by rw[jaC hi];exact qi hi);unfold jdf Sx09.partB at h0;simp only[List.all_cons,List.all_nil,Bool.and_true,zm,decide_eq_true_eq]at h0;refine⟨rfl,fun j hj=>?_,fun j hj hj2=>?_,yl (0:Int),yl (0:Int)⟩
 ·match j,hj with
  |0,_=>exact h0.1
  |1,_=>exact h0.2.1
  |2,_=>exact h0.2.2.1
  |3,_=>exact h0.2.2.2.1
  |4,_=>exact h0.2.2.2.2
 ·match j,hj,hj2 with
  |5,_,_=>exact hst i 0 (by omega) (by omega)
  |6,_,_=>exact hst i 1 (by omega) (by omega)
  |7,_,_=>exact hst i 2 (by omega) (by omega)
  |8,_,_=>exact hst i 3 (by omega) (by omega)
def Z32:List Nat:=zO
def jDx:Z32=zi 32 0:=rfl
def jFD {e:Nat} {r:List Nat} {j v:Nat} (h:r.length=e):jeB e r j v=r.set j v:=by
 subst h;unfold jeB
 congr 1
 apply xF
 ·simp[jpM]
 ·intro i h1 h2;simp[jpM,h2]
def jxZ {A:List Nat} {v:Nat} (h:A.length<32):jeB 32 (A++zi (32-A.length) 0) A.length v=A++[v]++zi (32-(A.length+1)) 0:=by
 have h1:jeB 32 (A++zi (32-A.length) 0) A.length v=(A++zi (32-A.length) 0).set A.length v:=jFD (by simp;omega);have h2:32-A.length=(32-(A.length+1))+1:=by omega
 rw[h1,h2,yP,yC _ _ (zq _),yZ,List.set_cons_zero,qD];rfl
def jfy (c s:List (List Int)) (b:List Nat):Int:=if jbc c≠0 then jbc c else if jbR b≠0 then jbR b else(csS c s).2
def jIc {c s:List (List Int)} {b:List Nat} (hc:c.length<1000) (hs:s.length<=100000) (hb:b.length=32) :
  jdR c b s=some (if jfy c s b=0 then((jb9 (jbz c s c.length) (b.map fi)).map nf,(jb3 (jbz c s c.length) (b.map fi)).map stU,jbi (jb3 (jbz c s c.length) (b.map fi)),0)else(Z32,[],0,jfy c s b)):=by
 unfold jdR;rw[jfx c hc,jac,if_pos ⟨hb,by decide⟩,yA,ya (by omega),jjT (by omega),jac,jGD,jac]
 by_cases h1:jbc c=0
 ·rw[if_neg (show ¬jbc c≠0 by omega)]
  by_cases h2:jbR b=0
  ·rw[if_pos (by rw[h2];rfl),jvK (by omega) hs,jac,if_neg (show ¬jbc c≠0 by omega)];have hE:jfy c s b=(csS c s).2:=by unfold jfy;rw[if_neg (by omega),if_neg (by omega)]
   rw[hE]
   by_cases h3:(csS c s).2=0
   ·rw[if_neg (by rw[h3];decide),if_pos h3];obtain⟨hl,_⟩:=jsk h3;rw[jzv (by omega) (by omega),jac];have hok:=jAk h1 h3;have hall:=juU h2
    have hx:∀x∈b.map fi,inR x:=by
     intro x hx;obtain⟨y,hy,rfl⟩:=qm.1 hx;exact(jfb (hall y hy)).2
    have hul:(jbz c s c.length).length=c.length:=ji2 _ _ _
    generalize jbz c s c.length=us at *
    have hit:jae (jc2 b) big (0,us,[]++zi (32-0) 0)=some (jb3 us (b.map fi),(jb9 us (b.map fi)).map nf) :=
     jaD (body:=jc2 b) (fun i=>((i:Int),jb3 us ((b.map fi).take i),(jb9 us ((b.map fi).take i)).map nf++zi (32-i) 0)) (k:=32) (fun i hi=>by
      have hi':i<b.length:=by omega
      have hw:=jfb (hall (b.getD i 0) (by rw[jaC hi'];exact qi hi'));have hR:inR (f2i .f32 (b.getD i 0)):=hw.2;obtain⟨t1,t2⟩:=jDt (us:=us) (l:=b.map fi) (i:=i) (by simpa using hi');have hg:(b.map fi).getD i 0=f2i .f32 (b.getD i 0):=by rw[jaC (by simpa using hi'),jaC hi'];simp[fi]
      rw[hg]at t1 t2;have hlen:((jb9 us ((b.map fi).take i)).map nf).length=i:=by simp[jhu];omega
      have hsf:=jxZ (A:=(jb9 us ((b.map fi).take i)).map nf) (v:=nf (jdh (jb3 us ((b.map fi).take i)) (f2i .f32 (b.getD i 0)))) (by omega);rw[hlen]at hsf;unfold jc2;dsimp only
      rw[if_pos (by omega),if_pos (by omega),zg,if_pos hw.1,jzu (by rw[jdN,hul];omega) (fun u hu=>jxX (jos hok (fun x hx'=>hx x (List.mem_of_mem_take hx')) u hu) (by simp;omega)) hR,jac,if_pos (by omega),if_pos (by omega),jam (by omega),t1,t2]
      have e0:(0:Nat)+((0:Nat)+i*(1:Nat))=i:=by omega
      rw[e0,show ∀n,qE .f32 n=nf n from fun _=>rfl,hsf,qO];rfl) (by
      unfold jc2;dsimp only;rw[if_neg (by omega),ya (by simp;omega)];simp) (by omega)
    change (jae (jc2 b) big (0,us,[]++zi (32-0) 0)).bind _=_
    rw[hit,jac];unfold jhn;have hend:=jos hok hx;have hc6:=(jgL h1).1;rw[jDu (by rw[jdN,hul];omega),jac,jG0 (by rw[jdN,hul];omega) (fun u hu=>by have:=jxX (hend u hu) (by simp;omega);exact⟨this.2.2.2.1,this.2.2.2.2⟩),jac]
   ·rw[if_pos (by simpa using h3),if_neg h3];rfl
  ·rw[if_neg (show ¬(jbR b==0)=true by simpa using h2),if_pos (show(jbR b != 0)=true by simpa using h2)];have hE:jfy c s b=jbR b:=by unfold jfy;rw[if_neg (by omega),if_pos h2]
   rw[hE,if_neg h2];rfl
 ·rw[if_pos h1,if_neg (by simpa using h1),if_pos (by simpa using h1)];have hE:jfy c s b=jbc c:=by unfold jfy;rw[if_pos h1]
  rw[hE,if_neg h1];rfl
def jzw {c:List (List Int)} (hc:c.length<1000) (h:jbc c=0):y28 c=some (zi c.length [0,0,0,0],0):=by
 unfold y28;rw[jfx c hc,jac,h,if_neg (by decide),if_pos (by omega),zg]
end Go.Sh
end

section
namespace Go.Sh
open Go Go.Proofs Go.RowKit Go.Sx
structure Rg (g:List (List NC)) (l:List Int):Prop where
 fw:Fw g
 ok:∀i,i<g.length->jbe g i=0
 ord:jdJ (jbn g) g.length []=some l
variable {g:List (List NC)} {l:List Int}
def Rg.n (h:Rg g l):g.length<1000:=h.fw.n
def Rg.len (h:Rg g l):l.length=g.length:=by
 have:=(jnI (jbn g) g.length [] l h.ord).1;simp at this;omega
def Rg.at (h:Rg g l) {j:Nat} (hj:j<g.length):∃i:Nat,i<g.length∧l.getD j 0=(i:Int)∧jbm (l.take j) i=false∧jc8 g (l.take j) i=true:=by
 obtain⟨_,_,h3⟩:=jnI (jbn g) g.length [] l h.ord;obtain⟨i,hx,hi⟩:=h3 j (Nat.zero_le _) (by rw[h.len];exact hj);obtain⟨h1,h2⟩:=jAh hx;unfold jdg at h2;rw[zm,xL]at h2;exact⟨i,h1,hi,h2.1,h2.2⟩
def jx0 {out:List Int} {k:Nat}:jbm out k=true<->∃j,j<out.length∧out.getD j 0=(k:Int):=by
 unfold jbm;rw[qQ];constructor
 ·rintro ⟨x,hx,he⟩;obtain⟨j,hj,e⟩:=xj.1 hx;exact⟨j,hj,by simp only[za,zG hj,z6,e];simpa using he⟩
 ·rintro ⟨j,hj,e⟩;refine⟨out[j],qi hj,?_⟩;simp only[za,zG hj,z6]at e;simpa using e
def jnL {α:Type} (l:List α) (d:α) {j k:Nat} (h:j<k):(l.take k).getD j d=l.getD j d:=by
 simp only[za,jy h]
def Rg.before (h:Rg g l) {j i u:Nat} (hj:j<g.length) (hi:l.getD j 0=(i:Int)) (hu:u<g.length) (hn:jdI g i u=true):∃j',j'<j∧l.getD j' 0=(u:Int):=by
 obtain⟨i',_,h2,_,h4⟩:=h.at hj;rw[hi]at h2;obtain rfl:i=i':=by omega
 unfold jc8 at h4;rw[xL,xu]at h4;have:=h4 u (qG.2 hu);rw[hn,ki,gP,jF,jx0]at this;obtain⟨j',h5,h6⟩:=this;have hlt:j'<j:=by simp at h5;omega
 exact⟨j',hlt,by rw[jnL _ _ hlt]at h6;exact h6⟩
def Rg.lt_ne (h:Rg g l) {j j':Nat} (hj:j<g.length) (hl:j'<j):l.getD j' 0≠l.getD j 0:=fun e=>by
 obtain⟨i,_,h2,h3,_⟩:=h.at hj;have:jbm (l.take j) i=true:=jx0.2 ⟨j',by have:=h.len;simp;omega,by rw[jnL _ _ hl,e,h2]⟩;rw[h3]at this;cases this
def pig:∀(n:Nat) (l:List Nat),l.Nodup->(∀x∈l,x<n)->l.length<=n
 |0,[],_,_=>zq _
 |0,x::l,_,h=>absurd (h x zy) (by omega)
 |n+1,l,hd,h=>by
  have h1:=pig n (l.erase n) (hd.erase n) (fun x hx=>by
   rw[hd.mem_erase_iff]at hx;have:=h x hx.2;omega)
  rw[List.length_erase]at h1;split at h1<;>omega
def Rg.surj (h:Rg g l) {i:Nat} (hi:i<g.length):∃j,j<g.length∧l.getD j 0=(i:Int):=by
 apply yE;intro hno;have hL:=h.len;have hget:∀j (hj:j<l.length),l[j]=l.getD j 0:=fun j hj=>by simp[za,hj]
 have hnd:(l.map zf).Nodup:=by
  unfold List.Nodup;rw[List.pairwise_map,List.pairwise_iff_getElem];intro a b ha hb hab e;obtain⟨x,_,hx,_⟩:=h.at (j:=a) (by omega);obtain⟨y,_,hy,_⟩:=h.at (j:=b) (by omega);rw[hget a ha,hget b hb,hx,hy]at e;refine h.lt_ne (j:=b) (by omega) hab ?_;rw[hx,hy];simp only[zg]at e;rw[e]
 have hm:∀x∈l.map zf,∃j,j<g.length∧l.getD j 0=(x:Int)∧x<g.length:=by
  intro x hx;obtain⟨y,hy,rfl⟩:=qm.1 hx;obtain⟨j,hj,e⟩:=xj.1 hy;obtain⟨z,hz,hz2,_⟩:=h.at (j:=j) (by omega);rw[hget j hj,hz2]at e;subst e;exact⟨j,by omega,by rw[hz2];simp,by simpa using hz⟩
 have:=pig g.length (i::l.map zf) (List.nodup_cons.2 ⟨fun hx=>by
  obtain⟨j,h1,h2,_⟩:=hm i hx
  exact hno ⟨j,h1,h2⟩,hnd⟩) (fun x hx=>by
   rcases qu.1 hx with rfl|hx
   ·exact hi
   ·exact(hm x hx).choose_spec.2.2)
 simp at this;omega
def Rg.stand (h:Rg g l) {j i:Nat} (hj:j<g.length) (hi:l.getD j 0=(i:Int)) (hi2:i<g.length):nI g i 7=-1∨∃j' u:Nat,j'<j∧u<g.length∧nI g i 7=(u:Int)∧l.getD j' 0=(u:Int):=by
 rcases(jtP (h.ok i hi2)).2 with h1|⟨h1,h2⟩
 ·exact .inl h1
 ·refine .inr ?_;obtain⟨u,hu⟩:∃u:Nat,nI g i 7=(u:Int):=⟨(nI g i 7).toNat,by omega⟩
  obtain⟨j',h3,h4⟩:=h.before (u:=u) hj hi (by omega) (by unfold jdI;simp[hu]);exact⟨j',u,h3,by omega,hu,h4⟩
def Rg.from (h:Rg g l) {j i k:Nat} (hj:j<g.length) (hi:l.getD j 0=(i:Int)) (hi2:i<g.length) (hk:k<(nL g i 2).length):∃j' u:Nat,j'<j∧u<g.length∧(nL g i 2).getD k 0=(u:Int)∧l.getD j' 0=(u:Int):=by
 have hm:(nL g i 2).getD k 0∈nL g i 2:=by simp[za,hk]
 obtain⟨h1,h2⟩:=(jtP (h.ok i hi2)).1 _ hm;obtain⟨u,hu⟩:∃u:Nat,(nL g i 2).getD k 0=(u:Int):=⟨((nL g i 2).getD k 0).toNat,by omega⟩
 obtain⟨j',h3,h4⟩:=h.before (u:=u) hj hi (by omega) (by
  unfold jdI;rw[qY];exact .inl (qQ.2 ⟨_,hm,by rw[hu];simp⟩))
 exact⟨j',u,h3,by omega,hu,h4⟩
def stF (st:Nat->Int) (fb:Nat->Bool):Nat->Int->Int|0,u=>u|k+1,u=>if 0<=u∧fb u.toNat=true then stF st fb k (st u.toNat)else u
def jhv (g:List (List NC)) (fb:Nat->Bool) (u:Int):Int:=stF (fun i=>nI g i 7) fb g.length u
def jtU (st:Nat->Int) (fb:Nat->Bool):∀k,stF st fb k (-1)=-1
 |0=>rfl
 |k+1=>by unfold stF;rw[if_neg (by omega)]
def jx1 (h:Rg g l) (fb:Nat->Bool):∀j,j<g.length->∀k,j<k->stF (fun i=>nI g i 7) fb k (l.getD j 0)=stF (fun i=>nI g i 7) fb (j+1) (l.getD j 0):=by
 intro j
 induction j using jb with
 |_ j ih =>
  intro hj k hk;obtain⟨i,hi,e,_⟩:=h.at hj;obtain⟨m,rfl⟩:∃m,k=m+1:=⟨k-1,by omega⟩
  rw[e];unfold stF
  by_cases hf:fb i=true
  ·rw[if_pos ⟨by omega,by simpa using hf⟩,if_pos ⟨by omega,by simpa using hf⟩,zg];rcases h.stand hj e hi with h1|⟨j',u,h1,h2,h3,h4⟩
   ·rw[h1,jtU,jtU]
   ·rw[h3,<-h4,ih j' h1 (by omega) m (by omega),ih j' h1 (by omega) j (by omega)]
  ·rw[if_neg (fun hn=>hf (by simpa using hn.2)),if_neg (fun hn=>hf (by simpa using hn.2))]
def jx2 (h:Rg g l) (fb:Nat->Bool) {j i:Nat} (hj:j<g.length) (hi:l.getD j 0=(i:Int)) (hi2:i<g.length):jhv g fb (i:Int)=if fb i=true then(if nI g i 7=-1 then -1 else jhv g fb (nI g i 7))else(i:Int):=by
 unfold jhv;obtain⟨m,hm⟩:∃m,g.length=m+1:=⟨g.length-1,by omega⟩
 rw[hm]
 conv=>lhs;unfold stF
 by_cases hf:fb i=true
 ·rw[if_pos ⟨by omega,by simpa using hf⟩,if_pos hf,zg];rcases h.stand hj hi hi2 with h1|⟨j',u,h1,h2,h3,h4⟩
  ·rw[h1,jtU,if_pos rfl]
  ·rw[if_neg (by omega),h3,<-h4,jx1 h fb j' (by omega) m (by omega),jx1 h fb j' (by omega) (m+1) (by omega)]
 ·rw[if_neg (fun hn=>hf (by simpa using hn.2)),if_neg hf]
def jG1 (h:Rg g l) (fb:Nat->Bool):∀j,j<g.length->jhv g fb (l.getD j 0)=-1∨∃j' i:Nat,j'<=j∧i<g.length∧l.getD j' 0=(i:Int)∧jhv g fb (l.getD j 0)=(i:Int)∧fb i=false:=by
 intro j
 induction j using jb with
 |_ j ih =>
  intro hj;obtain⟨i,hi,e,_⟩:=h.at hj;rw[e,jx2 h fb hj e hi]
  by_cases hf:fb i=true
  ·rw[if_pos hf];rcases h.stand hj e hi with h1|⟨j',u,h1,h2,h3,h4⟩
   ·rw[if_pos h1];exact .inl rfl
   ·rw[if_neg (by omega),h3,<-h4];rcases ih j' h1 (by omega)with h5|⟨j2,i2,h5,h6⟩
    ·exact .inl h5
    ·exact .inr ⟨j2,i2,by omega,h6⟩
  ·rw[if_neg hf];exact .inr ⟨j,i,zq _,hi,e,rfl,by simpa using hf⟩
def jck (g:List (List NC)) (fb:Nat->Bool):List Int:=(zo g.length).map fun(i:Nat)=>jhv g fb (i:Int)
def jAl (g:List (List NC)) (fb:Nat->Bool):(jck g fb).length=g.length:=by simp[jck]
def jtV (g:List (List NC)) (fb:Nat->Bool) {i:Nat} (hi:i<g.length):(jck g fb).getD i 0=jhv g fb (i:Int):=by simp[jck,za,hi]
def jaL {α:Type} (l:List α) (i j:Nat) (x d:α) (hi:i<l.length):(l.set i x).getD j d=if i=j then x else l.getD j d:=by
 simp only[za,List.getElem?_set,hi,if_true];split<;>rfl
def jnM {α:Type} {l:List α} (d:α) {i:Nat} (h:i<l.length):l.getD i d=l[i]:=by simp[za,h]
def jfJ (h:Rg g l) {j j' i i':Nat} (hj:j<g.length) (hl:j'<j) (e:l.getD j 0=(i:Int)) (e':l.getD j' 0=(i':Int)):i≠i':=fun hn=>h.lt_ne hj hl (by rw[e,e',hn])
end Go.Sh
end

section
namespace Go.Sh
open Go Go.Proofs Go.RowKit Go.Sx
variable {g:List (List NC)} {l:List Int}
def jx3 (h:Rg g l) (nm:ByteArray) (failed:List Bool) (hf:failed.length=g.length):y82 nm g l failed=some (jck g fun i=>failed.getD i false):=by
 have hn:=h.n;have hL:=h.len;unfold y82;rw[if_pos (by omega),zg]
 have key:∃y,jae (y32 g l failed) big (0,zi g.length 0)=some y∧y=jck g fun i=>failed.getD i false:=by
  refine jmI (body:=y32 g l failed)
   (fun x=>∃k:Nat,k<=g.length∧x.1=(k:Int)∧x.2.length=g.length∧∀j,j<k->x.2.getD (l.getD j 0).toNat 0=jhv g (fun i=>failed.getD i false) (l.getD j 0))
   (fun x=>(g.length+1-x.1.toNat)) (fun y=>y=jck g fun i=>failed.getD i false) (fun x hx=>?_) big (0,zi g.length 0) ⟨0,by omega,rfl,by simp,fun j hj=>absurd hj (by omega)⟩ (by have:big=18446744073709551616:=rfl;simp;omega)
  obtain⟨a,out⟩:=x;obtain⟨k,hk,h1,h2,h3⟩:=hx;obtain rfl:a=(k:Int):=h1;have h2:out.length=g.length:=h2
  by_cases hkn:k<g.length
  ·obtain⟨i,hi,e,_⟩:=h.at hkn;have hs:=jx2 h (fun i=>failed.getD i false) hkn e hi
   have hnew:∀v:Int,v=jhv g (fun i=>failed.getD i false) (i:Int)->∀j,j<k+1->(out.set i v).getD (l.getD j 0).toNat 0=jhv g (fun i=>failed.getD i false) (l.getD j 0):=by
    intro v hv j hj;rw[jaL _ _ _ _ _ (by omega)]
    by_cases hjk:j=k
    ·subst hjk;rw[e,zg,if_pos rfl,hv]
    ·obtain⟨i',_,e',_⟩:=h.at (j:=j) (by omega);have:=jfJ h hkn (j':=j) (by omega) e e';rw[e',zg,if_neg this];have:=h3 j (by omega);rw[e',zg]at this;exact this
   left
   have hb:y32 g l failed ((k:Int),out)=some (.inl ((k:Int)+1,out.set i (jhv g (fun i=>failed.getD i false) (i:Int)))):=by
    unfold y32;simp only[zg,e];rw[if_pos (by omega),if_pos (by omega),if_pos (by omega),if_pos (by omega),if_pos hi,if_pos (by omega),if_pos (by omega),jam (by omega),hs];cases hfi:failed.getD i false with
    |false=>rw[if_pos (by simp),if_pos (by omega),if_pos (by omega),if_neg (by simp)]
    |true =>
     rw[if_neg (by simp),if_pos rfl];rcases h.stand hkn e hi with h5|⟨j',u,h5,h6,h7,h8⟩
     ·rw[if_pos (by rw[h5];rfl),if_pos (by omega),if_pos (by omega),if_pos h5]
     ·have hu:=h3 j' (by omega);rw[h8,zg]at hu;rw[if_neg (by rw[h7];simp),h7,if_pos (by omega),zg,if_pos (by omega),if_pos (by omega),if_pos (by omega),if_neg (by omega),hu]
   refine⟨_,hb,⟨k+1,by omega,by simp,by simp[h2],hnew _ rfl⟩,by simp;omega⟩
  ·right;refine⟨out,?_,?_⟩
   ·unfold y32;rw[if_neg (by show ¬(k:Int)<_;omega)]
   ·refine xF (by rw[h2,jAl]) fun i h5 h6=>?_;have hi:i<g.length:=by omega
    obtain⟨j,hj,e⟩:=h.surj hi;have h7:=h3 j (by omega);rw[e,zg]at h7;have h8:=jtV g (fun i=>failed.getD i false) hi;rw[<-jnM 0 h5,<-jnM 0 h6,h7,h8]
 obtain⟨y,hy,hp⟩:=key;rw[hy,hp];rfl
end Go.Sh
end

section
namespace Go.Sh
open Go Go.Proofs Go.RowKit Go.Sx
variable {g:List (List NC)} {l:List Int}
def jhw (h:Rg g l) {i:Nat} (hi:i<g.length):∀k,k<(nL g i 2).length->∃u:Nat,u<g.length∧(nL g i 2).getD k 0=(u:Int):=fun k hk=>by
 obtain⟨j,hj,e⟩:=h.surj hi;obtain⟨_,u,_,h1,h2,_⟩:=h.from hj e hi hk;exact⟨u,h1,h2⟩
def jx4 {α:Type}:∀(l:List α) (i:Nat) (d x:α),l.getD i d=x->i<l.length->l.set i x=l
 |[],i,_,_,_,h=>by cases h
 |a::r,0,d,x,h,_=>by simp at h;simp[h]
 |a::r,i+1,d,x,h,hl=>by
  simp only[List.set_cons_succ];rw[jx4 r i d x (by simpa using h) (by simpa using hl)]
end Go.Sh
end

section
namespace Go.Sh
open Go Go.Proofs Go.RowKit Go.Sx
variable {g:List (List NC)} {l:List Int}
def jAm {i:Nat} (hi:¬i<g.length):(cpU g).getD i []=g.getD i []:=by
 simp only[za];rw[zW (by rw[jey];omega),zW (by omega)]
def cpI (i:Nat):nI (cpU g) i 1=nI g i 1∧nI (cpU g) i 5=nI g i 5∧nI (cpU g) i 7=nI g i 7:=by
 by_cases hi:i<g.length
 ·exact cp_I hi
 ·unfold nI;rw[jAm hi];exact⟨rfl,rfl,rfl⟩
def cpL (i:Nat):nL (cpU g) i 2=nL g i 2∧nL (cpU g) i 3=nL g i 3∧nL (cpU g) i 4=nL g i 4:=by
 by_cases hi:i<g.length
 ·exact jqD hi
 ·unfold nL;rw[jAm hi];exact⟨rfl,rfl,rfl⟩
def jDy (g:List (List NC)):jbn (cpU g)=jbn g:=by
 funext out;unfold jbn
 have:jdg (cpU g) out=jdg g out:=by
  funext i;unfold jdg jc8 jdI;rw[jey,(cpL i).1,(cpI i).2.2]
 rw[jey,this]
def Rg.cp (h:Rg g l):Rg (cpU g) l:=⟨cp_fw h.fw,fun i hi=>by rw[jey]at hi;rw[jDg hi];exact h.ok i hi,by rw[jDy,jey];exact h.ord⟩
def rg_of {nm:ByteArray} (hw:Fw g) (h:(cg nm g).2=0) (ho:jdJ (jbn g) g.length []=some l):Rg g l:=⟨hw,jtQ h,ho⟩
end Go.Sh
end

section
namespace Go.Sh
open Go Go.Proofs Go.RowKit Go.Sx
abbrev sp_138:jaa->jaa:=sp_138_139
def sp_138_ok {sp:jaa} (h:jab Tryz.prog sp):jab Tryz.prog (sp_138 sp):=sp_138_139_ok h
open Go.IntKind (wrap)
def y180:List SV:=[.c (.p [.d,.x (.st zS []),.r (.ints .i64 [])]),.c (.r (.recs 2 []))]
def y61 (u6:List (List NC)) (l:List (List Int)) (x0:Int):Option (Int ⊕ ((Int × Int) ⊕ Unit)) :=
 if x0<(↑l.length:Int)then if 0<=x0∧x0<(↑l.length:Int)then
  if zf x0<zb l then
   ze (y54 (za (za l x0.toNat []) 0 (0:Int)) (0:Int) (wrap .i64 ((↑u6.length:Int)-1))) fun r0 =>
   if(!r0)=true then
   some (.inr ((.inl ((x0,6)))))
   else
   if 0<=z5 none (0:Int)∧z5 none 0<=z5 (some x0) (↑l.length:Int)∧z5 (some x0) (↑l.length:Int)<=(↑l.length:Int)then
    ze (y7 (yS (zf (z5 (some x0) (↑l.length:Int))-0) (yT (0:Nat) l)) (za (za l x0.toNat []) 0 (0:Int)) (za (za l x0.toNat []) 1 (0:Int))) fun r1 =>
    if(r1)=true then
    some (.inr ((.inl ((x0,26)))))
    else
    ze (y54 (za (za l x0.toNat []) 1 (0:Int)) (0:Int) (16:Int)) fun r2 =>
    if(!r2)=true then some (.inr ((.inl ((x0,2)))))
    else some (.inl (wrap .i64 (x0+1)))
   else none
  else none
  else none
 else some (.inr ((.inr ())))
def ji4 (u5:Int × Int):Option (Int × Int) :=some (u5.1,u5.2)
def ji5 (u10:Unit):Option (Int × Int) :=some (((0:Int),0))
def y165:((Int × Int) ⊕ Unit)->Option (Int × Int) :=(qz (ji4) (ji5))
def y44 (u9:zY) (u6:List (List NC)) (u7:List Int) (l:List (List Int)):Option (Int × Int) :=
 if(↑l.length:Int)>24 then some (((0:Int),8))
 else ze (jae (y61 u6 l) big (0:Int)) (y165)
def y181:List Lf->Option GT|[.d (.s u9),.x (.st [.s,.i .i64,.ints .i64,.ints .i64,.ints .i64,.i .i64,.recs 5,.i .i64] u6),.r (.ints .i64 u7),.r (.recs 2 l)]=>some (.leaf (ok (y44 u9 u6 u7 l)) [.c (.d (.i .i64 ((val (y44 u9 u6 u7 l)).1))),.c (.d (.i .i64 ((val (y44 u9 u6 u7 l)).2)))])|_=>none
abbrev sp_92:jaa->jaa:=jap 92 true (jah y180 y181)
abbrev y261 (u9:zY) (u6:List (List NC)) (u7:List Int) (l:List (List Int)) (r:Int × Int):Lp (Int × Nat) Int (((Int × Int) ⊕ Unit)) (Int × Int) (Int × Int) :=⟨fun z=>z.1,fun z=>z.2,fun z x n=>(x,n),fun z=>y61 u6 l,fun z=>y165,fun z=>top r,fun z=>0,[.c fun _=>0,.c fun _=>(↑l.length:Int),.c fun vv=>vv.1,.c fun _=>u9,.c fun _=>l,.c fun _=>u6,.c fun _=>u7]⟩
def jk1 (u9:zY) (u6:List (List NC)) (u7:List Int) (l:List (List Int)) (r:Int × Int):Sk (top r) (ze (jae (y61 u6 l) big (0:Int)) (y165)) :=
 .loop (y261 u9 u6 u7 l r) (fun kk=>((0:Int),big)) fun z0 =>
 .br
 (.ob (.ob (.obT (.call (.brB
 (.exit (.obT (.obT (.rc))))
 (.ob (.call (.brB
 (.exit (.obT (.obT (.rc))))
 (.call (.brB
 (.exit (.obT (.obT (.rc))))
 (.next)))))))))))
 (.exit (.obT (.obT (.rc))))
def jlY (u9:zY) (u6:List (List NC)) (u7:List Int) (l:List (List Int)) (r:Int × Int):Sk (top r) (y44 u9 u6 u7 l) :=.br
 (.obT (.obT (.rc)))
 (jk1 u9 u6 u7 l r)
def jk2 (u9:zY) (u6:List (List NC)) (u7:List Int) (l:List (List Int)) (r:Int × Int) (h:ze (y44 u9 u6 u7 l) some=some r):jaR Tryz.f92 ((sp_139 (sp_138 (sp_84 sp0)))) (fun gs id _=>match id with
 |0=>some ⟨Int × Nat,fun z=>⟨[(0,.w (.c (.p 2 0 1 0))),(1,.w (.c (.o 3))),(11,.w (.c (.o 3))),(12,.w (.c (.d (.i .i64 ((↑l.length:Int)))))),(13,.w (.c (.d (.i .i64 z.1))))],[(2,.ebox [.d (.s u9),.o 0,.o 1]),(3,.ext (.recs 2 l)),(0,.xext (XC.st zS u6)),(1,.ext (.ints .i64 u7))],4⟩,fun z=>(y261 u9 u6 u7 l r).inv z,fun z=>z.2⟩
 |_=>none) (jaK y180 [.d (.s u9),.x (.st zS u6),.r (.ints .i64 u7),.r (.recs 2 l)]) [.c (.d (.i .i64 r.1)),.c (.d (.i .i64 r.2))] :=
 Sk.vc (jlY u9 u6 u7 l r) (by kernel_rfl) h
def jk3:jaf Tryz.prog 92 true (jah y180 y181):=by
 refine jan (sp:=(sp_139 (sp_138 (sp_84 sp0)))) (fn:=Tryz.f92) (body:=bodyOf Tryz.f92) mixed (sp_139_ok (sp_138_ok (sp_84_ok jaj))) Tryz.func92 (by kernel_rfl) (by kernel_rfl) fun ls t h ho b hb=>?_;unfold y181 at h;split at h
 ·rename_i u9 u6 u7 l;cases h;obtain rfl:=jav hb;exact⟨zh (by kernel_rfl),_,_,jk2 u9 u6 u7 l _ (jai ho)⟩
 ·cases h
def sp_92_ok {sp:jaa} (h:jab Tryz.prog sp):jab Tryz.prog (sp_92 sp):=jag jk3 h
end Go.Sh
end

section
namespace Go.Sh
open Go Go.Proofs Go.RowKit Go.Sx
variable {g:List (List NC)} {l:List Int}
def ji6 {Y:Type} (n:Nat) (P:Nat->Bool) {body:Int->Option (Int ⊕ Y)} (hit:Nat->Y) (miss:Y) (hlen:n<9223372036854775807)
  (h1:∀i,i<n->P i=true->body (i:Int)=some (.inr (hit i)))
  (h2:∀i,i<n->P i=false->body (i:Int)=some (.inl ((i:Int)+1))) (h3:body (n:Int)=some (.inr miss)) :
  jae body big 0=some (match(zo n).findIdx? P with|some i=>hit i|none=>miss):=by
 have e:∀i,i<n->(zo n).getD i 0=i:=fun i hi=>by simp[za,hi]
 exact ja0 (zo n) 0 P hit miss (by simpa using hlen) (fun i hi hp=>by
  have hi:i<n:=by simpa using hi
  rw[e i hi]at hp;exact h1 i hi hp) (fun i hi hp=>by
  have hi:i<n:=by simpa using hi
  rw[e i hi]at hp;exact h2 i hi hp) (by rw[yq];exact h3)
def fU (l:List (List Int)) (i:Nat):Int:=(l.getD i []).getD 0 0
def fB (l:List (List Int)) (i:Nat):Int:=(l.getD i []).getD 1 0
def jfc (n:Nat) (l:List (List Int)) (i:Nat):Int :=if(!inB (fU l i) 0 ((n:Int)-1))=true then 6 else if((zo i).any fun k=>fU l k==fU l i)=true then 26 else if(!inB (fB l i) 0 16)=true then 2 else 0
def cf (n:Nat) (l:List (List Int)):Int × Int :=
 if(l.length:Int)>24 then(0,8)else match(zo l.length).findIdx? (fun i=>jfc n l i != 0)with
  |some i=>((i:Int),jfc n l i)
  |none=>(0,0)
def jIe (s:List (List Int)) (u b:Int) (hs:s.length<1000):y7 s u b=some ((zo s.length).any fun k=>fU s k==u):=by
 unfold y7 y17
 rw[ji6 (body:=y14 s u b) s.length (fun k=>fU s k==u) (fun i=>.inl (i:Int)) (.inr ()) (by omega) (fun i hi hp=>by
   unfold y14 y47;simp only[zg];rw[if_pos (by omega),if_pos (by omega),if_pos hi,jac];exact if_pos hp) (fun i hi hp=>by
   unfold y14 y47;simp only[zg];rw[if_pos (by omega),if_pos (by omega),if_pos hi,jac,jam (by omega)];exact if_neg (by show ¬((fU s i==u)=true);rw[hp];exact qB)) (by
   unfold y14;rw[if_neg (by omega)])]
 rw[<-ji1];cases (zo s.length).findIdx? (fun k=>fU s k==u)with
 |none=>rfl
 |some i =>
  show some (decide ((i:Int)>=0))=some true
  simp
def jDz {n:Nat} {P Q:Nat->Bool} (h:∀k,k<n->P k=Q k):(zo n).any P=(zo n).any Q:=by
 rw[jc,qQ,qQ];constructor
 ·rintro ⟨k,hk,hp⟩;exact⟨k,hk,by rw[<-h k (qG.1 hk)];exact hp⟩
 ·rintro ⟨k,hk,hp⟩;exact⟨k,hk,by rw[h k (qG.1 hk)];exact hp⟩
def jIf (nm:ByteArray) (od:List Int) (f:List (List Int)) (hn:g.length<1000):y44 nm g od f=some (cf g.length f):=by
 unfold y44 cf
 by_cases h24:(f.length:Int)>24
 ·rw[if_pos h24,if_pos h24]
 ·rw[if_neg h24,if_neg h24]
  rw[ji6 (body:=y61 g f) f.length (fun i=>jfc g.length f i != 0) (fun i=>.inl ((i:Int),jfc g.length f i)) (.inr ()) (by omega) (fun i hi hp=>?_) (fun i hi hp=>?_) (by
   unfold y61;rw[if_neg (by omega)])]
  ·cases (zo f.length).findIdx? (fun i=>jfc g.length f i != 0)<;>rfl
  all_goals
   have kin:y7 (f.take i) (fU f i) (fB f i)=some ((zo i).any fun k=>fU f k==fU f i):=by
    have hl:(f.take i).length=i:=by simp;omega
    rw[jIe _ _ _ (by omega),hl]
    congr 1
    exact jDz fun k hk=>by unfold fU;rw[jnL _ _ hk]
   unfold y61;simp only[z6,jm,zg,jo,yA];rw[if_pos (by omega),if_pos (by omega),if_pos hi,jam (x:=(g.length:Int)-1) (by omega),jcg,jac];have kin':y7 (f.take i) ((f.getD i []).getD 0 0) ((f.getD i []).getD 1 0)=_:=kin;rw[kin',jac,jcg,jac];have e1:(f.getD i []).getD 0 0=fU f i:=rfl;have e2:(f.getD i []).getD 1 0=fB f i:=rfl;simp only[e1,e2];rcases Bool.eq_false_or_eq_true (inB (fU f i) 0 ((g.length:Int)-1))with hA|hA<;>rcases Bool.eq_false_or_eq_true ((zo i).any (fun k=>fU f k==fU f i))with hB|hB<;>rcases Bool.eq_false_or_eq_true (inB (fB f i) 0 16)with hC|hC<;>simp[jfc,hA,hB,hC,hi,Nat.le_of_lt hi,jam,show(-9223372036854775808<=(i:Int)+1∧(i:Int)+1<=9223372036854775807) by omega]at hp ⊢
def jG2 {n:Nat} {f:List (List Int)} (h:(cf n f).2=0):cf n f=(0,0)∧f.length<=24∧∀i,i<f.length->jfc n f i=0:=by
 unfold cf at h ⊢;split at h
 ·exact absurd (show(8:Int)=0 from h) (by omega)
 ·rename_i h24;rw[if_neg h24];cases hf:(zo f.length).findIdx? (fun i=>jfc n f i != 0)with
  |none =>
   refine⟨rfl,by omega,fun i hi=>?_⟩;rw[qk]at hf;simpa using hf i (qG.2 hi)
  |some i =>
   rw[hf]at h;have h:jfc n f i=0:=h;rw[qj]at hf;obtain⟨hlt,hp,_⟩:=hf;simp only[yB]at hp;rw[h]at hp;exact absurd hp (by decide)
def jDA {n:Nat} {f:List (List Int)} {i:Nat} (h:jfc n f i=0):(0<=fU f i∧fU f i<(n:Int))∧∀k,k<i->fU f k≠fU f i:=by
 unfold jfc at h;split at h
 ·omega
 ·rename_i h1;split at h
  ·omega
  ·rename_i h2;refine⟨?_,fun k hk e=>h2 (qQ.2 ⟨k,qG.2 hk,by simp[e]⟩)⟩;simp[inB]at h1;omega
def jv2 (f:List (List Int)) (block:Int) (u:Nat):Bool:=(zo f.length).any fun i=>fU f i==(u:Int)&&decide (fB f i<=block)
def jsl (f:List (List Int)) (block:Int) (u m:Nat):List Int:=((zo m).filter fun i=>fU f i==(u:Int)&&decide (fB f i<=block)).map fun _=>(u:Int)
def jcE (f:List (List Int)) (block:Int):Nat->List Int|0=>[]|u+1=>jcE f block u++jsl f block u f.length
def jDB (f:List (List Int)) (block:Int) (u k:Nat):jbm (jsl f block u f.length) k=(decide (k=u)&&jv2 f block u):=by
 unfold jbm jsl jv2;rw[List.any_map,jc,qQ];constructor
 ·rintro ⟨i,hi,e⟩;rw[List.mem_filter]at hi;rw[zm,qQ];exact⟨by simp at e;simp;omega,i,hi.1,hi.2⟩
 ·intro hh;rw[zm,qQ]at hh;obtain⟨h1,i,h2,h3⟩:=hh;exact⟨i,List.mem_filter.2 ⟨h2,h3⟩,by simp at h1;simp[h1]⟩
def jnN (f:List (List Int)) (block:Int) (k:Nat):∀u,jbm (jcE f block u) k=(decide (k<u)&&jv2 f block k)
 |0=>by simp[jcE,jbm]
 |u+1=>by
  have h1:jbm (jcE f block (u+1)) k=(jbm (jcE f block u) k||jbm (jsl f block u f.length) k):=by
   unfold jbm
   show List.any (jcE f block u++jsl f block u f.length) _=_
   rw[gZ]
  rw[h1,jnN f block k u,jDB]
  by_cases hk:k=u
  ·subst hk;simp
  ·by_cases h2:k<u
   ·simp[hk,h2,show k<u+1 by omega]
   ·simp[hk,h2,show ¬k<u+1 by omega]
def jx5 (nm:ByteArray) (od:List Int) (f:List (List Int)) (block:Int) (hn:g.length<1000) (hf:f.length<=24) (hz:∀i,i<f.length->jfc g.length f i=0) :
  ∃y,y40 nm g od f block=some y∧y.length=g.length∧(fun i=>y.getD i false)=jbm (jcE f block g.length):=by
 have key:∃y,jae (y33 f block) big ((0:Int),zi g.length false)=some y∧y.length=g.length∧(fun i=>y.getD i false)=jbm (jcE f block g.length):=by
  refine jmI (body:=y33 f block)
   (fun x=>∃k:Nat,k<=f.length∧x.1=(k:Int)∧x.2.length=g.length∧∀u:Nat,x.2.getD u false=(zo k).any fun i=>fU f i==(u:Int)&&decide (fB f i<=block))
   (fun x=>(f.length+1-x.1.toNat)) (fun y=>y.length=g.length∧(fun i=>y.getD i false)=jbm (jcE f block g.length)) (fun x hx=>?_) big ((0:Int),zi g.length false) ⟨0,by omega,rfl,by simp,fun u=>by
    simp only[za,List.getElem?_replicate];split<;>rfl⟩ (by have:big=18446744073709551616:=rfl;simp;omega)
  obtain⟨a,out⟩:=x;obtain⟨k,hk,h1,h2,h3⟩:=hx;obtain rfl:a=(k:Int):=h1;have h2:out.length=g.length:=h2
  by_cases hkn:k<f.length
  ·left;obtain⟨hr,hd⟩:=jDA (hz k hkn);obtain⟨v,hv⟩:∃v:Nat,fU f k=(v:Int):=⟨(fU f k).toNat,by omega⟩
   have e1:(f.getD k []).getD 0 0=(v:Int):=hv
   have hb:y33 f block ((k:Int),out)=some (.inl ((k:Int)+1,out.set v (decide (fB f k<=block)))):=by
    unfold y33;simp only[zg,e1];rw[if_pos (by omega),if_pos (by omega),if_pos hkn,if_pos (by omega),if_pos (by omega),jam (by omega)];rfl
   refine⟨_,hb,⟨k+1,by omega,by simp,by simp[h2],fun u=>?_⟩,by simp;omega⟩;have h3:∀u:Nat,out.getD u false=(zo k).any fun i=>fU f i==(u:Int)&&decide (fB f i<=block):=h3
   show(out.set v (decide (fB f k<=block))).getD u false=_
   rw[jaL _ _ _ _ _ (by omega),yf,gZ,<-h3 u]
   by_cases huv:v=u
   ·subst huv
    have h0:out.getD v false=false:=by
     rw[h3,xu];intro i hi;have:=hd i (qG.1 hi);rw[hv]at this;simp[this]
    rw[if_pos rfl,h0];simp[hv]
   ·rw[if_neg huv];have:(fU f k==(u:Int))=false:=by rw[hv,beq_eq_false_iff_ne];omega
    simp[this]
  ·right;refine⟨out,?_,h2,?_⟩
   ·unfold y33;rw[if_neg (by show ¬(k:Int)<_;omega)]
   ·obtain rfl:k=f.length:=by omega
    funext u;rw[jnN]
    by_cases hu:u<g.length
    ·rw[decide_eq_true hu,ki];exact h3 u
    ·rw[decide_eq_false hu,Bool.false_and];simp only[za];rw[zW (by omega)];rfl
 obtain⟨y,hy,hl,hp⟩:=key;refine⟨y,?_,hl,hp⟩;unfold y40;rw[if_pos (by omega),zg,hy];rfl
end Go.Sh
end

section
namespace Go.Sh
open Go Go.Proofs Go.RowKit Go.Sx Go.Sx06
variable {g:List (List NC)} {l:List Int}
structure Uk (g:List (List NC)) (i:Nat):Prop where
 kd:0<=nI g i 1∧nI g i 1<=4
 one:nI g i 1≠0->0<(nL g i 2).length
 al:(nL g i 3).length=(nL g i 2).length
 ga:nI g i 1=1->(nL g i 4).length=(nL g i 2).length
 six:(nL g i 2).length<=6
 alr:∀k,k<(nL g i 3).length->0<=(nL g i 3).getD k 0∧(nL g i 3).getD k 0<=64
 gar:∀k,k<(nL g i 4).length->-4000<=(nL g i 4).getD k 0∧(nL g i 4).getD k 0<=4000
 de:0<=nI g i 5∧nI g i 5<=64
 ca:jbc (nR g i 6)=0
 de0:nI g i 1≠2->nI g i 5=0
def jAn {l:List Int} {P:Int->Bool} (h:(l.any fun x=>!P x)=false):∀k,k<l.length->P (l.getD k 0)=true:=fun k hk=>by
 rw[xu]at h;have:=h (l.getD k 0) (by rw[jaC hk];exact qi hk);simpa using this
def jfd {n a b:Int}:inB n a b=true<->a<=n∧n<=b:=by
 unfold inB;rw[zm,decide_eq_true_eq,decide_eq_true_eq]
def Rg.unit (h:Rg g l) {i:Nat} (hi:i<g.length):Uk g i:=by
 have h:=h.ok i hi;unfold jbe at h;split at h
 ·exact absurd h (by decide)
 split at h
 ·exact absurd h (by decide)
 split at h
 ·exact absurd h (by decide)
 split at h
 ·exact absurd h (by decide)
 rename_i _ _ _ hk;split at h
 ·exact absurd h (by decide)
 rename_i hs;split at h
 ·exact absurd h (by decide)
 split at h
 ·exact absurd h (by decide)
 split at h
 ·exact absurd h (by decide)
 split at h
 ·exact absurd h (by decide)
 rename_i _ _ _ hr;have hk:inB (nI g i 1) 0 4=true:=by simpa using hk
 have hs:jd2 (nI g i 1) (nL g i 2).length (nL g i 3).length (nL g i 4).length=true:=by simpa using hs
 have hr:jbQ (nI g i 1) (nL g i 3) (nL g i 4) (nI g i 5)=true:=by simpa using hr
 rw[jfd]at hk;unfold jbQ at hr;simp only[zm,xL,qY,beq_iff_eq]at hr;obtain⟨⟨⟨r1,r2⟩,r3⟩,r4⟩:=hr
 have hshape:(nI g i 1≠0->0<(nL g i 2).length)∧(nL g i 3).length=(nL g i 2).length∧(nI g i 1=1->(nL g i 4).length=(nL g i 2).length)∧(nL g i 2).length<=6:=by
  unfold jd2 at hs;split at hs
  ·rename_i e;simp only[zm,beq_iff_eq,jfd]at hs e;refine⟨fun hc=>absurd e hc,by omega,fun hc=>by omega,by omega⟩
  ·split at hs
   ·simp only[zm,beq_iff_eq,jfd]at hs;exact⟨fun _=>by omega,by omega,fun _=>by omega,by omega⟩
   ·rename_i e1 e2;simp only[zm,beq_iff_eq,jfd]at hs e1 e2;exact⟨fun _=>by omega,by omega,fun hc=>absurd hc e2,by omega⟩
 refine⟨hk,hshape.1,hshape.2.1,hshape.2.2.1,hshape.2.2.2,fun k hk=>jfd.1 (jAn r1 k hk),fun k hk=>jfd.1 (jAn r2 k hk),jfd.1 r3,?_,fun hc=>r4.resolve_left hc⟩;split at h
 ·exact h
 ·split at h
  ·rename_i e
   have e:(nR g i 6)=[]:=by
    simp only[beq_iff_eq]at e;exact List.eq_nil_of_length_eq_zero (by omega)
   rw[e];rfl
  ·exact absurd h (by decide)
def atI (P:List (List Nat)) (G:List (List Int)) (u k:Int):Int :=if k<0 then fi ((P.getD u.toNat []).getD (128+k).toNat 0)else(G.getD u.toNat []).getD k.toNat 0
def PR (n:Nat) (P:List (List Nat)):Prop:=P.length=n∧∀i,i<n->(P.getD i []).length=128∧∀j,j<128->se ((P.getD i []).getD j 0)=0
def GR (n:Nat) (G:List (List Int)):Prop:=G.length=n∧∀i,i<n->(G.getD i []).length=32∧∀j,j<32->inR ((G.getD i []).getD j 0)
def gw (G:List (List Int)):List (List Nat):=G.map fun r=>r.map nf
def jnO (G:List (List Int)):(gw G).length=G.length:=by simp[gw]
def jx6 {G:List (List Int)} {i:Nat} (h:i<G.length):(gw G).getD i []=(G.getD i []).map nf:=by
 rw[jaC (by rw[jnO];exact h),jaC h];simp[gw]
def jeh {α U:Type} (f:α->U) {r:List α} {j:Nat} {d:U} (e:α) (h:j<r.length):(r.map f).getD j d=f (r.getD j e):=by
 rw[jaC (by simpa using h),jaC h];simp
def jnP (G:List (List Int)) (i:Nat) (r:List Int):(gw G).set i (r.map nf)=gw (G.set i r):=by
 unfold gw;rw[List.map_set]
def jie {n:Nat} {P:List (List Nat)} {G:List (List Int)} (hP:PR n P) (hG:GR n G) {u:Nat} {k:Int} (hu:u<n) (hk:-128<=k∧k<32):inR (atI P G (u:Int) k):=by
 unfold atI;rw[zg];split
 ·exact(jfb ((hP.2 u hu).2 _ (by omega))).2
 ·exact(hG.2 u hu).2 _ (by omega)
def jk4 {x:Int} (h:inR x):-16777216<x∧x<16777216:=by unfold inR at h;omega
def jGE {n:Nat} {P:List (List Nat)} {G:List (List Int)} (hP:PR n P) (hG:GR n G) {u:Nat} {k:Int} (hu:u<n) (hk:-128<=k∧k<32) (hn:n<1000):jkA P (gw G) (u:Int) k=some (atI P G (u:Int) k):=by
 obtain⟨p1,p2⟩:=hP.2 u hu;obtain⟨g1,g2⟩:=hG.2 u hu;have hPl:=hP.1;have hGl:=hG.1;unfold jkA atI;split
 ·have h2:=p2 (128+k).toNat (by omega);rw[if_pos (by omega),zg,if_pos (by omega),jam (by omega),if_pos (by omega),if_pos (by omega),if_pos (jfb h2).1];rfl
 ·have e:(gw G).getD u []=(G.getD u []).map nf:=jx6 (by omega);have hr:=g2 k.toNat (by omega);have hv:((gw G).getD u []).getD k.toNat 0=nf ((G.getD u []).getD k.toNat 0):=by rw[e,jeh nf 0 (by omega)]
  rw[if_pos (by rw[jnO];omega),if_pos (by omega),zg,if_pos (by rw[jnO];omega),yU,z7,hv,if_pos (show jcm .f32 .i64 (nf _)=true from (jxT (jk4 hr)).2)];exact congrArg some (jv0 (jk4 hr))
def jb4 (P:List (List Nat)) (G:List (List Int)) (u d:Int):List Int:=(zo 32).map fun x:Nat=>atI P G u ((x:Int)-d)
def jbs {α:Type} (f:Nat->α) {n k:Nat} {d:α} (h:k<n):((zo n).map f).getD k d=f k:=by
 rw[jaC (by simpa using h)];simp
def jqG {e:Nat} {r:List Int} (h:r.length=e):jeE e r=r:=by
 subst h;apply xF
 ·simp[jeE]
 ·intro i h1 h2;simp[jeE,h2]
def jx7 {f:Nat->Int} {i:Nat} (h:i<32) {A:List Int} (hA:A=(zo i).map f++zi (32-i) 0):(jeE 32 A).set i (f i)=(zo (i+1)).map f++zi (32-(i+1)) 0:=by
 have h2:32-i=(32-(i+1))+1:=by omega
 have hl:((zo i).map f).length=i:=by simp
 rw[hA,jqG (by simp;omega),h2,yP,yC _ _ (by omega),hl,yZ,List.set_cons_zero,yf,qO,qD];rfl
def jx8 {n:Nat} {P:List (List Nat)} {G:List (List Int)} (hP:PR n P) (hG:GR n G) (hn:n<1000) {fr al:List Int} {f u:Nat} {later:Int} (hf:f<fr.length) (ha:f<al.length) (hl:fr.length<1000) (hl2:al.length<1000)
  (hu:u<n) (he:fr.getD f 0=(u:Int)) (h1:0<=al.getD f 0∧al.getD f 0<=64) (h2:0<=later∧later<=64) :
  y21 P (gw G) fr al (f:Int) later=some (jb4 P G (u:Int) (al.getD f 0+later)):=by
 have hit:jae (y55 P (gw G) fr al (f:Int) later) big (0,[]++zi (32-0) 0)=some (jb4 P G (u:Int) (al.getD f 0+later)) :=
  jaD (body:=y55 P (gw G) fr al (f:Int) later) (fun i=>((i:Int),(zo i).map (fun x:Nat=>atI P G (u:Int) ((x:Int)-(al.getD f 0+later)))++zi (32-i) 0)) (k:=32) (fun i hi=>by
   unfold y55;dsimp only;rw[if_pos (by omega),if_pos (by omega),zg,if_pos hf,if_pos (by omega),if_pos ha,he,jam (x:=(i:Int)-al.getD f 0) (by omega),jam (by omega),jGE hP hG hu (by omega) hn,jac,if_pos (by omega),zg,if_pos (by omega),jam (by omega)];have e0:(0:Nat)+((0:Nat)+i*(1:Nat))=i:=by omega
   rw[e0,show(i:Int)-al.getD f 0-later=(i:Int)-(al.getD f 0+later) by omega,jx7 (f:=fun x:Nat=>atI P G (u:Int) ((x:Int)-(al.getD f 0+later))) hi rfl];rfl) (by
   unfold y55;dsimp only;rw[if_neg (by omega),yZ];simp[jb4]) (by omega)
 unfold y21
 change (jae (y55 P (gw G) fr al (f:Int) later) big (0,[]++zi (32-0) 0)).bind _=_
 rw[hit];rfl
def jif (P:List (List Nat)) (G:List (List Int)) (u d:Int):(jb4 P G u d).length=32:=by simp[jb4]
def jnQ {P:List (List Nat)} {G:List (List Int)} {u d:Int} {k:Nat} (h:k<32):(jb4 P G u d).getD k 0=atI P G u ((k:Int)-d):=jbs _ h
def ji7 {n:Nat} {P:List (List Nat)} {G:List (List Int)} (hP:PR n P) (hG:GR n G) {u:Nat} {d:Int} (hu:u<n) (hd:0<=d∧d<=128):∀k,k<32->inR ((jb4 P G (u:Int) d).getD k 0):=fun k hk=>by
 rw[jnQ hk];exact jie hP hG hu (by omega)
def jgB {r:List Int} (h:r.length=32):y85 r=some (r.map nf):=by
 have hit:jae (jmN r) big (0,[]++zi (32-0) 0)=some (r.map nf) :=
  jaD (body:=jmN r) (fun i=>((i:Int),(r.take i).map nf++zi (32-i) 0)) (k:=32) (fun i hi=>by
   unfold jmN;dsimp only;have hlen:((r.take i).map nf).length=i:=by simp;omega
   have hs:=jxZ (A:=(r.take i).map nf) (v:=nf (r.getD i 0)) (by omega);rw[hlen]at hs;rw[if_pos (by omega),if_pos (by omega),if_pos (by omega),zg,if_pos (by omega),jam (by omega)];have e0:(0:Nat)+((0:Nat)+i*(1:Nat))=i:=by omega
   rw[e0,show qE .f32 (r.getD i 0)=nf (r.getD i 0)from rfl,hs,jd3 (by omega) 0,qO];rfl) (by
   unfold jmN;dsimp only;rw[if_neg (by omega),<-h,x6,yZ];simp) (by omega)
 unfold y85;have hz:([]:List Nat)++zi (32-0) 0=Z32:=rfl;rw[hz]at hit
 change (jae (jmN r) big (0,Z32)).bind _=_
 rw[hit];rfl
end Go.Sh
end

section
namespace Go.Sh
open Go Go.Proofs Go.RowKit Go.Sx Go.Sx06
open Go.IntKind (wrap)
def jbt (P:List (List Nat)) (G:List (List Int)) (fr al ga:List Int):Nat->Nat->Int|0,_=>0|m+1,x=>jbt P G fr al ga m x+ga.getD m 0*atI P G (fr.getD m 0) ((x:Int)-al.getD m 0)
def rnI (n:Int):Int:=(2*n+1000)/2000
def clI (n:Int):Int:=max (-32767) (min 32767 n)
def jd4 (f:Nat->Int):Nat->Int|0=>0|i+1=>jd4 f i+if clI (rnI (f i))=rnI (f i)then 0 else 1
def jnR (P:List (List Nat)) (G:List (List Int)) (fr al ga:List Int):List Int:=(zo 32).map fun x=>clI (rnI (jbt P G fr al ga ga.length x))
def jk5 (f:Nat->Int):∀i:Nat,0<=jd4 f i∧jd4 f i<=i
 |0=>⟨yl _,yl _⟩
 |i+1=>by
  have:=jk5 f i;unfold jd4;split<;>omega
def jFH (n:Int):inR (clI n):=by unfold inR clI;omega
def jnS {α:Type} (f:Nat->α) {n i:Nat} (v:α):((zo n).map f).set i v=(zo n).map fun x=>if x=i then v else f x:=by
 apply xF
 ·simp
 ·intro j h1 h2;simp only[gQ,j7,yB]
  by_cases h:i=j
  ·subst h;simp
  ·rw[if_neg h,if_neg (fun e=>h e.symm)]
def jbA {α:Type} {f f':Nat->α} {n:Nat} (h:∀x,x<n->f x=f' x):(zo n).map f=(zo n).map f' :=qt fun x hx=>h x (qG.1 hx)
def jzx {n:Int} (hn:-4000000000000000000<=n∧n<=4000000000000000000):jmJ n 1000=some (rnI n):=by
 unfold jmJ rnI;rw[jam (x:=2*n) (by omega),jam (x:=2*n+1000) (by omega),show wrap xd ((2:Int)*1000)=2000 from by rw[jam (by omega)];rfl,if_pos (by omega),if_pos (by omega)];have h0:(0:Int)<2000:=by omega
 have hN:-8000000000001000000<=2*n+1000∧2*n+1000<=8000000000001000000:=by omega
 generalize 2*n+1000=N at *
 have h1:=jpE (n:=N) h0;rw[jam (x:=N.tdiv 2000) (by omega)];split
 ·rename_i h;rw[jam (by omega),juW h0 h]
 ·rename_i h;rw[juX h0 h]
section
variable {n:Nat} {P:List (List Nat)} {G:List (List Int)} {fr al ga:List Int}
structure Sk6 (n:Nat) (fr al ga:List Int):Prop where
 lal:al.length=fr.length
 lga:ga.length=fr.length
 six:fr.length<=6
 rfr:∀k,k<fr.length->∃u:Nat,u<n∧fr.getD k 0=(u:Int)
 alr:∀k,k<al.length->0<=al.getD k 0∧al.getD k 0<=64
 gar:∀k,k<ga.length->-4000<=ga.getD k 0∧ga.getD k 0<=4000
def jsm (hP:PR n P) (hG:GR n G) (hs:Sk6 n fr al ga) {m x:Nat} (hm:m<ga.length) (hx:x<32):-131068000<=ga.getD m 0*atI P G (fr.getD m 0) ((x:Int)-al.getD m 0)∧ga.getD m 0*atI P G (fr.getD m 0) ((x:Int)-al.getD m 0)<=131068000:=by
 have h1:=hs.lga;have h2:=hs.lal;obtain⟨u,hu,he⟩:=hs.rfr m (by omega);have h3:=hs.alr m (by omega);have h4:=hs.gar m hm;rw[he];have h5:=jie hP hG hu (k:=(x:Int)-al.getD m 0) (by omega);have:=jtS (a:=4000) (b:=32767) (by decide) (by decide) h4 h5;omega
def jgC (hP:PR n P) (hG:GR n G) (hs:Sk6 n fr al ga) {x:Nat} (hx:x<32):∀m,m<=ga.length->-(m*131068000:Int)<=jbt P G fr al ga m x∧jbt P G fr al ga m x<=m*131068000
 |0,_=>⟨by simp[jbt],by simp[jbt]⟩
 |m+1,hm=>by
  have h1:=jgC hP hG hs hx m (by omega);have h2:=jsm hP hG hs (m:=m) (x:=x) (by omega) hx;unfold jbt
  push_cast
  omega
def jG3 (hP:PR n P) (hG:GR n G) (hs:Sk6 n fr al ga) {m:Nat} (hm:m<ga.length) {u:Nat} (hu:u<n) (he:fr.getD m 0=(u:Int)) (y:List Int) :
  jae (jsX ga ((m:Int),y) (jb4 P G (u:Int) (al.getD m 0+0))) big (0,(zo 32).map fun x=>jbt P G fr al ga m x)=some ((zo 32).map fun x=>jbt P G fr al ga (m+1) x):=by
 have h1:=hs.lga;have h6:=hs.six;have e0:((zo 32).map fun x=>jbt P G fr al ga m x)=(zo 32).map fun x=>if x<0 then jbt P G fr al ga (m+1) x else jbt P G fr al ga m x:=jbA fun x _=>by rw[if_neg (by omega)]
 rw[e0]
 exact jaD (body:=jsX ga ((m:Int),y) (jb4 P G (u:Int) (al.getD m 0+0))) (fun i=>((i:Int),(zo 32).map fun x=>if x<i then jbt P G fr al ga (m+1) x else jbt P G fr al ga m x)) (k:=32) (fun i hi=>by
  unfold jsX;have ei:(0:Nat)+((0:Nat)+i*(1:Nat))=i:=by omega
  have ht:=jsm hP hG hs hm hi;have hr:=jgC hP hG hs hi m (by omega);have hr2:=jgC hP hG hs hi (m+1) (by omega);dsimp only;rw[if_pos (by omega),if_pos (by omega),if_pos (by omega),zg,ei,if_pos hi,if_pos (by omega),if_pos hi,zg,jam (x:=(i:Int)+1) (by omega),jqG (by simp),jbs _ hi,if_neg (by omega),jnQ hi,Int.add_zero];rw[he]at ht;rw[jam (x:=ga.getD m 0*_) (by omega)];have es:jbt P G fr al ga m i+ga.getD m 0*atI P G (u:Int) ((i:Int)-al.getD m 0)=jbt P G fr al ga (m+1) i:=by rw[<-he];rfl
  rw[es,jam (by push_cast at hr2;omega),jnS]
  congr 3
  refine jbA fun x hx=>?_
  by_cases hxi:x=i
  ·subst hxi;rw[if_pos rfl,if_pos (by omega)]
  ·rw[if_neg hxi]
   by_cases hlt:x<i
   ·rw[if_pos hlt,if_pos (by omega)]
   ·rw[if_neg hlt,if_neg (by omega)]) (by
  unfold jsX;dsimp only;rw[if_neg (by omega)];rfl) (by omega)
def jG4 {f:Nat->Int} (hf:∀x,x<32->-4000000000000000000<=f x∧f x<=4000000000000000000) :
  jae (jp9 ((zo 32).map f)) big (0,0,(zo 32).map f)=some (jd4 f 32,(zo 32).map fun x=>clI (rnI (f x))):=by
 have e0:((zo 32).map f)=(zo 32).map fun x=>if x<0 then clI (rnI (f x))else f x:=jbA fun x _=>by rw[if_neg (by omega)]
 have key:∀i,i<32->jp9 ((zo 32).map f) (jd4 f i,(i:Int),(zo 32).map fun x=>if x<i then clI (rnI (f x))else f x)=some (.inl (jd4 f (i+1),((i+1:Nat):Int),(zo 32).map fun x=>if x<i+1 then clI (rnI (f x))else f x)):=fun i hi=>by
  unfold jp9;have ei:(0:Nat)+((0:Nat)+i*(1:Nat))=i:=by omega
  have hc:=jk5 f i;dsimp only;rw[if_pos (by omega),if_pos (by omega),zg,jbs _ hi,jzx (hf i hi),jac,if_pos (by omega),ei,if_pos hi,if_pos (by omega),if_pos hi,jqG (by simp),jqF,jnS,jbs _ hi,if_pos rfl,jam (x:=(i:Int)+1) (by omega),jam (x:=jd4 f i+1) (by omega)]
  have er:((zo 32).map fun x=>if x=i then max (-32767) (min 32767 (rnI (f i)))else if x<i then clI (rnI (f x))else f x)=(zo 32).map fun x=>if x<i+1 then clI (rnI (f x))else f x:=jbA fun x hx=>by
   by_cases hxi:x=i
   ·subst hxi;rw[if_pos rfl,if_pos (by omega)];rfl
   ·rw[if_neg hxi]
    by_cases hlt:x<i
    ·rw[if_pos hlt,if_pos (by omega)]
    ·rw[if_neg hlt,if_neg (by omega)]
  rw[er]
  show(if(clI (rnI (f i))!=rnI (f i))=true then _ else _)=_
  rw[show jd4 f (i+1)=jd4 f i+if clI (rnI (f i))=rnI (f i)then 0 else 1 from rfl]
  by_cases hz:clI (rnI (f i))=rnI (f i)
  ·rw[if_neg (by simpa using hz),if_pos hz,Int.add_zero];rfl
  ·rw[if_pos (by simpa using hz),if_neg hz];rfl
 have hit:=jaD (body:=jp9 ((zo 32).map f)) (fun i=>(jd4 f i,(i:Int),(zo 32).map fun x=>if x<i then clI (rnI (f x))else f x)) (y:=(jd4 f 32,(zo 32).map fun x=>clI (rnI (f x)))) (k:=32) (fun i hi=>key i hi) (by
  unfold jp9;dsimp only;rw[if_neg (by omega)];rfl) (by omega)
 have e1:((0:Int),(0:Int),(zo 32).map f)=(jd4 f 0,((0:Nat):Int),(zo 32).map fun x=>if x<0 then clI (rnI (f x))else f x):=by rw[<-e0];rfl
 rw[e1];exact hit
def jIg (hP:PR n P) (hG:GR n G) (hn:n<1000) (hs:Sk6 n fr al ga) :
  jkB P (gw G) fr al ga=some ((jnR P G fr al ga).map nf,jd4 (fun x=>jbt P G fr al ga ga.length x) 32):=by
 have h1:=hs.lga;have h2:=hs.lal;have h6:=hs.six
 have key:∀m,m<ga.length->y59 P (gw G) fr al ga ((m:Int),(zo 32).map fun x=>jbt P G fr al ga m x)=some (.inl (((m+1:Nat):Int),(zo 32).map fun x=>jbt P G fr al ga (m+1) x)):=fun m hm=>by
  obtain⟨u,hu,he⟩:=hs.rfr m (by omega);have h3:=hs.alr m (by omega);unfold y59;dsimp only;rw[if_pos (by omega),if_pos (by omega),zg,if_pos hm,jx8 hP hG hn (by omega) (by omega) (by omega) (by omega) hu he h3 ⟨yl 0,by omega⟩,jac,jG3 hP hG hs hm hu he,jac];unfold jeN;dsimp only;rw[jam (by omega)];rfl
 have hit:=jaD (body:=y59 P (gw G) fr al ga) (fun m=>((m:Int),(zo 32).map fun x=>jbt P G fr al ga m x)) (y:=(zo 32).map fun x=>jbt P G fr al ga ga.length x) (k:=ga.length) key (by
  unfold y59;dsimp only;rw[if_neg (by omega)]) (by omega)
 have hit2:=jG4 (f:=fun x=>jbt P G fr al ga ga.length x) (fun x hx=>by
  have:=jgC hP hG hs hx ga.length (zq _);omega)
 have hz:((zo 32).map fun x=>jbt P G fr al ga 0 x)=zi 32 0:=rfl;unfold jkB;have hit':jae (y59 P (gw G) fr al ga) big (0,zi 32 0)=some ((zo 32).map fun x=>jbt P G fr al ga ga.length x):=hit
 change (jae (y59 P (gw G) fr al ga) big (0,zi 32 0)).bind _=_
 rw[hit',jac];unfold y213;rw[hit2,jac];unfold jeO;rw[jgB (by simp),jac];rfl
end
end Go.Sh
end

section
namespace Go.Sh
open Go Go.Proofs Go.RowKit Go.Sx Go.Sx06
variable {g:List (List NC)} {l:List Int}
def jhx (g:List (List NC)) (kind:Int) (m:Nat):List Int:=((zo m).filter fun i=>nI g i 1==kind).map fun(i:Nat)=>(i:Int)
def jaB (g:List (List NC)) (kind:Int):List Int:=jhx g kind g.length
def jDC (g:List (List NC)) (kind:Int) (m:Nat):jhx g kind (m+1)=if(nI g m 1==kind)=true then jhx g kind m++[(m:Int)]else jhx g kind m:=by
 unfold jhx;rw[yf,List.filter_append];cases hw:nI g m 1==kind<;>simp[hw]
def jdy (g:List (List NC)) (kind:Int) (m:Nat):(jhx g kind m).length<=m:=by
 unfold jhx;rw[qr];exact Nat.le_trans (List.length_filter_le _ _) (by simp)
def jjU (hn:g.length<1000) (kind:Int):y6 g kind=some (jaB g kind):=by
 have hit:jae (y48 g kind) big (0,[])=some (jaB g kind):=jaD (body:=y48 g kind) (fun i=>((i:Int),jhx g kind i)) (k:=g.length) (fun i hi=>by
  have hl:=jdy g kind i;unfold y48;dsimp only;rw[if_pos (by omega),if_pos (by omega),zg,if_pos hi,jDC]
  by_cases h:(nI g i 1==kind)=true
  ·rw[if_pos h,if_pos h,if_pos (by simp only[zC,qa];omega),jam (by omega)];rfl
  ·rw[if_neg h,if_neg h,jam (by omega)];rfl) (by
  unfold y48;dsimp only;rw[if_neg (by omega)];rfl) (by omega)
 unfold y6;rw[hit];rfl
def jG5 {kind x:Int} (h:x∈jaB g kind):∃u:Nat,u<g.length∧x=(u:Int)∧nI g u 1=kind:=by
 unfold jaB jhx at h;obtain⟨u,hu,rfl⟩:=qm.1 h;rw[List.mem_filter,qG,beq_iff_eq]at hu;exact⟨u,hu.1,rfl,hu.2⟩
def jG6 {u:Nat} (h:u<g.length):(u:Int)∈jaB g (nI g u 1):=by
 unfold jaB jhx;refine qm.2 ⟨u,?_,rfl⟩;rw[List.mem_filter,qG,beq_iff_eq];exact⟨h,rfl⟩
def jot {kind:Int} {k:Nat} (h:k<(jaB g kind).length):∃u:Nat,u<g.length∧(jaB g kind).getD k 0=(u:Int)∧nI g u 1=kind:=by
 rw[jaC h];exact jG5 (qi h)
def idxE (s:List Int) (v:Int) (hl:s.length<1000):y39 s v=some (match s.findIdx? (fun x=>v==x)with|some j=>(j:Int)|none=>-1):=by
 unfold y39
 rw[ja0 (body:=y24 s v) s 0 (fun x=>v==x) (fun i=>.inl (i:Int)) (.inr ()) (by omega) (fun i hi hp=>?_) (fun i hi hp=>?_) (by
  unfold y24;rw[if_neg (by omega)])]
 ·cases s.findIdx? (fun x=>v==x)<;>rfl
 ·unfold y24;simp only[zg];rw[if_pos (by omega),if_pos (by omega),if_pos hi,if_pos hp]
 ·unfold y24;simp only[zg];rw[if_pos (by omega),if_pos (by omega),if_pos hi,if_neg (by rw[hp];exact qB),jam (by omega)]
def chI (g:List (List NC)) (i:Nat):Nat:=((jaB g (nI g i 1)).findIdx? fun x=>(i:Int)==x).getD 0
def jk6 (hn:g.length<1000) {i:Nat} (hi:i<g.length):y22 g (i:Int)=some (chI g i:Int)∧chI g i<(jaB g (nI g i 1)).length:=by
 have hl:=jdy g (nI g i 1) g.length;have hlen:(jaB g (nI g i 1)).length<1000:=by unfold jaB;omega
 unfold y22 chI;rw[if_pos (by omega),zg,if_pos hi,jjU hn,jac,idxE _ _ hlen,jac];have hm:=jG6 hi;cases hf:(jaB g (nI g i 1)).findIdx? fun x=>(i:Int)==x with
 |none =>
  rw[qk]at hf;have:=hf _ hm;simp at this
 |some j =>
  rw[qj]at hf;exact⟨rfl,hf.1⟩
def BR (g:List (List NC)) (B:List (List Nat)):Prop:=B.length=(jaB g 0).length∧∀c,c<B.length->(B.getD c []).length=32∧∀j,j<32->se ((B.getD c []).getD j 0)=0
def FR (g:List (List NC)) (fs:List (List (List Int))):Prop:=fs.length=g.length∧∀i,i<g.length->(csS (nR g i 6) (fs.getD i [])).2=0
def jx9 {α U:Type} (f:α->U) {r:List α} {n:Nat} (d:α) (h:r.length=n):r.map f=(zo n).map fun j=>f (r.getD j d):=by
 subst h;apply xF
 ·simp
 ·intro j a b;have a':j<r.length:=by simpa using a
  simp only[j7,yB];rw[jaC a']
def jFI {g:List (List NC)} {B:List (List Nat)} (hB:BR g B) {c:Nat} (hc:c<B.length):jae (y70 B (c:Int)) big (0,[]++zi (32-0) 0)=some ((B.getD c []).map fi):=by
 obtain⟨h1,h2⟩:=hB.2 c hc;have e0:((B.getD c []).map fi)=(zo 32).map fun j=>fi ((B.getD c []).getD j 0):=jx9 fi 0 h1;rw[e0]
 exact jaD (body:=y70 B (c:Int)) (fun i=>((i:Int),(zo i).map (fun j=>fi ((B.getD c []).getD j 0))++zi (32-i) 0)) (k:=32) (fun i hi=>by
  unfold y70;dsimp only;rw[if_pos (by omega),if_pos (by omega),zg,zg,if_pos (jfb (h2 i hi)).1,if_pos (by omega),if_pos (by omega),jam (by omega)];have ei:(0:Nat)+((0:Nat)+i*(1:Nat))=i:=by omega
  rw[ei,show f2i .f32 ((B.getD c []).getD i 0)=(fun j=>fi ((B.getD c []).getD j 0)) i from rfl,jx7 hi rfl];rfl) (by
  unfold y70;dsimp only;rw[if_neg (by omega),yZ];simp) (by omega)
def jDD {c s:List (List Int)} (hl:s.length=c.length) (h:∀r∈s,jgc r=false):(csS c s).2=0:=by
 unfold csS;rw[if_neg (by omega)]
 have:s.findIdx? jgc=none:=by
  rw[qk];exact h
 rw[this]
def jgd (g:List (List NC)) (P:List (List Nat)) (fs:List (List (List Int))) (B:List (List Nat)) (G:List (List Int)) (i:Nat):List Int × List (List Int) × Int :=if nI g i 1=0 then((B.getD (chI g i) []).map fi,fs.getD i [],0)
 else if nI g i 1=1 then(jnR P G (nL g i 2) (nL g i 3) (nL g i 4),fs.getD i [],jd4 (fun x=>jbt P G (nL g i 2) (nL g i 3) (nL g i 4) (nL g i 4).length x) 32)
 else if nI g i 1=3 then
  (jb9 (jbz (nR g i 6) (fs.getD i []) (nR g i 6).length) (jb4 P G ((nL g i 2).getD 0 0) ((nL g i 3).getD 0 0)),(jb3 (jbz (nR g i 6) (fs.getD i []) (nR g i 6).length) (jb4 P G ((nL g i 2).getD 0 0) ((nL g i 3).getD 0 0))).map stU,jbi (jb3 (jbz (nR g i 6) (fs.getD i []) (nR g i 6).length) (jb4 P G ((nL g i 2).getD 0 0) ((nL g i 3).getD 0 0))))
 else(jb4 P G ((nL g i 2).getD 0 0) ((nL g i 3).getD 0 0+nI g i 5),fs.getD i [],0)
def jco (g:List (List NC)) (P:List (List Nat)) (fs:List (List (List Int))) (B:List (List Nat)) (who:List Int) (i:Nat) (G:List (List Int)) (A:List (List (List Int))) (C:List Int):List (List Int) × List (List (List Int)) × List Int :=if who.getD i 0=-1 then(G,A.set i (fs.getD i []),C)
 else if who.getD i 0≠(i:Int)then(G.set i (G.getD (who.getD i 0).toNat []),A.set i (fs.getD i []),C)
 else(G.set i (jgd g P fs B G i).1,A.set i (jgd g P fs B G i).2.1,if nI g i 1=1∨nI g i 1=3 then C.set i (jgd g P fs B G i).2.2 else C)
def jpG {k:Int}:∀us:List (List Int),(∀u∈us,jk0 k u)->0<=jbi us∧jbi us<=us.length*k
 |[],_=>by simp[jbi]
 |u::us,h=>by
  have h1:=jpG us fun v hv=>h v (zw _ hv);obtain⟨_,_,_,h0,h9⟩:=h u zy;unfold jbi
  have e:((u::us).length:Int)*k=us.length*k+k:=by
   rw[zC,Int.natCast_add,Int.add_mul];omega
  rw[e];omega
def Rg.six (h:Rg g l) {i:Nat} (hi:i<g.length) (h1:nI g i 1=1):Sk6 g.length (nL g i 2) (nL g i 3) (nL g i 4) :=have hu:=h.unit hi
 ⟨hu.al,hu.ga h1,hu.six,jhw h hi,hu.alr,hu.gar⟩
def jG7 {k:Int} {u:List Int} (h:jk0 k u):jgc (stU u)=false:=by
 obtain⟨_,_,hs,_⟩:=h;unfold jgc stU;simp only[List.getD_cons_zero,List.getD_cons_succ];rw[decide_eq_true (show inR (u.getD 5 0)from hs 5 (by decide) (by decide)),decide_eq_true (show inR (u.getD 6 0)from hs 6 (by decide) (by decide)),decide_eq_true (show inR (u.getD 7 0)from hs 7 (by decide) (by decide)),decide_eq_true (show inR (u.getD 8 0)from hs 8 (by decide) (by decide))];rfl
def jG8 {c s:List (List Int)} (hc:jbc c=0) (hs:(csS c s).2=0) {x:List Int} (hl:x.length=32) (hx:∀y∈x,inR y) :
  ((jb9 (jbz c s c.length) x).length=32∧∀y∈jb9 (jbz c s c.length) x,inR y)∧(csS c ((jb3 (jbz c s c.length) x).map stU)).2=0∧0<=jbi (jb3 (jbz c s c.length) x)∧jbi (jb3 (jbz c s c.length) x)<=200:=by
 have hok:=jAk hc hs;have hul:(jbz c s c.length).length=c.length:=ji2 _ _ _;have h6:=(jgL hc).1
 generalize jbz c s c.length=us at *
 have hend:=jos hok hx;have hr:=jpG _ hend;have hel:(jb3 us x).length=c.length:=by rw[jdN,hul]
 refine⟨⟨by rw[jhu,hl],jpD hx⟩,jDD (by rw[qr,hel]) fun r hr=>?_,?_⟩
 ·obtain⟨u,hu,rfl⟩:=qm.1 hr;exact jG7 (hend u hu)
 ·rw[hel,hl]at hr;refine⟨hr.1,Int.le_trans hr.2 ?_⟩;have:((32:Nat):Int)=32:=rfl;rw[this,Int.zero_add];omega
def jsn {x:List Int} {n:Nat} (hl:x.length=n) (h:∀k,k<n->inR (x.getD k 0)):∀y∈x,inR y:=fun y hy=>by
 obtain⟨k,hk,rfl⟩:=xj.1 hy;rw[<-jaC (d:=0) hk];exact h k (by omega)
def jBT {x:List Int} {n:Nat} (hl:x.length=n) (h:∀y∈x,inR y):∀k,k<n->inR (x.getD k 0):=fun k hk=>by
 rw[jaC (by omega)];exact h _ (qi _)
def jIh (h:Rg g l) {P:List (List Nat)} {fs:List (List (List Int))} {B:List (List Nat)} {G:List (List Int)} (hP:PR g.length P) (hF:FR g fs) (hB:BR g B) (hG:GR g.length G) {i:Nat} (hi:i<g.length) :
  ((jgd g P fs B G i).1.length=32∧∀j,j<32->inR ((jgd g P fs B G i).1.getD j 0))∧(csS (nR g i 6) (jgd g P fs B G i).2.1).2=0∧0<=(jgd g P fs B G i).2.2∧(jgd g P fs B G i).2.2<=200:=by
 have hu:=h.unit hi;have hfi:=hF.2 i hi;unfold jgd;split
 ·rename_i h0;obtain⟨_,hc⟩:=jk6 h.n hi;rw[h0]at hc;obtain⟨b1,b2⟩:=hB.2 (chI g i) (by rw[hB.1];exact hc);refine⟨⟨by simpa using b1,fun j hj=>?_⟩,hfi,yl 0,(by decide:(0:Int)<=200)⟩;rw[jeh fi 0 (by omega)];exact(jfb (b2 j hj)).2
 ·rename_i h0;have hone:=hu.one h0;have hal:=hu.al;obtain⟨v,hv,he⟩:=jhw h hi 0 hone;have ha0:=hu.alr 0 (by omega);split
  ·rename_i h1;refine⟨⟨by simp[jnR],fun j hj=>?_⟩,hfi,?_⟩
   ·unfold jnR;rw[jbs _ hj];exact jFH _
   ·have:=jk5 (fun x=>jbt P G (nL g i 2) (nL g i 3) (nL g i 4) (nL g i 4).length x) 32;dsimp only;omega
  ·split
   ·rename_i h1 h3;rw[he];have hr:=ji7 hP hG hv (d:=(nL g i 3).getD 0 0) (by omega);have hl:=jif P G (v:Int) ((nL g i 3).getD 0 0)
    generalize jb4 P G (v:Int) ((nL g i 3).getD 0 0)=x at *
    obtain⟨⟨f1,f2⟩,f3,f4⟩:=jG8 hu.ca hfi hl (jsn hl hr);exact⟨⟨f1,jBT f1 f2⟩,f3,f4⟩
   ·rename_i h1 h3;have hd:=hu.de;rw[he];exact⟨⟨jif _ _ _ _,ji7 hP hG hv (by omega)⟩,hfi,yl 0,(by decide:(0:Int)<=200)⟩
end Go.Sh
end

section
namespace Go.Sh
open Go Go.Proofs Go.RowKit Go.Sx
open Go.IntKind (wrap)
def jnT:List SV:=[.c (.p [.p [.d,.x (.st zS []),.r (.ints .i64 [])],.d,.x (.ff .f32 []),.x (.rr 4 []),.r (.frs .f32 32 []),.r (.ints .i64 []),.m,.m,.m]),.c (.p [.p [.d,.x (.st zS []),.r (.ints .i64 [])]])]
def jtW (u13:List (List NC)) (u12:List (List Nat)) (u16:List (List (List Int))) (u15:List (List Nat)) (u17:List Int) (u56:List Int) (x0:(Int × List (List Nat) × List (List (List Int)) × List Int)):Option ((Int × List (List Nat) × List (List (List Int)) × List Int) ⊕ (List (List Nat) × List (List (List Int)) × List Int)) :=
 if x0.1<(↑u56.length:Int)then if 0<=x0.1∧x0.1<(↑u56.length:Int)then
  if zf x0.1<zb u56 then
   ze (y78 u13 u12 u16 u15 u17 (za u56 x0.1.toNat (0:Int)) x0.2.1 x0.2.2.1 x0.2.2.2) fun r0 =>
   some (.inl ((wrap .i64 (x0.1+1),r0.1,r0.2.1,r0.2.2)))
  else none
  else none
 else some (.inr (x0.2.1,x0.2.2.1,x0.2.2.2))
def jk7 (u5:List (List Nat) × List (List (List Int)) × List Int):Option (List (List Nat) × List (List (List Int)) × List Int) :=some (u5.1,u5.2.1,u5.2.2)
def jcN (u13:List (List NC)) (u12:List (List Nat)) (u16:List (List (List Int))) (u15:List (List Nat)) (u17:List Int) (u56:List Int) (u11:List (List Nat)) (u18:List (List (List Int))) (u14:List Int):Option (List (List Nat) × List (List (List Int)) × List Int) :=ze (jae (jtW u13 u12 u16 u15 u17 u56) big (((0:Int),u11,u18,u14))) (jk7)
def jnU:List Lf->List Lf->Option GM|[.d (.s u22),.x (.st [.s,.i .i64,.ints .i64,.ints .i64,.ints .i64,.i .i64,.recs 5,.i .i64] u13),.r (.ints .i64 u23),.d (.i .i64 u20),.x (.ff .f32 u12),.x (.rr 4 u16),.r (.frs .f32 32 u15),.r (.ints .i64 u17),.d (.s u84),.x (.st [.s,.i .i64,.ints .i64,.ints .i64,.ints .i64,.i .i64,.recs 5,.i .i64] u85),.r (.ints .i64 u56)],[.r (.frs .f32 32 u11),.x (.rr 4 u18),.r (.ints .i64 u14)]=>some (.leaf (ok (jcN u13 u12 u16 u15 u17 u56 u11 u18 u14)) [.r (.frs .f32 32 ((val (jcN u13 u12 u16 u15 u17 u56 u11 u18 u14)).1)),.x (.rr 4 ((val (jcN u13 u12 u16 u15 u17 u56 u11 u18 u14)).2.1)),.r (.ints .i64 ((val (jcN u13 u12 u16 u15 u17 u56 u11 u18 u14)).2.2))] [])|_,_=>none
abbrev sp_118:jaa->jaa:=jap 118 false (jew jnT [(7,110),(8,158),(9,3)] jnU)
abbrev jso (u22:zY) (u13:List (List NC)) (u23:List Int) (u20:Int) (u12:List (List Nat)) (u16:List (List (List Int))) (u15:List (List Nat)) (u17:List Int) (u84:zY) (u85:List (List NC)) (u56:List Int) (u11:List (List Nat)) (u18:List (List (List Int))) (u14:List Int) (r:List (List Nat) × List (List (List Int)) × List Int):Lp ((Int × List (List Nat) × List (List (List Int)) × List Int) × Nat) ((Int × List (List Nat) × List (List (List Int)) × List Int)) ((List (List Nat) × List (List (List Int)) × List Int)) ((List (List Nat) × List (List (List Int)) × List Int)) (List (List Nat) × List (List (List Int)) × List Int) :=⟨fun z=>z.1,fun z=>z.2,fun z x n=>(x,n),fun z=>jtW u13 u12 u16 u15 u17 u56,fun z=>jk7,fun z=>top r,fun z=>0,[.c fun _=>0,.c fun _=>(↑u56.length:Int),.c fun vv=>vv.1.1,.c fun vv=>vv.1.2.1,.c fun vv=>vv.1.2.2.1,.c fun vv=>vv.1.2.2.2,.c fun _=>0,.c fun _=>u20,.c fun _=>u56,.c fun _=>u22,.c fun _=>u12,.c fun _=>u16,.c fun _=>u15,.c fun _=>u17,.c fun _=>u13,.c fun _=>u23]⟩
def jBU (u22:zY) (u13:List (List NC)) (u23:List Int) (u20:Int) (u12:List (List Nat)) (u16:List (List (List Int))) (u15:List (List Nat)) (u17:List Int) (u84:zY) (u85:List (List NC)) (u56:List Int) (u11:List (List Nat)) (u18:List (List (List Int))) (u14:List Int) (r:List (List Nat) × List (List (List Int)) × List Int):Sk (top r) (ze (jae (jtW u13 u12 u16 u15 u17 u56) big (((0:Int),u11,u18,u14))) (jk7)) :=
 .loop (jso u22 u13 u23 u20 u12 u16 u15 u17 u84 u85 u56 u11 u18 u14 r) (fun kk=>(((0:Int),u11,u18,u14),big)) fun z0 =>
 .br
 (.ob (.ob (.call (.next))))
 (.exit (.rc))
def jDE (u22:zY) (u13:List (List NC)) (u23:List Int) (u20:Int) (u12:List (List Nat)) (u16:List (List (List Int))) (u15:List (List Nat)) (u17:List Int) (u84:zY) (u85:List (List NC)) (u56:List Int) (u11:List (List Nat)) (u18:List (List (List Int))) (u14:List Int) (r:List (List Nat) × List (List (List Int)) × List Int):Sk (top r) (jcN u13 u12 u16 u15 u17 u56 u11 u18 u14) :=.obT (.obT (jBU u22 u13 u23 u20 u12 u16 u15 u17 u84 u85 u56 u11 u18 u14 r))
def jBV (u22:zY) (u13:List (List NC)) (u23:List Int) (u20:Int) (u12:List (List Nat)) (u16:List (List (List Int))) (u15:List (List Nat)) (u17:List Int) (u84:zY) (u85:List (List NC)) (u56:List Int) (u11:List (List Nat)) (u18:List (List (List Int))) (u14:List Int) (r:List (List Nat) × List (List (List Int)) × List Int) (h:ze (jcN u13 u12 u16 u15 u17 u56 u11 u18 u14) some=some r):runM [(7,110),(8,158),(9,3)] Tryz.f118 ((sp_103 sp0)) (fun gs id st=>match id with
 |0=>some ⟨(Int × List (List Nat) × List (List (List Int)) × List Int) × Nat,fun z=>⟨[(0,.w (.c (.p 10 0 1 0))),(8,.w (.c (.o 12))),(9,.w (.c (.d (.i .i64 ((↑u56.length:Int)))))),(10,.w (.c (.d (.i .i64 z.1.1))))],[(7,.row 110 (.frs .f32 32 z.1.2.1)),(8,.xrow 158 (XC.rr (4:Nat) z.1.2.2.1)),(9,.row 3 (.ints .i64 z.1.2.2.2)),(10,.ebox [.p 2 0 1 0,.d (.i .i64 u20),.o 3,.o 4,.o 5,.o 6,.o 7,.o 8,.o 9]),(12,.ext (.ints .i64 u56)),(2,.ebox [.d (.s u22),.o 0,.o 1]),(3,.xext (XC.ff .f32 u12)),(4,.xext (XC.rr (4:Nat) u16)),(5,.ext (.frs .f32 32 u15)),(6,.ext (.ints .i64 u17)),(0,.xext (XC.st zS u13)),(1,.ext (.ints .i64 u23))],15⟩,fun z=>(jso u22 u13 u23 u20 u12 u16 u15 u17 u84 u85 u56 u11 u18 u14 r).inv z,fun z=>z.2⟩
 |_=>none) (jaK jnT [.d (.s u22),.x (.st zS u13),.r (.ints .i64 u23),.d (.i .i64 u20),.x (.ff .f32 u12),.x (.rr 4 u16),.r (.frs .f32 32 u15),.r (.ints .i64 u17),.d (.s u84),.x (.st zS u85),.r (.ints .i64 u56)]) [.r (.frs .f32 32 u11),.x (.rr 4 u18),.r (.ints .i64 u14)] [.r (.frs .f32 32 r.1),.x (.rr 4 r.2.1),.r (.ints .i64 r.2.2)] [] :=
 Sk.vc (jDE u22 u13 u23 u20 u12 u16 u15 u17 u84 u85 u56 u11 u18 u14 r) (by kernel_rfl) h
def jBW:jaf Tryz.prog 118 false (jew jnT [(7,110),(8,158),(9,3)] jnU):=by
 refine jkW (sp:=(sp_103 sp0)) (fn:=Tryz.f118) (body:=bodyOf Tryz.f118) mixed (sp_103_ok jaj) Tryz.func118 (by kernel_rfl) (by kernel_rfl) fun ls ms t h ho b hb=>?_;unfold jnU at h;split at h
 ·rename_i u22 u13 u23 u20 u12 u16 u15 u17 u84 u85 u56 u11 u18 u14;cases h;obtain rfl:=jav hb;exact⟨zh (by kernel_rfl),_,_,jBV u22 u13 u23 u20 u12 u16 u15 u17 u84 u85 u56 u11 u18 u14 _ (jai ho)⟩
 ·cases h
def sp_118_ok {sp:jaa} (h:jab Tryz.prog sp):jab Tryz.prog (sp_118 sp):=jag jBW h
attribute [irreducible] jcN
end Go.Sh
end

section
namespace Go.Sh
open Go Go.Proofs Go.RowKit Go.Sx Go.Sx06
variable {g:List (List NC)} {l:List Int}
def jFJ {s:List (List Int)} (h:s.length<1000):jbb s=some s:=by
 unfold jbb;rw[if_pos (by omega)]
def WR (n:Nat) (who:List Int):Prop:=who.length=n∧∀i,i<n->who.getD i 0=-1∨∃u:Nat,u<n∧who.getD i 0=(u:Int)
def jIi (h:Rg g l) {fs:List (List (List Int))} (hF:FR g fs) {i:Nat} (hi:i<g.length):(fs.getD i []).length<1000:=by
 have h1:=(jsk (hF.2 i hi)).1;have h2:=(jgL (h.unit hi).ca).1;omega
def jG9 {r:List Int} (h:∀y∈r,inR y):jbR (r.map nf)=0:=jAj fun b hb=>by
 obtain⟨y,hy,rfl⟩:=qm.1 hb;rw[jv1 (jk4 (h y hy)),if_pos (h y hy)]
def jDF {r:List Int} (h:∀y∈r,inR y):(r.map nf).map fi=r:=by
 rw[xM]
 conv=>rhs;rw[<-List.map_id r]
 exact qt fun y hy=>jv0 (jk4 (h y hy))
def jBX {c s:List (List Int)} (hc:jbc c=0) (hs:(csS c s).2=0) {x:List Int} (hl:x.length=32) (hx:∀y∈x,inR y) :
  jdR c (x.map nf) s=some ((jb9 (jbz c s c.length) x).map nf,(jb3 (jbz c s c.length) x).map stU,jbi (jb3 (jbz c s c.length) x),0):=by
 have h6:=(jgL hc).1;have hsl:=(jsk hs).1
 have he:jfy c s (x.map nf)=0:=by
  unfold jfy;rw[if_neg (by omega),jG9 hx,if_neg (by omega),hs]
 rw[jIc (by omega) (by omega) (by simpa using hl),he,if_pos rfl,jDF hx]
section
variable {P:List (List Nat)} {fs:List (List (List Int))} {B:List (List Nat)} {who:List Int} {G:List (List Int)} {A:List (List (List Int))} {C:List Int}
def jHa (h:Rg g l) (hP:PR g.length P) (hF:FR g fs) (hB:BR g B) (hG:GR g.length G) (hw:WR g.length who) (hA:A.length=g.length) (hC:C.length=g.length) {i:Nat} (hi:i<g.length) :
  y78 g P fs B who (i:Int) (gw G) A C=some (gw (jco g P fs B who i G A C).1,(jco g P fs B who i G A C).2.1,(jco g P fs B who i G A C).2.2):=by
 have hn:=h.n;have hu:=h.unit hi;have hfl:=jIi h hF hi;have hF1:=hF.1;have hGl:=hG.1;have hw1:=hw.1;have hgl:=jnO G;have hrec:∀x:List (List Int),NC.toRecs (qg [NC.r (Cont.recs 4 x)] (NC.d (D.v zX)))=x:=fun x=>rfl;unfold y78;simp only[zg,hrec];rw[if_pos (by omega),if_pos hi,if_pos (by omega),if_pos (by omega),jFJ hfl,jac,if_pos (by omega),if_pos (by omega),if_pos (by omega),if_pos (by omega)];unfold jco
 by_cases w1:who.getD i 0=-1
 ·rw[if_pos (by rw[w1];rfl),if_pos w1]
 ·rw[if_neg (by simpa using w1),if_neg w1];obtain⟨u,hu2,hue⟩:=(hw.2 i hi).resolve_left w1
  by_cases w2:who.getD i 0=(i:Int)
  ·rw[if_neg (by rw[w2];simp),if_neg (show ¬(who.getD i 0≠(i:Int))from fun h=>h w2)];unfold jgd
   by_cases k0:nI g i 1=0
   ·obtain⟨c1,c2⟩:=jk6 hn hi;rw[k0]at c2;rw[if_pos (by rw[k0];rfl),if_pos k0,c1,jac,if_pos (by rw[hB.1];omega),zg,if_pos (by rw[hB.1];omega)];have hit:=jFI hB (c:=chI g i) (by rw[hB.1];exact c2)
    change (jae (y70 B (chI g i:Int)) big (0,[]++zi (32-0) 0)).bind _=_
    rw[hit,jac];have b1:=(hB.2 (chI g i) (by rw[hB.1];exact c2)).1;unfold y186;rw[jgB (by simpa using b1),jac,if_pos (by omega),zg,if_pos (by omega),jnP,hrec,if_neg (by omega)]
   ·rw[if_neg (by simpa using k0),if_neg k0];have hone:=hu.one k0;have hal:=hu.al;have h6:=hu.six;obtain⟨v,hv,he⟩:=jhw h hi 0 hone;have ha0:=hu.alr 0 (by omega);have hde:=hu.de;have htk:∀d:Int,0<=d∧d<=64->y21 P (gw G) (nL g i 2) (nL g i 3) 0 d=some (jb4 P G (v:Int) ((nL g i 3).getD 0 0+d)):=fun d hd=>jx8 (f:=0) hP hG hn hone (by omega) (by omega) (by omega) hv he ha0 hd
    by_cases k1:nI g i 1=1
    ·rw[if_pos (by rw[k1];rfl),if_pos k1,jIg hP hG hn (h.six hi k1),jac,if_pos (by omega),if_pos (by omega),if_pos (by omega),if_pos (by omega),jnP,if_pos (Or.inl k1)]
    ·rw[if_neg (by simpa using k1),if_neg k1]
     by_cases k3:nI g i 1=3
     ·rw[if_pos (by rw[k3];rfl),if_pos k3,htk 0 (by decide),jac,Int.add_zero];rw[he];have hr:=ji7 hP hG hv (d:=(nL g i 3).getD 0 0) (by omega);have hl:=jif P G (v:Int) ((nL g i 3).getD 0 0)
      generalize jb4 P G (v:Int) ((nL g i 3).getD 0 0)=x at *
      rw[jgB hl,jac,if_pos (by omega),if_pos (by omega),jBX hu.ca (hF.2 i hi) hl (jsn hl hr),jac,if_pos (by omega),if_pos (by omega),if_pos (by rw[jE];omega),if_pos (by rw[jE];omega),if_pos (by omega),if_pos (by omega),List.set_set,jnP,if_pos (Or.inr k3)]
     ·rw[if_neg (by simpa using k3),if_neg k3,htk _ hde,jac];rw[he,jgB (jif _ _ _ _),jac,if_pos (by omega),if_pos (by omega),jnP,if_neg (by omega)]
  ·rw[if_pos (by simpa using w2),if_pos w2,hue,zg,if_pos (by omega),if_pos (by omega),if_pos (by omega),if_pos (by omega),jx6 (by omega),jnP]
structure RI (g:List (List NC)) (G:List (List Int)) (A:List (List (List Int))) (C:List Int):Prop where
 gr:GR g.length G
 al:A.length=g.length
 cl:C.length=g.length
 cr:∀i,i<g.length->0<=C.getD i 0∧C.getD i 0<=200
def jDG {n:Nat} {G:List (List Int)} (hG:GR n G) {i:Nat} (hi:i<n) {r:List Int} (h1:r.length=32) (h2:∀j,j<32->inR (r.getD j 0)):GR n (G.set i r):=by
 have hl:=hG.1;refine⟨by simpa using hl,fun k hk=>?_⟩;rw[jaL _ _ _ _ _ (by omega)];split
 ·exact⟨h1,h2⟩
 ·exact hG.2 k hk
def jHb (h:Rg g l) (hP:PR g.length P) (hF:FR g fs) (hB:BR g B) (hw:WR g.length who) (hR:RI g G A C) {i:Nat} (hi:i<g.length) :
  RI g (jco g P fs B who i G A C).1 (jco g P fs B who i G A C).2.1 (jco g P fs B who i G A C).2.2 ∧
  (csS (nR g i 6) ((jco g P fs B who i G A C).2.1.getD i [])).2=0∧∀k,k≠i->(jco g P fs B who i G A C).2.1.getD k []=A.getD k []:=by
 obtain⟨hG,hA,hC,hCr⟩:=hR;obtain⟨o1,o2,o3⟩:=jIh h hP hF hB hG hi;have hGl:=hG.1
 have hset:∀s:List (List Int),(A.set i s).getD i []=s∧∀k,k≠i->(A.set i s).getD k []=A.getD k []:=fun s =>
  ⟨by rw[jaL _ _ _ _ _ (by omega),if_pos rfl],fun k hk=>by rw[jaL _ _ _ _ _ (by omega),if_neg (fun e=>hk e.symm)]⟩
 unfold jco;split
 ·exact⟨⟨hG,by simpa using hA,hC,hCr⟩,by rw[(hset _).1];exact hF.2 i hi,(hset _).2⟩
 ·rename_i w1;split
  ·obtain⟨u,hu,hue⟩:=(hw.2 i hi).resolve_left w1;rw[hue,zg];obtain⟨r1,r2⟩:=hG.2 u hu;exact⟨⟨jDG hG hi r1 r2,by simpa using hA,hC,hCr⟩,by rw[(hset _).1];exact hF.2 i hi,(hset _).2⟩
  ·refine⟨⟨jDG hG hi o1.1 o1.2,by simpa using hA,?_,fun k hk=>?_⟩,by rw[(hset _).1];exact o2,(hset _).2⟩
   ·split
    ·simpa using hC
    ·exact hC
   ·split
    ·rw[jaL _ _ _ _ _ (by omega)];split
     ·exact o3
     ·exact hCr k hk
    ·exact hCr k hk
def jaP (g:List (List NC)) (P:List (List Nat)) (fs:List (List (List Int))) (B:List (List Nat)) (who l:List Int):Nat->List (List Int) × List (List (List Int)) × List Int|0=>(zi g.length (zi 32 0),zi g.length [],zi g.length 0)|k+1=>jco g P fs B who (l.getD k 0).toNat (jaP g P fs B who l k).1 (jaP g P fs B who l k).2.1 (jaP g P fs B who l k).2.2
def jdz {α:Type} {n i:Nat} {x d:α} (h:i<n):(zi n x).getD i d=x:=by
 rw[jaC (by simpa using h)];simp
def jfe (h:Rg g l) (hP:PR g.length P) (hF:FR g fs) (hB:BR g B) (hw:WR g.length who):∀k,k<=g.length -> RI g (jaP g P fs B who l k).1 (jaP g P fs B who l k).2.1 (jaP g P fs B who l k).2.2 ∧ ∀j,j<k->(csS (nR g (l.getD j 0).toNat 6) ((jaP g P fs B who l k).2.1.getD (l.getD j 0).toNat [])).2=0
 |0,_=>⟨⟨⟨by simp[jaP],fun i hi=>⟨by rw[show(jaP g P fs B who l 0).1=zi g.length (zi 32 0)from rfl,jdz hi];simp,fun j hj=>by
   rw[show(jaP g P fs B who l 0).1=zi g.length (zi 32 0)from rfl,jdz hi,jdz hj];decide⟩⟩,by simp[jaP],by simp[jaP],fun i hi=>by
   rw[show(jaP g P fs B who l 0).2.2=zi g.length 0 from rfl,jdz hi];decide⟩,fun j hj=>absurd hj (by omega)⟩
 |k+1,hk=>by
  obtain⟨hR,ha⟩:=jfe h hP hF hB hw k (by omega);obtain⟨i,hi,e,_⟩:=h.at (j:=k) (by omega);obtain⟨w1,w2,w3⟩:=jHb h hP hF hB hw hR hi
  have hs:jaP g P fs B who l (k+1)=jco g P fs B who i (jaP g P fs B who l k).1 (jaP g P fs B who l k).2.1 (jaP g P fs B who l k).2.2:=by
   show jco g P fs B who (l.getD k 0).toNat _ _ _=_
   rw[e,zg]
  rw[hs];refine⟨w1,fun j hj=>?_⟩
  by_cases hjk:j=k
  ·subst hjk;rw[e,zg];exact w2
  ·obtain⟨i',hi',e',_⟩:=h.at (j:=j) (by omega);have hne:=jfJ h (j:=k) (j':=j) (by omega) (by omega) e e';have:=ha j (by omega);rw[e',zg]at this ⊢;rw[w3 i' (fun e=>hne e.symm)];exact this
def jHc (h:Rg g l) (hP:PR g.length P) (hF:FR g fs) (hB:BR g B) (hw:WR g.length who):FR g (jaP g P fs B who l g.length).2.1:=by
 obtain⟨hR,ha⟩:=jfe h hP hF hB hw g.length (zq _);refine⟨hR.al,fun i hi=>?_⟩;obtain⟨j,hj,e⟩:=h.surj hi;have:=ha j hj;rw[e,zg]at this;exact this
def jHd (h:Rg g l) (hP:PR g.length P) (hF:FR g fs) (hB:BR g B) (hw:WR g.length who) :
  jcN g P fs B who l (zi g.length Z32) (zi g.length []) (zi g.length 0) =
  some (gw (jaP g P fs B who l g.length).1,(jaP g P fs B who l g.length).2.1,(jaP g P fs B who l g.length).2.2):=by
 have hn:=h.n;have hL:=h.len
 have hit:=jaD (body:=jtW g P fs B who l) (fun k=>((k:Int),gw (jaP g P fs B who l k).1,(jaP g P fs B who l k).2.1,(jaP g P fs B who l k).2.2))
  (y:=(gw (jaP g P fs B who l g.length).1,(jaP g P fs B who l g.length).2.1,(jaP g P fs B who l g.length).2.2)) (k:=g.length) (fun k hk=>by
   obtain⟨hR,_⟩:=jfe h hP hF hB hw k (by omega);obtain⟨i,hi,e,_⟩:=h.at hk
   have hs:jaP g P fs B who l (k+1)=jco g P fs B who i (jaP g P fs B who l k).1 (jaP g P fs B who l k).2.1 (jaP g P fs B who l k).2.2:=by
    show jco g P fs B who (l.getD k 0).toNat _ _ _=_
    rw[e,zg]
   unfold jtW;dsimp only;rw[if_pos (by omega),if_pos (by omega),zg,if_pos (by omega),e,jHa h hP hF hB hR.gr hw hR.al hR.cl hi,jac,jam (by omega),hs];rfl) (by
   unfold jtW;dsimp only;rw[if_neg (by omega)]) (by omega)
 have hz:gw (zi g.length (zi 32 0))=zi g.length Z32:=by
  unfold gw;rw[List.map_replicate];rfl
 have e0:(((0:Nat):Int),gw (jaP g P fs B who l 0).1,(jaP g P fs B who l 0).2.1,(jaP g P fs B who l 0).2.2)=(0,zi g.length Z32,zi g.length [],zi g.length 0):=by
  rw[show(jaP g P fs B who l 0).1=zi g.length (zi 32 0)from rfl,hz];rfl
 rw[e0]at hit;unfold jcN;rw[hit];rfl
end
end Go.Sh
end

section
namespace Go.Sh
open Go Go.Proofs Go.RowKit Go.Sx
open Go.IntKind (wrap)
def ai {a b:Prop} (x:a) (y:b):a∧b:=⟨x,y⟩
def oR {α:Type} (a:α):Ob (a=a):=⟨rfl⟩
def y262:List SV:=[.c (.p [.d,.x (.st zS []),.r (.ints .i64 [])])]
def y84 (u6:List (List NC)) (x0:(Int × List (List Nat) × List (List (List Int)))):Option ((Int × List (List Nat) × List (List (List Int))) ⊕ (List (List Nat) × List (List (List Int)))) :=
 if x0.1<(↑u6.length:Int)then if 0<=x0.1∧x0.1<(↑u6.length:Int)then
  if zf x0.1<zb u6 then
   ze (y28 (nR u6 x0.1.toNat (6:Nat))) fun r0 =>
   if(zb x0.2.1+zb (xt (fun r=>NC.toFlts (qg r (NC.d (D.v zX)))) [[NC.r (Cont.floats .f32 (zi (128:Nat) (0:Nat)))]]))*24<=140737488355328∧zb x0.2.1+zb (xt (fun r=>NC.toFlts (qg r (NC.d (D.v zX)))) [[NC.r (Cont.floats .f32 (zi (128:Nat) (0:Nat)))]])<=9223372036854775807 then
   if(zb x0.2.2+zb (xt (fun r=>NC.toRecs (qg r (NC.d (D.v zX)))) [[NC.r (Cont.recs (4:Nat) r0.1)]]))*24<=140737488355328∧zb x0.2.2+zb (xt (fun r=>NC.toRecs (qg r (NC.d (D.v zX)))) [[NC.r (Cont.recs (4:Nat) r0.1)]])<=9223372036854775807 then some (.inl ((wrap .i64 (x0.1+1),x0.2.1++xt (fun r=>NC.toFlts (qg r (NC.d (D.v zX)))) [[NC.r (Cont.floats .f32 (zi (128:Nat) (0:Nat)))]],x0.2.2++xt (fun r=>NC.toRecs (qg r (NC.d (D.v zX)))) [[NC.r (Cont.recs (4:Nat) r0.1)]])))
   else none
   else none
  else none
  else none
 else some (.inr (x0.2.1,x0.2.2))
def y248 (u5:List (List Nat) × List (List (List Int))):Option (Int × List (List Nat) × List (List (List Int))) :=some (((0:Int),u5.1,u5.2))
def y10 (u6:List (List NC)):Option (Int × List (List Nat) × List (List (List Int))) :=ze (jae (y84 u6) big (((0:Int),[],[]))) (y248)
def y263:List Lf->Option GT|[.d (.s u9),.x (.st [.s,.i .i64,.ints .i64,.ints .i64,.ints .i64,.i .i64,.recs 5,.i .i64] u6),.r (.ints .i64 u7)]=>some (.leaf (ok (y10 u6)) [.s [.d (.i .i64 ((val (y10 u6)).1)),.x 157 (.ff .f32 ((val (y10 u6)).2.1)),.x 158 (.rr 4 ((val (y10 u6)).2.2))]])|_=>none
abbrev sp_120:jaa->jaa:=jap 120 true (jah y262 y263)
def st_s0 (u6:List (List NC)) (z0:(Int × List (List Nat) × List (List (List Int))) × Nat):St :=⟨[(2,.w (.c (.p 3 0 1 0))),(3,.w (.c (.p 4 0 1 0))),(6,.w (.c (.o 12))),(12,.w (.c (.o 0))),(13,.w (.c (.d (.i .i64 ((↑u6.length:Int)))))),(14,.w (.c (.d (.i .i64 z0.1.1))))],[(0,.xext (XC.st zS u6)),(12,.row 174 (.recs 4 ((val (y28 (nR u6 z0.1.1.toNat (6:Nat)))).1))),(4,.box 78 [.d (.i .i64 0),.o 5,.o 6]),(3,.box 78 [.d (.i .i64 0),.d (.v (qd none (0:Nat) (0:Nat))),.d (.v (qd none (0:Nat) (0:Nat)))]),(6,.xrow 158 (XC.rr (4:Nat) z0.1.2.2)),(5,.xrow 157 (XC.ff .f32 z0.1.2.1))],13⟩
def st_s1 (u6:List (List NC)) (z0:(Int × List (List Nat) × List (List (List Int))) × Nat):St :=⟨[(2,.w (.c (.p 3 0 1 0))),(3,.w (.c (.p 4 0 1 0))),(12,.w (.c (.o 0))),(13,.w (.c (.d (.i .i64 ((↑u6.length:Int)))))),(14,.w (.c (.d (.i .i64 z0.1.1))))],[(0,.xext (XC.st zS u6)),(4,.box 78 [.d (.i .i64 0),.o 15,.o 17]),(3,.box 78 [.d (.i .i64 0),.d (.v (qd none (0:Nat) (0:Nat))),.d (.v (qd none (0:Nat) (0:Nat)))]),(17,.xrow 158 (XC.rr (4:Nat) (z0.1.2.2++xt (fun r=>NC.toRecs (qg r (NC.d (D.v zX)))) [[NC.r (Cont.recs (4:Nat) (val (y28 (nR u6 z0.1.1.toNat (6:Nat)))).1)]]))),(15,.xrow 157 (XC.ff .f32 (z0.1.2.1++xt (fun r=>NC.toFlts (qg r (NC.d (D.v zX)))) [[NC.r (Cont.floats .f32 (zi (128:Nat) (0:Nat)))]])))],18⟩
def jDH (u6:List (List NC)) (z0:(Int × List (List Nat) × List (List (List Int))) × Nat):Prop:=ordA Tryz.prog (sp_130 sp0) 38 3 [0,5,7] ((je5 (bodyOf Tryz.f120)).getD #[]) (st_s0 u6 z0) (st_s1 u6 z0) ((((zb z0.1.2.2+zb (xt (fun r=>NC.toRecs (qg r (NC.d (D.v zX)))) [[NC.r (Cont.recs (4:Nat) (val (y28 (nR u6 z0.1.1.toNat (6:Nat)))).1)]]))*24<=140737488355328∧zb z0.1.2.2+zb (xt (fun r=>NC.toRecs (qg r (NC.d (D.v zX)))) [[NC.r (Cont.recs (4:Nat) (val (y28 (nR u6 z0.1.1.toNat (6:Nat)))).1)]])<=9223372036854775807)∧((zb z0.1.2.1+zb (xt (fun r=>NC.toFlts (qg r (NC.d (D.v zX)))) [[NC.r (Cont.floats .f32 (zi (128:Nat) (0:Nat)))]]))*24<=140737488355328∧zb z0.1.2.1+zb (xt (fun r=>NC.toFlts (qg r (NC.d (D.v zX)))) [[NC.r (Cont.floats .f32 (zi (128:Nat) (0:Nat)))]])<=9223372036854775807)∧((0:Int)<=128∧(128:Int)=(128:Int)∧(↑(4:Nat):Int)*128<=281474976710656∧(128:Int)<=9223372036854775807)∧True))
def jDI (u6:List (List NC)) (z0:(Int × List (List Nat) × List (List (List Int))) × Nat):jDH u6 z0:=fun h =>
 have t:=trivial;have e:Ob True:=⟨trivial⟩
 have q3:=oR ((0:Nat));have q4:=oR ((↑u6.length:Int));have q5:=oR (z0.1.1);have q6:=oR (u6);have q7:=oR ((0:Int));have q8:=oR (qd none (0:Nat) (0:Nat));have q9:=oR (z0.1.2.2++xt (fun r=>NC.toRecs (qg r (NC.d (D.v zX)))) [[NC.r (Cont.recs (4:Nat) (val (y28 (nR u6 z0.1.1.toNat (6:Nat)))).1)]]);have q10:=oR (z0.1.2.1++xt (fun r=>NC.toFlts (qg r (NC.d (D.v zX)))) [[NC.r (Cont.floats .f32 (zi (128:Nat) (0:Nat)))]]);have q0:Ob _:=⟨h.2.2.1⟩
 have q1:Ob _:=⟨h.2.1⟩
 have q2:Ob _:=⟨h.1⟩
 have s0:=ai (ai e (ai (ai e (ai (ai e (ai q3 (ai q3 (ai q4 (ai q5 (ai q6 (ai q7 (ai q7 (ai q8 (ai q8 (ai q9 (ai q10 t)))))))))))) t)) t)) t;have s1:=ai (ai e (ai (ai q2 s0) t)) t;have s2:=ai (ai q2 (ai (ai e s0) t)) s1;have s3:=ai e s2;have s4:=ai s3 (ai (ai e s1) t);have s5:=ai s3 t;have s6:=ai (ai e (ai (ai q1 s2) t)) t;have s7:=ai e (ai (ai q1 s4) s6);have s8:=ai e (ai (ai q1 s5) s6);have s9:=ai e s6;have s10:=ai s9 t;have s11:=ai s7 s10;have s12:=ai e s11;have s13:=ai s8 s10;have s14:=ai e s13;have s15:=ai (ai e (ai (ai q1 (ai (ai e s4) (ai (ai e s5) t))) (ai s7 (ai s8 t)))) (ai s12 (ai s14 t));have s16:=ai e (ai (ai q0 s6) t);have s17:=ai s16 t;have s18:=ai e (ai (ai q0 s11) s17);have s19:=ai e (ai (ai q0 s13) s17);have s20:=ai e s15;have s21:=ai s9 s10;have s22:=ai (ai e s21) t;have s23:=ai s12 (ai s12 s22);have s24:=ai s14 (ai s14 s22);have s25:=ai (ai e (ai s16 (ai (ai q0 s21) t))) t;have s26:=ai e (ai (ai e (ai (ai q0 s15) (ai s18 (ai s19 t)))) (ai (ai q0 (ai s20 (ai s20 (ai (ai e s23) (ai (ai e s24) t))))) (ai (ai e (ai s18 (ai (ai q0 s23) s25))) (ai (ai e (ai s19 (ai (ai q0 s24) s25))) t))));have s27:=ai e (ai e s26)
 @jK _ _ (by kernel_rfl) s27
abbrev jhy (u9:zY) (u6:List (List NC)) (u7:List Int) (r:Int × List (List Nat) × List (List (List Int))):Lp ((Int × List (List Nat) × List (List (List Int))) × Nat) ((Int × List (List Nat) × List (List (List Int)))) ((List (List Nat) × List (List (List Int)))) ((Int × List (List Nat) × List (List (List Int)))) (Int × List (List Nat) × List (List (List Int))) :=⟨fun z=>z.1,fun z=>z.2,fun z x n=>(x,n),fun z=>y84 u6,fun z=>y248,fun z=>top r,fun z=>0,[.c fun _=>0,.c fun _=>0,.c fun _=>(↑u6.length:Int),.c fun vv=>vv.1.1,.c fun _=>(0:Int),.c fun _=>qd none (0:Nat) (0:Nat),.c fun _=>qd none (0:Nat) (0:Nat),.c fun _=>(0:Int),.c fun _=>u6,.c fun vv=>vv.1.2.1,.c fun vv=>vv.1.2.2]⟩
def jqH (u9:zY) (u6:List (List NC)) (u7:List Int) (r:Int × List (List Nat) × List (List (List Int))):Sk (top r) (ze (jae (y84 u6) big (((0:Int),[],[]))) (y248)) :=
 .loopQ (jhy u9 u6 u7 r) [.c fun _=>0,.c fun _=>0,.c fun _=>(↑u6.length:Int),.c fun vv=>vv.1.1,.c fun _=>(0:Int),.c fun _=>qd none (0:Nat) (0:Nat),.c fun _=>qd none (0:Nat) (0:Nat),.c fun _=>(0:Int),.c fun _=>u6,.p fun vv=>zb vv.1.2.1=(0:Nat),.p fun vv=>zb vv.1.2.2=(0:Nat)] (fun kk=>(((0:Int),[],[]),big)) (fun z0 =>
 .br
 (.ob (.ob (.call (.obC ((0:Int)<=128∧(128:Int)=(128:Int)∧(512:Int)<=281474976710656∧(128:Int)<=9223372036854775807) (by decide) (.ob (.ob (.obC (jDH u6 z0) (jDI u6 z0) (.next))))))))
 (.exit (.obT (.rc)))) (fun _=>⟨rfl,⟨rfl,trivial⟩⟩)
def jsp (u9:zY) (u6:List (List NC)) (u7:List Int) (r:Int × List (List Nat) × List (List (List Int))):Sk (top r) (y10 u6) :=.obT (jqH u9 u6 u7 r)
def jqI (u9:zY) (u6:List (List NC)) (u7:List Int) (r:Int × List (List Nat) × List (List (List Int))) (h:ze (y10 u6) some=some r):runA 14 [2,3,6,12,13,14] [2,3,12,13,14] [0,5,7] Tryz.f120 ((sp_130 sp0)) (fun gs id st=>match id with
 |0=>some ⟨(Int × List (List Nat) × List (List (List Int))) × Nat,fun z=>⟨[(2,.w (.c (.p 3 0 1 0))),(3,.w (.c (.p 4 0 1 0))),(12,.w (.c (.o 0))),(13,.w (.c (.d (.i .i64 ((↑u6.length:Int)))))),(14,.w (.c (.d (.i .i64 z.1.1))))],[(3,.box 78 [.d (.i .i64 0),.d (.v (qd none (0:Nat) (0:Nat))),.d (.v (qd none (0:Nat) (0:Nat)))]),(4,.box 78 [.d (.i .i64 0),.o 5,.o 6]),(0,.xext (XC.st zS u6)),(5,.xrow 157 (XC.ff .f32 z.1.2.1)),(6,.xrow 158 (XC.rr (4:Nat) z.1.2.2))],7⟩,fun z=>(jhy u9 u6 u7 r).inv z,fun z=>z.2⟩
 |_=>none) (jaK y262 [.d (.s u9),.x (.st zS u6),.r (.ints .i64 u7)]) [.s [.d (.i .i64 r.1),.x 157 (.ff .f32 r.2.1),.x 158 (.rr 4 r.2.2)]] :=
 Sk.vc (jsp u9 u6 u7 r) (by kernel_rfl) h
def jqJ:jaf Tryz.prog 120 true (jah y262 y263):=by
 refine juN (drawn:=fun n0=>jsb Tryz.prog (sp_130 sp0) 38 n0 14 [2,3,6,12,13,14] [2,3,12,13,14] [0,5,7]) (fun B n0 I w=>jxE jGB mixed (sp_130_ok jaj) 14 [2,3,6,12,13,14] [2,3,12,13,14] [0,5,7]) (sp:=(sp_130 sp0)) (fn:=Tryz.f120) (body:=bodyOf Tryz.f120) (sp_130_ok jaj) Tryz.func120 (by kernel_rfl) (by kernel_rfl) fun ls t h ho b hb=>?_;unfold y263 at h;split at h
 ·rename_i u9 u6 u7;cases h;obtain rfl:=jav hb;exact⟨zh (by kernel_rfl),_,_,jqI u9 u6 u7 _ (jai ho)⟩
 ·cases h
def sp_120_ok {sp:jaa} (h:jab Tryz.prog sp):jab Tryz.prog (sp_120 sp):=jag jqJ h
attribute [irreducible] y10
end Go.Sh
end
