/- Part 6 of the proof of TopEqualLatency: the executor, the mirrors of the functions, the plain facts. -/
import Derived.Test.YtigliehhpdpaoaaGreatPE
import Derived.RangeFuncNested
import Derived.RangeFuncBound
import Derived.RangeFuncCalls
import Derived.RangeFuncLeaves
import Derived.OwnWalkIn
import Derived.TacticsInMore
import Derived.OrdersIn
import Derived.Carry
import Derived.ChangeArms
import Derived.OpenShut
import Derived.ChangeShapes
import Derived.ChangeSame
import Derived.SizedLaws
import Derived.WideShapes
set_option maxRecDepth 100000
set_option linter.unusedSectionVars false
set_option linter.unusedSimpArgs false
set_option linter.unusedVariables false
set_option linter.defProp false
open Bool renaming and_eq_true->zm,not_eq_true'->xL
open ByteArray renaming empty->xP,mk->qA
open Classical renaming byContradiction->yE,choose->jr,choose_spec->jW
open Eq renaming mp->jK
open Go renaming MemPlace->gc,Oper->qx,Operand->zU,Program->zQ,TypeId->qI,Value->zt,World->zs,execOp->qS,undef->zX,wp_mono->x7,wp_seq->fh
open Go.Act renaming put->jA
open Go.DataW renaming TrodAll->gG,trod->xB
open Go.FloatKind renaming nearest->qE
open Go.IntKind renaming bits->gW,i64->xd,max->fW,min->fV,signed->gp
open Go.RowKit renaming Below->x8
open Go.Value renaming cells->fS,slice->qd
open Ieee renaming Format->hZ
open Ieee.Format renaming order->qo
open Int renaming le_refl->yl,toNat->zf,toNat_natCast->zg
open List renaming all_eq_true->zx,any_cons->yO,any_eq_false->xu,any_eq_true->qQ,drop->yT,drop_drop->jV,eq_nil_of_length_eq_zero->z4,eq_of_mem_replicate->xA,ext_getElem->xF,findIdx?_eq_none_iff->qk,findIdx?_eq_some_iff_getElem->qj,flatMap_cons->xH,getD->za,getElem?_eq_getElem->zG,getElem?_eq_none->zW,getElem?_eq_some_iff->zA,getElem?_replicate->yr,getElem_mem->qi,headD->qg,length->zb,length_append->z9,length_cons->zC,length_map->qr,length_nil->qa,length_range->yq,length_replicate->yD,length_set->jE,length_take->qW,map->xt,map_append->qO,map_congr_left->qt,map_cons->zJ,mem_append_left->yn,mem_append_right->yg,mem_cons->qu,mem_cons_of_mem->zw,mem_cons_self->zy,mem_iff_getElem->xj,mem_map->qm,mem_range->qG,range->zo,range_succ->yf,replicate->zi,set->qv,take->yS,take_length->x6
open Nat renaming add_mul->qy,div_add_mod->yG,div_lt_of_lt_mul->ym,le_of_ble_eq_true->zh,le_refl->zq,mod_lt->x9,mul_comm->xN,not_lt_zero->xW,zero_le->xh,zero_mul->xV
open Option renaming bind->ze,getD->z5,map_some->qn
open Option.some renaming inj->ye,injEq->zk
open Sum renaming elim->qz
noncomputable section
section
namespace Go.Sh
open Go Go.Proofs Go.RowKit Go.Sx Go.Sx06
open Go.IntKind (wrap)
variable {g:List (List NC)} {l:List Int}
def jig (P:List (List Nat)) (G:List (List Int)) (n:Nat):List (List Nat):=(zo n).map fun u:Nat=>(zo 128).map fun k:Nat=>nf (atI P G (u:Int) ((k:Int)-96))
def jHe {n:Nat} {P:List (List Nat)} {G:List (List Int)} (hP:PR n P) (hG:GR n G):PR n (jig P G n) :=
 ⟨by simp[jig],fun i hi=>by
  unfold jig;rw[jbs _ hi];refine⟨by simp,fun j hj=>?_⟩;have hr:=jie hP hG hi (k:=(j:Int)-96) (by omega);rw[jbs _ hj,jv1 (jk4 hr),if_pos hr]⟩
def jBY {n:Nat} {P:List (List Nat)} {G:List (List Int)} (hP:PR n P) (hG:GR n G) (hn:n<1000) {u:Nat} (hu:u<n) (y:List (List Nat)) :
  jae (jtt P (gw G) ((u:Int),y)) big (-96,[])=some ((zo 128).map fun k:Nat=>nf (atI P G (u:Int) ((k:Int)-96))) :=
 jaD (body:=jtt P (gw G) ((u:Int),y)) (fun i=>((i:Int)-96,(zo i).map fun k:Nat=>nf (atI P G (u:Int) ((k:Int)-96)))) (k:=128) (fun i hi=>by
  unfold jtt;dsimp only;rw[if_pos (by omega),jGE hP hG hu (by omega) hn,jac,if_pos (by simp only[qr,yq,zC,qa];omega),jam (by omega),yf,qO];have e:(i:Int)-96+1=((i+1:Nat):Int)-96:=by omega
  rw[e];rfl) (by
  unfold jtt;dsimp only;rw[if_neg (by omega)]) (by omega)
def jDJ {P:List (List Nat)} {G:List (List Int)} (hP:PR g.length P) (hG:GR g.length G) (hn:g.length<1000) (b:Int) :
  y80 g b P (gw G)=some (wrap .i64 (b+1),jig P G g.length):=by
 have hrec:∀x:List Nat,xt (fun r=>NC.toFlts (qg r (NC.d (D.v zX)))) [[NC.r (Cont.floats FloatKind.f32 x)]]=[x]:=fun x=>rfl
 have hit:jae (y83 g P (gw G)) big (0,[])=some (jig P G g.length):=jaD (body:=y83 g P (gw G)) (fun i=>((i:Int),(zo i).map fun u:Nat=>(zo 128).map fun k:Nat=>nf (atI P G (u:Int) ((k:Int)-96)))) (k:=g.length) (fun i hi=>by
  unfold y83;dsimp only;rw[if_pos (by omega),jBY hP hG hn hi,jac];unfold y244;simp only[hrec];rw[if_pos (by simp only[qr,yq,zC,qa];omega),jam (by omega),@yf i,qO];rfl) (by
  unfold y83;dsimp only;rw[if_neg (by omega)];rfl) (by omega)
 unfold y80;rw[hit];rfl
def csN (C:List Int):Nat->Int|0=>0|m+1=>csN C m+C.getD m 0
def jih {n:Nat} {C:List Int} (h:∀i,i<n->0<=C.getD i 0∧C.getD i 0<=200):∀m,m<=n->0<=csN C m∧csN C m<=m*200
 |0,_=>by simp[csN]
 |m+1,hm=>by
  have h1:=jih h m (by omega);have h2:=h m (by omega);unfold csN
  push_cast
  omega
def jBZ {n:Nat} {C:List Int} (hn:n<1000) (hl:C.length=n) (h:∀i,i<n->0<=C.getD i 0∧C.getD i 0<=200):y69 C=some (csN C n):=by
 have hit:jae (y58 C) big (0,0)=some (csN C n):=jaD (body:=y58 C) (fun i=>(csN C i,(i:Int))) (k:=n) (fun i hi=>by
  have h1:=jih h i (by omega);have h2:=h i hi;unfold y58;dsimp only;rw[if_pos (by omega),if_pos (by omega),if_pos (by omega),zg,jam (by omega),jam (by omega)];rfl) (by
  unfold y58;dsimp only;rw[if_neg (by omega)]) (by omega)
 unfold y69;rw[hit];rfl
def jk8 (g:List (List NC)) (G:List (List Int)):List (List Nat):=(jaB g 4).map fun u=>(gw G).getD u.toNat []
def jFN {G:List (List Int)} (hG:GR g.length G) (hn:g.length<1000):y9 g (gw G)=some (jk8 g G):=by
 have hl:=jdy g 4 g.length;have hlen:(jaB g 4).length<1000:=by unfold jaB;omega
 have hgl:=jnO G;have hG1:=hG.1;unfold y9
 rw[jjU hn,jac,jkZ (body:=y88 (gw G) (jaB g 4)) (jaB g 4) 0 (fun u=>(gw G).getD u.toNat []) (by omega) (fun i hi o ho=>by
  obtain⟨u,hu,he,_⟩:=jot hi;unfold y88;dsimp only;rw[if_pos (by omega),if_pos (by omega),zg,if_pos hi,he,zg,if_pos (by omega),if_pos (by omega),if_pos (by simp only[zC,qa];omega),jam (by omega)]) (fun o=>by
  unfold y88;dsimp only;rw[if_neg (by omega)])]
 rfl
def jzy (h:Rg g l) (nm:ByteArray) (b:Int) {failed:List Bool} (hf:failed.length=g.length) :
  y18 nm g l b failed=some (b,jck g (fun i=>failed.getD i false),zi g.length Z32,zi g.length [],zi g.length 0):=by
 have hn:=h.n;unfold y18;rw[jx3 h nm failed hf,jac,if_pos (by omega),if_pos (by omega),if_pos (by omega),zg];rfl
def jsq (h:Rg g l) (fb:Nat->Bool):WR g.length (jck g fb) :=
 ⟨jAl g fb,fun i hi=>by
  rw[jtV g fb hi];obtain⟨j,hj,e⟩:=h.surj hi;rw[<-e];rcases jG1 h fb j hj with r|⟨_,u,_,hu,_,r,_⟩
  ·exact Or.inl r
  ·exact Or.inr ⟨u,hu,r⟩⟩
def fs0 (g:List (List NC)):List (List (List Int)):=(zo g.length).map fun i=>zi (nR g i 6).length [0,0,0,0]
def P0 (n:Nat):List (List Nat):=zi n (zi 128 0)
def jtX:se 0=0:=by
 have e:(0:Nat)=nf 0:=by decide
 rw[e,jv1 (by omega),if_pos (by decide)]
def P0_PR (n:Nat):PR n (P0 n):=⟨by simp[P0],fun i hi=>by
 unfold P0;rw[jdz hi];exact⟨by simp,fun j hj=>by rw[jdz hj];exact jtX⟩⟩
def jIj (g:List (List NC)):FR g (fs0 g):=⟨by simp[fs0],fun i hi=>by
 unfold fs0;rw[jbs _ hi];refine jDD (by simp) fun r hr=>?_;rw[xA hr];decide⟩
def jFO (h:Rg g l):y10 g=some (0,P0 g.length,fs0 g):=by
 have hn:=h.n;have hrec:∀x:List Nat,xt (fun r=>NC.toFlts (qg r (NC.d (D.v zX)))) [[NC.r (Cont.floats FloatKind.f32 x)]]=[x]:=fun x=>rfl;have hrec2:∀x:List (List Int),xt (fun r=>NC.toRecs (qg r (NC.d (D.v zX)))) [[NC.r (Cont.recs 4 x)]]=[x]:=fun x=>rfl
 have hit:jae (y84 g) big (0,[],[])=some (P0 g.length,fs0 g):=jaD (body:=y84 g) (fun i=>((i:Int),zi i (zi 128 0),(zo i).map fun i=>zi (nR g i 6).length [0,0,0,0])) (k:=g.length) (fun i hi=>by
  have hc:=(h.unit hi).ca;have h6:=(jgL hc).1;unfold y84;simp only[hrec,hrec2];rw[if_pos (by omega),if_pos (by omega),zg,if_pos hi,jzw (by omega) hc,jac,if_pos (by simp only[yD,zC,qa];omega),if_pos (by simp only[qr,yq,zC,qa];omega),jam (by omega),@yf i,qO,List.replicate_succ' (n:=i)];rfl) (by
  unfold y84;dsimp only;rw[if_neg (by omega)];rfl) (by omega)
 unfold y10;rw[hit];rfl
def jdA (g:List (List NC)) (l:List Int) (fb:Nat->Bool) (P:List (List Nat)) (fs:List (List (List Int))) (B:List (List Nat)):List (List Nat) × Int × List (List Nat) × List (List (List Int)) :=(jk8 g (jaP g P fs B (jck g fb) l g.length).1,csN (jaP g P fs B (jck g fb) l g.length).2.2 g.length,jig P (jaP g P fs B (jck g fb) l g.length).1 g.length,(jaP g P fs B (jck g fb) l g.length).2.1)
def jDK (h:Rg g l) (fb:Nat->Bool) {P:List (List Nat)} {fs:List (List (List Int))} {B:List (List Nat)} (hP:PR g.length P) (hF:FR g fs) (hB:BR g B) :
  PR g.length (jdA g l fb P fs B).2.2.1∧FR g (jdA g l fb P fs B).2.2.2∧(jdA g l fb P fs B).1.length=(jaB g 4).length∧0<=(jdA g l fb P fs B).2.1∧(jdA g l fb P fs B).2.1<=200000:=by
 have hn:=h.n;have hw:=jsq h fb;obtain⟨hR,_⟩:=jfe h hP hF hB hw g.length (zq _);have hc:=jih hR.cr g.length (zq _);exact⟨jHe hP hR.gr,jHc h hP hF hB hw,by simp[jdA,jk8],hc.1,by unfold jdA;dsimp only;omega⟩
end Go.Sh
end

section
namespace Go.Sh
open Go Go.Proofs Go.RowKit Go.Sx
open Go.IntKind (wrap)
def juY (f:Nat):Option Bool :=
 if(qo (FloatKind.format .f64) f f != some Ordering.eq)=true then some false
 else if(Option.isSome (hZ.sub (FloatKind.format .f64) f f))=true then
  if(qo (FloatKind.format .f64) (z5 (hZ.sub (FloatKind.format .f64) f f) (0:Nat)) (0:Nat)!=some Ordering.eq)=true then some false
  else if(qo (FloatKind.format .f64) f (14069741636278059008:Nat)==some Ordering.gt||qo (FloatKind.format .f64) f (14069741636278059008:Nat)==some Ordering.eq)=true then
   if(!(qo (FloatKind.format .f64) f (4846369599423283200:Nat)==some Ordering.lt||qo (FloatKind.format .f64) f (4846369599423283200:Nat)==some Ordering.eq))=true then some true
   else if jcm .f64 .i64 f=true then some (qo (FloatKind.format .f64) (qE .f64 (f2i .f64 f)) f==some Ordering.eq)
    else none
   else
   some true
  else
  some false
attribute [irreducible] juY
def jly (x_:Nat):Option Int :=
 if(jsN x_)=true then some (27:Int)
 else
  ze (juY (jv7 x_)) fun r0 =>
  if(!r0)=true then
  some (27:Int)
  else
  if(qo (FloatKind.format .f64) (jv7 x_) (13898108175187443712:Nat)==some Ordering.lt)=true then some (2:Int)
  else if(qo (FloatKind.format .f64) (jv7 x_) (4674736138332667904:Nat)==some Ordering.gt)=true then some (2:Int)
   else
   some (0:Int)
attribute [irreducible] jly
def joT (l:List Nat) (x0:Int):Option (Int ⊕ (Int ⊕ Unit)) :=
 if x0<(↑l.length:Int)then if 0<=x0∧x0<(↑l.length:Int)then
  if zf x0<zb l then
   ze (jly (za l x0.toNat (0:Nat))) fun r0 =>
   if(r0 != 0)=true then
   some (.inr (.inl r0))
   else
   some (.inl (wrap .i64 (x0+1)))
  else none
  else none
 else some (.inr ((.inr ())))
def jlZ (u5:Int):Option Int :=some u5
def jl0 (u10:Unit):Option Int :=some (0:Int)
def joU:(Int ⊕ Unit)->Option Int :=(qz (jlZ) (jl0))
def jjV (l:List Nat):Option Int :=ze (jae (joT l) big (0:Int)) (joU)
attribute [irreducible] jjV
def jqK (l:List (List Nat)) (x0:Int):Option (Int ⊕ (Int ⊕ Unit)) :=
 if x0<(↑l.length:Int)then if 0<=x0∧x0<(↑l.length:Int)then
  if zf x0<zb l∧zb (za l x0.toNat [])=(32:Nat)∧0<=z5 none (0:Int)∧z5 none 0<=z5 none (↑(32:Nat):Int)∧z5 none (↑(32:Nat):Int)<=(↑(32:Nat):Int)then
   ze (jjV (yS (32:Nat) (yT (0:Nat) (za l x0.toNat [])))) fun r0 =>
   if(r0 != 0)=true then
   some (.inr (.inl r0))
   else
   some (.inl (wrap .i64 (x0+1)))
  else none
  else none
 else some (.inr ((.inr ())))
def jnV (u5:Int):Option Int :=some u5
def jnW (u10:Unit):Option Int :=some (0:Int)
def jqL:(Int ⊕ Unit)->Option Int :=(qz (jnV) (jnW))
def jlz (l:List (List Nat)):Option Int :=ze (jae (jqK l) big (0:Int)) (jqL)
attribute [irreducible] jlz
def jhz:List SV:=[.a [.d,.x (.st zS [])],.c (.d)]
def jge (u1:List (List NC)) (u31:Int) (x0:(Int × List Int)):Option ((Int × List Int) ⊕ (List Int)) :=
 if x0.1<(↑u1.length:Int)then if 0<=x0.1∧x0.1<(↑u1.length:Int)then
  if zf x0.1<zb u1 then if(nI u1 x0.1.toNat (1:Nat)==u31)=true then
   if(zb x0.2+zb [x0.1])*8<=140737488355328∧zb x0.2+zb [x0.1]<=9223372036854775807 then some (.inl ((wrap .i64 (x0.1+1),x0.2++[x0.1])))
   else none
   else
   some (.inl ((wrap .i64 (x0.1+1),x0.2)))
  else none
  else none
 else some (.inr x0.2)
def jgf (u5:List Int):Option (List Int) :=some u5
def jk9 (u1:List (List NC)) (u31:Int):Option (List Int) :=ze (jae (jge u1 u31) big (((0:Int),[]))) (jgf)
def jhA:List Lf->Option GT|[.d (.s u4),.x (.st [.s,.i .i64,.ints .i64,.ints .i64,.ints .i64,.i .i64,.recs 5,.i .i64] u1),.d (.i .i64 u31)]=>some (.leaf (ok (jk9 u1 u31)) [.c (.row 3 (.ints .i64 ((val (jk9 u1 u31)))))])|_=>none
abbrev sp_121:jaa->jaa:=jap 121 true (jah jhz jhA)
abbrev jlA (u4:zY) (u1:List (List NC)) (u31:Int) (r:List Int):Lp ((Int × List Int) × Nat) (Int × List Int) (List Int) (List Int) (List Int) :=⟨fun z=>z.1,fun z=>z.2,fun z x n=>(x,n),fun z=>jge u1 u31,fun z=>jgf,fun z=>top r,fun z=>0,[.c fun _=>u31,.c fun _=>0,.c fun vv=>vv.1.1,.c fun _=>u4,.c fun vv=>vv.1.2,.c fun _=>u1]⟩
def jvL (u4:zY) (u1:List (List NC)) (u31:Int) (r:List Int):Sk (top r) (ze (jae (jge u1 u31) big (((0:Int),[]))) (jgf)) :=
 .loopQ (jlA u4 u1 u31 r) [.c fun _=>u31,.c fun _=>0,.c fun vv=>vv.1.1,.c fun _=>u4,.p fun vv=>zb vv.1.2=(0:Nat),.c fun _=>u1] (fun kk=>(((0:Int),[]),big)) (fun z0 =>
 .br
 (.ob (.ob (.brB
 (.ob (.next))
 (.next))))
 (.exit (.obT (.rc)))) (fun _=>⟨rfl,trivial⟩)
def jya (u4:zY) (u1:List (List NC)) (u31:Int) (r:List Int):Sk (top r) (jk9 u1 u31) :=jvL u4 u1 u31 r
def jvM (u4:zY) (u1:List (List NC)) (u31:Int) (r:List Int) (h:ze (jk9 u1 u31) some=some r):jaR Tryz.f121 (sp0) (fun gs id st=>match id with
 |0=>some ⟨(Int × List Int) × Nat,fun z=>⟨[(1,.w (.c (.d (.i .i64 u31)))),(2,.w (.c (.p 1 0 1 0))),(5,.w (.c (.o 2))),(6,.w (.c (.d (.i .i64 z.1.1))))],[(1,.box 24 [.d (.s u4),.o 0]),(2,.row 3 (.ints .i64 z.1.2)),(0,.xext (XC.st zS u1))],3⟩,fun z=>(jlA u4 u1 u31 r).inv z,fun z=>z.2⟩
 |_=>none) (jaK jhz [.d (.s u4),.x (.st zS u1),.d (.i .i64 u31)]) [.c (.row 3 (.ints .i64 r))] :=
 Sk.vc (jya u4 u1 u31 r) (by kernel_rfl) h
def jvN:jaf Tryz.prog 121 true (jah jhz jhA):=by
 refine jan (sp:=sp0) (fn:=Tryz.f121) (body:=bodyOf Tryz.f121) mixed jaj Tryz.func121 (by kernel_rfl) (by kernel_rfl) fun ls t h ho b hb=>?_;unfold jhA at h;split at h
 ·rename_i u4 u1 u31;cases h;obtain rfl:=jav hb;exact⟨zh (by kernel_rfl),_,_,jvM u4 u1 u31 _ (jai ho)⟩
 ·cases h
def sp_121_ok {sp:jaa} (h:jab Tryz.prog sp):jab Tryz.prog (sp_121 sp):=jag jvN h
attribute [irreducible] jk9
def jhB:List SV:=[.a [.d,.x (.st zS [])]]
def y62 (u1:List (List NC)):Option (List Int) :=
 ze (jk9 u1 (0:Int)) fun r0 =>
 some r0
def jhC:List Lf->Option GT|[.d (.s u4),.x (.st [.s,.i .i64,.ints .i64,.ints .i64,.ints .i64,.i .i64,.recs 5,.i .i64] u1)]=>some (.leaf (ok (y62 u1)) [.c (.row 3 (.ints .i64 ((val (y62 u1)))))])|_=>none
abbrev sp_73:jaa->jaa:=jap 73 true (jah jhB jhC)
def jyb (u4:zY) (u1:List (List NC)) (r:List Int):Sk (top r) (y62 u1) :=.call (.obT (.rc))
def jvO (u4:zY) (u1:List (List NC)) (r:List Int) (h:ze (y62 u1) some=some r):jaR Tryz.f73 ((sp_121 sp0)) (fun _ _ _=>none) (jaK jhB [.d (.s u4),.x (.st zS u1)]) [.c (.row 3 (.ints .i64 r))] :=Sk.vc (jyb u4 u1 r) (by kernel_rfl) h
def jvP:jaf Tryz.prog 73 true (jah jhB jhC):=by
 refine jan (sp:=(sp_121 sp0)) (fn:=Tryz.f73) (body:=bodyOf Tryz.f73) mixed (sp_121_ok jaj) Tryz.func73 (by kernel_rfl) (by kernel_rfl) fun ls t h ho b hb=>?_;unfold jhC at h;split at h
 ·rename_i u4 u1;cases h;obtain rfl:=jav hb;exact⟨zh (by kernel_rfl),_,_,jvO u4 u1 _ (jai ho)⟩
 ·cases h
def sp_73_ok {sp:jaa} (h:jab Tryz.prog sp):jab Tryz.prog (sp_73 sp):=jag jvP h
attribute [irreducible] y62
def jtY (in_:List (List (List Nat))) (x0:Int):Option (Int ⊕ (Unit ⊕ Unit)) :=
 if x0<(↑in_.length:Int)then if 0<=x0∧x0<(↑in_.length:Int)then
  if zf x0<zb in_ then if(0:Int)<=0∧0<(↑in_.length:Int)then
   if 0<zb in_ then if((↑(zb (za in_ x0.toNat [])):Int)!=(↑(zb (za in_ 0 [])):Int))=true then some (.inr ((.inl ())))
    else
    some (.inl (wrap .i64 (x0+1)))
   else none
   else none
  else none
  else none
 else some (.inr ((.inr ())))
def jqM (in_:List (List (List Nat))) (u5:Unit):Option Int :=some (10:Int)
def jtZ (in_:List (List (List Nat))) (x1:Int):Option (Int ⊕ (Unit ⊕ Unit)) :=
 if x1<(↑in_.length:Int)then if 0<=x1∧x1<(↑in_.length:Int)then
  if zf x1<zb in_ then if(↑(zb (za in_ x1.toNat [])):Int)>16 then some (.inr ((.inl ())))
   else
   some (.inl (wrap .i64 (x1+1)))
  else none
  else none
 else some (.inr ((.inr ())))
def jqN (in_:List (List (List Nat))) (u19:Unit):Option Int :=some (8:Int)
def jt0 (in_:List (List (List Nat))) (x2:Int):Option (Int ⊕ (Int ⊕ Unit)) :=
 if x2<(↑in_.length:Int)then if 0<=x2∧x2<(↑in_.length:Int)then
  if zf x2<zb in_ then
   ze (jlz (za in_ x2.toNat [])) fun r1 =>
   if(r1 != 0)=true then
   some (.inr (.inl r1))
   else
   some (.inl (wrap .i64 (x2+1)))
  else none
  else none
 else some (.inr ((.inr ())))
def jqO (u44:Int):Option Int :=some u44
def jqP (u54:Unit):Option Int :=some (0:Int)
def jt1:(Int ⊕ Unit)->Option Int :=(qz (jqO) (jqP))
def jqQ (in_:List (List (List Nat))) (u33:Unit):Option Int :=ze (jae (jt0 in_) big (0:Int)) (jt1)
def jt2 (in_:List (List (List Nat))):(Unit ⊕ Unit)->Option Int :=(qz (jqN in_) (jqQ in_))
def jqR (in_:List (List (List Nat))) (u10:Unit):Option Int :=ze (jae (jtZ in_) big (0:Int)) (jt2 in_)
def jt3 (in_:List (List (List Nat))):(Unit ⊕ Unit)->Option Int :=(qz (jqM in_) (jqR in_))
def jpH (u1:List (List NC)) (in_:List (List (List Nat))):Option Int :=
 ze (y62 u1) fun r0 =>
 if((↑in_.length:Int)!=(↑r0.length:Int))=true then some (10:Int)
 else ze (jae (jtY in_) big (0:Int)) (jt3 in_)
attribute [irreducible] jpH
def jzz (u4:zY) (u1:List (List NC)) (in_:List (List (List Nat))) (l:List (List Int)):Option Int :=
 ze (jmW u4 u1) fun r0 =>
 if(r0 != 0)=true then some r0
 else
  ze (jpH u1 in_) fun r1 =>
  if(r1 != 0)=true then
  some r1
  else
  ze (jr0 u4 u1 l) fun r2 =>
  some r2.2
attribute [irreducible] jzz
def jsr (a b:List Nat) (x0:Int):Option (Int ⊕ (Unit ⊕ Unit)) :=
 if x0<(↑a.length:Int)then if 0<=x0∧x0<(↑a.length:Int)then
  if zf x0<zb a then if 0<=x0∧x0<(↑b.length:Int)then
   if zf x0<zb b then if((↑(za a x0.toNat (0:Nat)):Int)!=(↑(za b x0.toNat (0:Nat)):Int))=true then some (.inr ((.inl ())))
    else
    some (.inl (wrap .i64 (x0+1)))
   else none
   else none
  else none
  else none
 else some (.inr ((.inr ())))
def joV (u5:Unit):Option Bool :=some false
def joW (u10:Unit):Option Bool :=some true
def jss:(Unit ⊕ Unit)->Option Bool :=(qz (joV) (joW))
def jnX (a b:List Nat):Option Bool :=
 if((↑a.length:Int)!=(↑b.length:Int))=true then some false
 else ze (jae (jsr a b) big (0:Int)) (jss)
attribute [irreducible] jnX
def jpI (a b:List Nat):Option Bool :=
 if zb a=(32:Nat)∧0<=z5 none (0:Int)∧z5 none 0<=z5 none (↑(32:Nat):Int)∧z5 none (↑(32:Nat):Int)<=(↑(32:Nat):Int)then if zb b=(32:Nat)∧0<=z5 none (0:Int)∧z5 none 0<=z5 none (↑(32:Nat):Int)∧z5 none (↑(32:Nat):Int)<=(↑(32:Nat):Int)then
  ze (jnX (yS (32:Nat) (yT (0:Nat) a)) (yS (32:Nat) (yT (0:Nat) b))) fun r0 =>
  some r0
  else none
 else none
attribute [irreducible] jpI
def jst (a b:List (List Nat)) (x0:Int):Option (Int ⊕ (Unit ⊕ Unit)) :=
 if x0<(↑a.length:Int)then if 0<=x0∧x0<(↑a.length:Int)then
  if zf x0<zb a then if 0<=x0∧x0<(↑b.length:Int)then
   if zf x0<zb b then
    ze (jpI (za a x0.toNat []) (za b x0.toNat [])) fun r0 =>
    if(!r0)=true then
    some (.inr ((.inl ())))
    else
    some (.inl (wrap .i64 (x0+1)))
   else none
   else none
  else none
  else none
 else some (.inr ((.inr ())))
def joX (u5:Unit):Option Bool :=some false
def joY (u10:Unit):Option Bool :=some true
def jsu:(Unit ⊕ Unit)->Option Bool :=(qz (joX) (joY))
def jyc (a b:List (List Nat)):Option Bool :=
 if((↑a.length:Int)!=(↑b.length:Int))=true then some false
 else ze (jae (jst a b) big (0:Int)) (jsu)
attribute [irreducible] jyc
def jyd (in_:List (List (List Nat))) (x0:Int):Option (Int ⊕ (Unit ⊕ Unit)) :=
 if x0<(↑in_.length:Int)then if 0<=x0∧x0<(↑in_.length:Int)then
  if zf x0<zb in_ then if(↑(zb (za in_ x0.toNat [])):Int)>4 then
   if 0<=x0∧x0<(↑in_.length:Int)then if zf x0<zb in_ then
    if(↑(zb (za in_ x0.toNat [])):Int)<=16 then some (.inr ((.inl ())))
    else if 0<=x0∧x0<(↑in_.length:Int)then
     if zf x0<zb in_ then if(↑(zb (za in_ x0.toNat [])):Int)>18 then some (.inr ((.inl ())))
      else
      some (.inl (wrap .i64 (x0+1)))
     else none
     else none
    else none
   else none
   else
   some (.inl (wrap .i64 (x0+1)))
  else none
  else none
 else some (.inr ((.inr ())))
def jt4 (u5:Unit):Option Bool :=some false
def jt5 (u10:Unit):Option Bool :=some true
def jye:(Unit ⊕ Unit)->Option Bool :=(qz (jt4) (jt5))
def jDL (in_:List (List (List Nat))):Option Bool :=
 if(↑in_.length:Int)>10 then some false
 else ze (jae (jyd in_) big (0:Int)) (jye)
attribute [irreducible] jDL
def jff:List SV:=[.c (.x (.bb .f32 32 []))]
def y96 (in_:List (List (List Nat))) (x0:(Int × List (List (List Nat)))):Option ((Int × List (List (List Nat))) ⊕ (List (List (List Nat)))) :=
 if x0.1<(↑in_.length:Int)then if 0<=x0.1∧x0.1<(↑in_.length:Int)then
  if zf x0.1<zb in_ then if(0+zb (za in_ x0.1.toNat []))*128<=140737488355328∧0+zb (za in_ x0.1.toNat [])<=9223372036854775807 then
   if(zb x0.2+zb (xt (fun r=>NC.toFrs (qg r (NC.d (D.v zX)))) [[NC.r (Cont.frs .f32 (zb zD) ([]++za in_ x0.1.toNat []))]]))*24<=140737488355328∧zb x0.2+zb (xt (fun r=>NC.toFrs (qg r (NC.d (D.v zX)))) [[NC.r (Cont.frs .f32 (zb zD) ([]++za in_ x0.1.toNat []))]])<=9223372036854775807 then some (.inl ((wrap .i64 (x0.1+1),x0.2++xt (fun r=>NC.toFrs (qg r (NC.d (D.v zX)))) [[NC.r (Cont.frs .f32 (zb zD) ([]++za in_ x0.1.toNat []))]])))
   else none
   else none
  else none
  else none
 else some (.inr x0.2)
def y264 (u5:List (List (List Nat))):Option (List (List (List Nat))) :=some u5
def y20 (in_:List (List (List Nat))):Option (List (List (List Nat))) :=ze (jae (y96 in_) big (((0:Int),[]))) (y264)
def jfg:List Lf->Option GT|[.x (.bb .f32 32 in_)]=>some (.leaf (ok (y20 in_)) [.c (.m 79 [(110:Nat)] (.bb .f32 32 ((val (y20 in_)))))])|_=>none
abbrev sp_64:jaa->jaa:=jap 64 true (jah jff jfg)
abbrev jii (in_:List (List (List Nat))) (r:List (List (List Nat))):Lp ((Int × List (List (List Nat))) × Nat) ((Int × List (List (List Nat)))) ((List (List (List Nat)))) ((List (List (List Nat)))) (List (List (List Nat))) :=⟨fun z=>z.1,fun z=>z.2,fun z x n=>(x,n),fun z=>y96 in_,fun z=>y264,fun z=>top r,fun z=>0,[.c fun vv=>vv.1.1,.c fun _=>in_,.c fun vv=>vv.1.2]⟩
def jsv (in_:List (List (List Nat))) (r:List (List (List Nat))):Sk (top r) (ze (jae (y96 in_) big (((0:Int),[]))) (y264)) :=
 .loopQ (jii in_ r) [.c fun vv=>vv.1.1,.c fun _=>in_,.p fun vv=>zb vv.1.2=(0:Nat)] (fun kk=>(((0:Int),[]),big)) (fun z0 =>
 .br
 (.ob (.ob (.ob (.ob (.next)))))
 (.exit (.obT (.rc)))) (fun _=>⟨rfl,trivial⟩)
def jt6 (in_:List (List (List Nat))) (r:List (List (List Nat))):Sk (top r) (y20 in_) :=jsv in_ r
def jsw (in_:List (List (List Nat))) (r:List (List (List Nat))) (h:ze (y20 in_) some=some r):jaR Tryz.f64 (sp0) (fun gs id st=>match id with
 |0=>some ⟨(Int × List (List (List Nat))) × Nat,fun z=>⟨[(0,.w (.c (.o 0))),(3,.w (.c (.o 1))),(4,.w (.c (.d (.i .i64 z.1.1))))],[(0,.xext (XC.bb .f32 (32:Nat) in_)),(1,.mrow 79 [(110:Nat)] (XC.bb .f32 (32:Nat) z.1.2) none)],2⟩,fun z=>(jii in_ r).inv z,fun z=>z.2⟩
 |_=>none) (jaK jff [.x (.bb .f32 32 in_)]) [.c (.m 79 [(110:Nat)] (.bb .f32 32 r))] :=
 Sk.vc (jt6 in_ r) (by kernel_rfl) h
def jsx:jaf Tryz.prog 64 true (jah jff jfg):=by
 refine jan (sp:=sp0) (fn:=Tryz.f64) (body:=bodyOf Tryz.f64) mixed jaj Tryz.func64 (by kernel_rfl) (by kernel_rfl) fun ls t h ho b hb=>?_;unfold jfg at h;split at h
 ·rename_i in_;cases h;obtain rfl:=jav hb;exact⟨zh (by kernel_rfl),_,_,jsw in_ _ (jai ho)⟩
 ·cases h
def sp_64_ok {sp:jaa} (h:jab Tryz.prog sp):jab Tryz.prog (sp_64 sp):=jag jsx h
attribute [irreducible] y20
end Go.Sh
end

section
namespace Go.Sh
open Go Go.Proofs Go.RowKit Go.Sx
open Go.IntKind (wrap)
def y232:List SV:=[.c (.p [.d,.x (.st zS []),.r (.ints .i64 [])]),.c (.x (.bb .f32 32 [])),.c (.r (.recs 2 []))]
def y89 (in_:List (List (List Nat))) (x0:Int):Option (Int ⊕ (Unit ⊕ Unit)) :=
 if x0<(↑in_.length:Int)then if 0<=x0∧x0<(↑in_.length:Int)then
  if zf x0<zb in_ then if(0:Int)<=0∧0<(↑in_.length:Int)then
   if 0<zb in_ then if((↑(zb (za in_ x0.toNat [])):Int)!=(↑(zb (za in_ 0 [])):Int))=true then some (.inr ((.inl ())))
    else
    some (.inl (wrap .i64 (x0+1)))
   else none
   else none
  else none
  else none
 else some (.inr ((.inr ())))
def jla (u9:zY) (u6:List (List NC)) (u7:List Int) (in_:List (List (List Nat))) (l:List (List Int)) (u5:Unit):Option Int :=some (10:Int)
def y29 (in_:List (List (List Nat))) (x1:Int):Option (Int ⊕ (Int ⊕ Unit)) :=
 if x1<(↑in_.length:Int)then if 0<=x1∧x1<(↑in_.length:Int)then
  if zf x1<zb in_ then
   ze (jns (za in_ x1.toNat [])) fun r1 =>
   if(r1 != 0)=true then
   some (.inr (.inl r1))
   else
   some (.inl (wrap .i64 (x1+1)))
  else none
  else none
 else some (.inr ((.inr ())))
def jlb (u9:zY) (u6:List (List NC)) (u7:List Int) (l:List (List Int)) (u19:Int):Option Int :=some u19
def y166 (u9:zY) (u6:List (List NC)) (u7:List Int) (l:List (List Int)) (u33:Unit):Option Int :=
 ze (y44 u9 u6 u7 l) fun r2 =>
 some r2.2
def jyf (u9:zY) (u6:List (List NC)) (u7:List Int) (l:List (List Int)):(Int ⊕ Unit)->Option Int :=(qz (jlb u9 u6 u7 l) (y166 u9 u6 u7 l))
def y167 (u9:zY) (u6:List (List NC)) (u7:List Int) (in_:List (List (List Nat))) (l:List (List Int)) (u10:Unit):Option Int :=
 if(↑in_.length:Int)>0 then if(0:Int)<=0∧0<(↑in_.length:Int)then
  if 0<zb in_ then if(↑(zb (za in_ 0 [])):Int)>16 then some (8:Int)
   else
   ze (jae (y29 in_) big (0:Int)) (jyf u9 u6 u7 l)
  else none
  else none
 else ze (jae (y29 in_) big (0:Int)) (jyf u9 u6 u7 l)
def y209 (u9:zY) (u6:List (List NC)) (u7:List Int) (in_:List (List (List Nat))) (l:List (List Int)):(Unit ⊕ Unit)->Option Int :=(qz (jla u9 u6 u7 in_ l) (y167 u9 u6 u7 in_ l))
def y36 (u9:zY) (u6:List (List NC)) (u7:List Int) (in_:List (List (List Nat))) (l:List (List Int)):Option Int :=
 ze (y6 u6 (0:Int)) fun r0 =>
 if((↑in_.length:Int)!=(↑r0.length:Int))=true then some (10:Int)
 else ze (jae (y89 in_) big (0:Int)) (y209 u9 u6 u7 in_ l)
def y233:List Lf->Option GT|[.d (.s u9),.x (.st [.s,.i .i64,.ints .i64,.ints .i64,.ints .i64,.i .i64,.recs 5,.i .i64] u6),.r (.ints .i64 u7),.x (.bb .f32 32 in_),.r (.recs 2 l)]=>some (.leaf (ok (y36 u9 u6 u7 in_ l)) [.c (.d (.i .i64 ((val (y36 u9 u6 u7 in_ l)))))])|_=>none
abbrev sp_116:jaa->jaa:=jap 116 true (jah y232 y233)
abbrev y297 (u9:zY) (u6:List (List NC)) (u7:List Int) (in_:List (List (List Nat))) (l:List (List Int)) (r:Int):Lp (Int × Nat) Int (Unit ⊕ Unit) Int Int :=⟨fun z=>z.1,fun z=>z.2,fun z x n=>(x,n),fun z=>y89 in_,fun z=>y209 u9 u6 u7 in_ l,fun z=>top r,fun z=>0,[.c fun _=>0,.c fun _=>(↑in_.length:Int),.c fun vv=>vv.1,.c fun _=>u9,.c fun _=>in_,.c fun _=>l,.c fun _=>u6,.c fun _=>u7]⟩
abbrev y298 (u9:zY) (u6:List (List NC)) (u7:List Int) (in_:List (List (List Nat))) (l:List (List Int)) (r:Int):Lp (Unit × Int × Nat) Int (Int ⊕ Unit) Int Int :=⟨fun z=>z.2.1,fun z=>z.2.2,fun z x n=>((),x,n),fun z=>y29 in_,fun z=>jyf u9 u6 u7 l,fun z=>top r,fun z=>0,[.c fun _=>0,.c fun _=>(↑in_.length:Int),.c fun vv=>vv.2.1,.c fun _=>u9,.c fun _=>l,.c fun _=>in_,.c fun _=>u6,.c fun _=>u7]⟩
def y299 (u9:zY) (u6:List (List NC)) (u7:List Int) (in_:List (List (List Nat))) (l:List (List Int)) (r:Int):Sk (top r) (ze (jae (y29 in_) big (0:Int)) (jyf u9 u6 u7 l)) :=
 .loop (y298 u9 u6 u7 in_ l r) (fun kk=>((),0,big)) fun z0 =>
 .br
 (.ob (.ob (.call (.brB
 (.exit (.obT (.rc)))
 (.next)))))
 (.exit (.call (.obT (.rc))))
def jnY (u9:zY) (u6:List (List NC)) (u7:List Int) (in_:List (List (List Nat))) (l:List (List Int)) (r:Int):Sk (top r) (ze (jae (y89 in_) big (0:Int)) (y209 u9 u6 u7 in_ l)) :=
 .loop (y297 u9 u6 u7 in_ l r) (fun kk=>((0:Int),big)) fun z0 =>
 .br
 (.ob (.ob (.ob (.ob (.brB
 (.exit (.obT (.rc)))
 (.next))))))
 (.exit (.br
 (.ob (.ob (.br
 (.obT (.rc))
 (y299 u9 u6 u7 in_ l r))))
 (y299 u9 u6 u7 in_ l r)))
def joZ (u9:zY) (u6:List (List NC)) (u7:List Int) (in_:List (List (List Nat))) (l:List (List Int)) (r:Int):Sk (top r) (y36 u9 u6 u7 in_ l) :=.call (.brB
 (.obT (.rc))
 (jnY u9 u6 u7 in_ l r))
def jnZ (u9:zY) (u6:List (List NC)) (u7:List Int) (in_:List (List (List Nat))) (l:List (List Int)) (r:Int) (h:ze (y36 u9 u6 u7 in_ l) some=some r):jaR Tryz.f116 ((sp_99 (sp_100 (sp_92 sp0)))) (fun gs id st=>match id with
 |0=>some ⟨Int × Nat,fun z=>⟨[(0,.w (.c (.p 2 0 1 0))),(1,.w (.c (.o 3))),(2,.w (.c (.o 4))),(20,.w (.c (.o 3))),(21,.w (.c (.d (.i .i64 ((↑in_.length:Int)))))),(22,.w (.c (.d (.i .i64 z.1))))],[(2,.ebox [.d (.s u9),.o 0,.o 1]),(3,.xext (XC.bb .f32 (32:Nat) in_)),(4,.ext (.recs 2 l)),(0,.xext (XC.st zS u6)),(1,.ext (.ints .i64 u7))],5⟩,fun z=>(y297 u9 u6 u7 in_ l r).inv z,fun z=>z.2⟩
 |2=>some ⟨Unit × Int × Nat,fun z=>⟨[(0,.w (.c (.p 2 0 1 0))),(2,.w (.c (.o 4))),(44,.w (.c (.o 3))),(45,.w (.c (.d (.i .i64 ((↑in_.length:Int)))))),(46,.w (.c (.d (.i .i64 z.2.1))))],[(2,.ebox [.d (.s u9),.o 0,.o 1]),(4,.ext (.recs 2 l)),(3,.xext (XC.bb .f32 (32:Nat) in_)),(0,.xext (XC.st zS u6)),(1,.ext (.ints .i64 u7))],5⟩,fun z=>(y298 u9 u6 u7 in_ l r).inv z,fun z=>z.2.2⟩
 |_=>none) (jaK y232 [.d (.s u9),.x (.st zS u6),.r (.ints .i64 u7),.x (.bb .f32 32 in_),.r (.recs 2 l)]) [.c (.d (.i .i64 r))] :=
 Sk.vc (joZ u9 u6 u7 in_ l r) (by kernel_rfl) h
def jn0:jaf Tryz.prog 116 true (jah y232 y233):=by
 refine jan (sp:=(sp_99 (sp_100 (sp_92 sp0)))) (fn:=Tryz.f116) (body:=bodyOf Tryz.f116) mixed (sp_99_ok (sp_100_ok (sp_92_ok jaj))) Tryz.func116 (by kernel_rfl) (by kernel_rfl) fun ls t h ho b hb=>?_;unfold y233 at h;split at h
 ·rename_i u9 u6 u7 in_ l;cases h;obtain rfl:=jav hb;exact⟨zh (by kernel_rfl),_,_,jnZ u9 u6 u7 in_ l _ (jai ho)⟩
 ·cases h
def sp_116_ok {sp:jaa} (h:jab Tryz.prog sp):jab Tryz.prog (sp_116 sp):=jag jn0 h
attribute [irreducible] y36
end Go.Sh
end

section
namespace Go.Sh
open Go Go.Proofs Go.RowKit Go.Sx Ieee Go.Fl
def blE (l:List (List Nat)):Int:=match l.findIdx? (fun b=>jbR b != 0)with|some i=>jbR (l.getD i [])|none=>0
def jFV {l:List (List Nat)} (h:blE l=0):∀b∈l,jbR b=0:=by
 intro b hb;unfold blE at h;cases hf:l.findIdx? (fun b=>jbR b != 0)with
 |none =>
  rw[qk]at hf;simpa using hf b hb
 |some i =>
  rw[hf]at h;rw[qj]at hf;obtain⟨hk,hp,_⟩:=hf;have h:jbR (l.getD i [])=0:=h;rw[jaC hk]at h;simp[h]at hp
def jIn {l:List (List Nat)} (h:∀b∈l,jbR b=0):blE l=0:=by
 unfold blE
 have:l.findIdx? (fun b=>jbR b != 0)=none:=by
  rw[qk];intro b hb;simp[h b hb]
 rw[this]
def jvQ {l:List (List Nat)} (hl:l.length<1000000000000) (hb:∀b∈l,b.length=32):jns l=some (blE l):=by
 unfold jns blE
 have key:∀i,i<l.length->jty l (i:Int)=if(jbR (l.getD i [])!=0)=true then some (.inr (.inl (jbR (l.getD i []))))else some (.inl ((i:Int)+1)):=fun i hi=>by
  have h32:=hb (l.getD i []) (by rw[jaC hi];exact qi hi);unfold jty;rw[if_pos (by omega),if_pos (by omega),if_pos (by omega),zg,if_pos ⟨h32,by decide⟩,List.drop_zero,List.take_of_length_le (by omega),jtR (by omega),jac,jam (by omega)]
 rw[ja0 l [] (fun b=>jbR b != 0) (body:=jty l) (fun i=>.inl (jbR (l.getD i []))) (.inr ()) (by omega)
  (fun i hi hp=>by rw[key i hi,if_pos hp]) (fun i hi hp=>by rw[key i hi,if_neg (by rw[hp];simp)]) (by unfold jty;rw[if_neg (by omega)])]
 cases l.findIdx? (fun b=>jbR b != 0)<;>rfl
def T32 (t:List (List (List Nat))):Prop:=∀r∈t,∀b∈r,b.length=32
def lnB (t:List (List (List Nat))) (r:List (List Nat)):Bool:=r.length != (t.getD 0 []).length
def bsE (t:List (List (List Nat))):Int:=match t.findIdx? (fun r=>blE r != 0)with|some i=>blE (t.getD i [])|none=>0
def teG (n0:Nat) (t:List (List (List Nat))):Int :=if t.length≠n0 then 10 else if t.any (lnB t)=true then 10 else if 16<(t.getD 0 []).length then 8 else bsE t
def juZ {g:List (List NC)} (hn:g.length<1000) (kind:Int):jk9 g kind=some (jaB g kind):=(by kernel_rfl:jk9 g kind=y6 g kind).trans (jjU hn kind)
def jFW {t:List (List (List Nat))} {body:Int->Option (Int ⊕ (Unit ⊕ Unit))} (hl:t.length<1000000000000)
  (h1:∀i,i<t.length->body (i:Int)=if(((t.getD i []).length:Int)!=((t.getD 0 []).length:Int))=true then some (.inr (.inl ()))else some (.inl ((i:Int)+1)))
  (h2:body (t.length:Int)=some (.inr (.inr ()))):jae body big 0=some (if t.any (lnB t)=true then .inl ()else .inr ()):=by
 have e:∀r:List (List Nat),((r.length:Int)!=((t.getD 0 []).length:Int))=lnB t r:=fun r=>by
  unfold lnB;rw[Bool.eq_iff_iff,bne_iff_ne,bne_iff_ne];omega
 exact jcA t [] (lnB t) (body:=body) (.inl ()) (.inr ()) (by omega) (fun i hi hp=>by rw[h1 i hi,e,if_pos hp]) (fun i hi hp=>by rw[h1 i hi,e,if_neg (by rw[hp];simp)]) h2
def jFX {g:List (List NC)} (hn:g.length<1000) (nm:ByteArray) (od:List Int) {t:List (List (List Nat))} (hl:t.length<1000000000) (h32:T32 t) (f:List (List Int)) :
  y36 nm g od t f=some (if teG (jaB g 0).length t≠0 then teG (jaB g 0).length t else(cf g.length f).2):=by
 unfold y36 teG;rw[jjU hn,jac]
 by_cases c1:t.length=(jaB g 0).length
 ·rw[if_neg (by rw[c1];simp),if_neg (show ¬t.length≠(jaB g 0).length by omega),
   jFW (t:=t) (body:=y89 t) (by omega) (fun i hi=>by
    unfold y89;rw[if_pos (by omega),if_pos (by omega),if_pos (by omega),if_pos (by omega),if_pos (by omega),zg,jam (by omega)]) (by unfold y89;rw[if_neg (by omega)]),jac]
  by_cases c2:t.any (lnB t)=true
  ·rw[if_pos c2,if_pos c2,if_pos (by decide)];rfl
  ·rw[if_neg c2,if_neg c2]
   have hrow:∀i,i<t.length->(t.getD i []).length=(t.getD 0 []).length:=fun i hi=>by
    have:¬lnB t (t.getD i [])=true:=fun h=>c2 (qQ.2 ⟨_,by rw[jaC hi];exact qi hi,h⟩);unfold lnB at this;simpa using this
   have key:∀i,i<t.length->(t.getD 0 []).length<=16->y29 t (i:Int)=if(blE (t.getD i [])!=0)=true then some (.inr (.inl (blE (t.getD i []))))else some (.inl ((i:Int)+1)):=fun i hi h16=>by
    have hr:=hrow i hi;unfold y29;rw[if_pos (by omega),if_pos (by omega),zg,if_pos hi,jvQ (by omega) (h32 _ (by rw[jaC hi];exact qi hi)),jac,jam (by omega)]
   have main:(t.getD 0 []).length<=16->ze (jae (y29 t) big (0:Int)) (jyf nm g od f)=some (if bsE t≠0 then bsE t else(cf g.length f).2):=fun h16=>by
    rw[ja0 t [] (fun r=>blE r != 0) (body:=y29 t) (fun i=>.inl (blE (t.getD i []))) (.inr ()) (by omega)
     (fun i hi hp=>by rw[key i hi h16,if_pos hp]) (fun i hi hp=>by rw[key i hi h16,if_neg (by rw[hp];simp)]) (by unfold y29;rw[if_neg (by omega)]),jac]
    unfold bsE;cases hf:t.findIdx? (fun r=>blE r != 0)with
    |none =>
     rw[if_neg (by simp)]
     show y166 nm g od f ()=_
     unfold y166;rw[jIf nm od f hn];rfl
    |some i =>
     rw[qj]at hf;obtain⟨hk,hp,_⟩:=hf;have:blE (t.getD i [])≠0:=by rw[jaC hk];simpa using hp
     rw[if_pos this];rfl
   show y167 nm g od t f ()=_
   unfold y167
   by_cases c3:0<t.length
   ·rw[if_pos (by omega),if_pos (by omega),if_pos c3]
    by_cases c4:16<(t.getD 0 []).length
    ·rw[if_pos (by omega),if_pos c4,if_pos (by decide)]
    ·rw[if_neg (by omega),if_neg c4,main (by omega)]
   ·have e0:t=[]:=z4 (by omega);subst e0;rw[if_neg (by simp),if_neg (show ¬16<(([]:List (List (List Nat))).getD 0 []).length by simp),main (by simp)]
 ·rw[if_pos (by rw[bne_iff_ne];omega),if_pos c1,if_pos (by decide)]
structure TR (g:List (List NC)) (t:List (List (List Nat))):Prop where
 len:t.length=(jaB g 0).length
 row:∀c,c<t.length->(t.getD c []).length=(t.getD 0 []).length
 sht:(t.getD 0 []).length<=16
 blk:∀c k,c<t.length->k<(t.getD 0 []).length->((t.getD c []).getD k []).length=32∧∀j,j<32->se (((t.getD c []).getD k []).getD j 0)=0
def jIo {g:List (List NC)} {t:List (List (List Nat))} (h32:T32 t) (h:teG (jaB g 0).length t=0):TR g t:=by
 unfold teG at h;split at h
 ·exact absurd h (by decide)
 rename_i h1;split at h
 ·exact absurd h (by decide)
 rename_i h2;split at h
 ·exact absurd h (by decide)
 rename_i h3
 have hrow:∀i,i<t.length->(t.getD i []).length=(t.getD 0 []).length:=fun i hi=>by
  have:¬lnB t (t.getD i [])=true:=fun h=>h2 (qQ.2 ⟨_,by rw[jaC hi];exact qi hi,h⟩);unfold lnB at this;simpa using this
 refine⟨by omega,hrow,by omega,fun c k hc hk=>?_⟩;have hm:t.getD c []∈t:=by rw[jaC hc];exact qi hc
 have hr:=hrow c hc
 have hm2:(t.getD c []).getD k []∈t.getD c []:=by
  rw[jaC (show k<(t.getD c []).length by omega)];exact qi _
 have hb:blE (t.getD c [])=0:=by
  unfold bsE at h;cases hf:t.findIdx? (fun r=>blE r != 0)with
  |none =>
   rw[qk]at hf;simpa using hf _ hm
  |some i =>
   rw[hf]at h;rw[qj]at hf;obtain⟨hk,hp,_⟩:=hf;have h:blE (t.getD i [])=0:=h;rw[jaC hk]at h;simp[h]at hp
 have h0:=h32 _ hm _ hm2;refine⟨h0,fun j hj=>?_⟩;refine juU (jFV hb _ hm2) _ ?_
 generalize (t.getD c []).getD k []=b at h0 ⊢
 rw[jaC (by omega)];exact qi _
def jIp {g:List (List NC)} {t:List (List (List Nat))} (h:TR g t):teG (jaB g 0).length t=0:=by
 unfold teG;rw[if_neg (by rw[h.len];simp),if_neg,if_neg (by have:=h.sht;omega)]
 ·unfold bsE
  have:t.findIdx? (fun r=>blE r != 0)=none:=by
   rw[qk];intro r hr;obtain⟨c,hc,rfl⟩:=xj.1 hr
   have h0:blE t[c]=0:=jIn fun b hb=>by
    obtain⟨k,hk,rfl⟩:=xj.1 hb;have hrw:=h.row c hc;rw[jaC hc]at hrw;obtain⟨b1,b2⟩:=h.blk c k hc (by omega);rw[jaC hc,jaC hk]at b1 b2;refine jAj fun x hx=>?_;obtain⟨j,hj,rfl⟩:=xj.1 hx;have:=b2 j (by omega);rw[jaC hj]at this;exact this
   rw[h0];rfl
  rw[this]
 ·intro hany;obtain⟨r,hr,hl⟩:=qQ.1 hany;obtain⟨c,hc,rfl⟩:=xj.1 hr;have:=h.row c hc;rw[jaC hc]at this;unfold lnB at hl;rw[this]at hl;simp at hl
end Go.Sh
end

section
namespace Go.Sh
open Go Go.Proofs Go.RowKit Go.Sx
open Go.IntKind (wrap)
attribute [local irreducible] y40
def y210:List SV:=[.c (.p [.d,.x (.st zS []),.r (.ints .i64 [])]),.c (.x (.bb .f32 32 [])),.c (.r (.recs 2 [])),.c (.f 118 [.p [.p [.d,.x (.st zS []),.r (.ints .i64 [])]]])]
def y25 (in_:List (List (List Nat))) (x1:(Int × Int × Int × Int × Int × List (List (List Nat)) × Int × List (List Nat) × List (List Nat) × List (List (List Int)))):Option ((Int × Int × Int × Int × Int × List (List (List Nat)) × Int × List (List Nat) × List (List Nat) × List (List (List Int))) ⊕ (Int × Int × Int × Int × List (List (List Nat)) × Int × List (List Nat) × List (List Nat) × List (List (List Int)))) :=
 if x1.2.2.2.2.1<(↑in_.length:Int)then if 0<=x1.2.2.2.2.1∧x1.2.2.2.2.1<(↑in_.length:Int)then
  if zf x1.2.2.2.2.1<zb in_ then if 0<=x1.2.1∧x1.2.1<(↑(zb (za in_ x1.2.2.2.2.1.toNat [])):Int)then
   if zf x1.2.1<zb (za in_ x1.2.2.2.2.1.toNat [])then if(zb x1.2.2.2.2.2.2.2.1+zb [za (za in_ x1.2.2.2.2.1.toNat []) x1.2.1.toNat []])*128<=140737488355328∧zb x1.2.2.2.2.2.2.2.1+zb [za (za in_ x1.2.2.2.2.1.toNat []) x1.2.1.toNat []]<=9223372036854775807 then some (.inl ((x1.1,x1.2.1,x1.2.2.1,x1.2.2.2.1,wrap .i64 (x1.2.2.2.2.1+1),x1.2.2.2.2.2.1,x1.2.2.2.2.2.2.1,x1.2.2.2.2.2.2.2.1++[za (za in_ x1.2.2.2.2.1.toNat []) x1.2.1.toNat []],x1.2.2.2.2.2.2.2.2.1,x1.2.2.2.2.2.2.2.2.2)))
    else none
   else none
   else none
  else none
  else none
 else some (.inr (x1.1,x1.2.1,x1.2.2.1,x1.2.2.2.1,x1.2.2.2.2.2.1,x1.2.2.2.2.2.2.1,x1.2.2.2.2.2.2.2.1,x1.2.2.2.2.2.2.2.2.1,x1.2.2.2.2.2.2.2.2.2))
def y49 (r5:List (List Nat)) (x2:(Int × List (List (List Nat)))):Option ((Int × List (List (List Nat))) ⊕ (List (List (List Nat)))) :=
 if x2.1<(↑r5.length:Int)then if 0<=x2.1∧x2.1<(↑r5.length:Int)then
  if zf x2.1<zb r5 then if 0<=x2.1∧x2.1<(↑x2.2.length:Int)then
   if zf x2.1<zb x2.2 then if(zb (za x2.2 x2.1.toNat [])+zb [za r5 x2.1.toNat []])*128<=140737488355328∧zb (za x2.2 x2.1.toNat [])+zb [za r5 x2.1.toNat []]<=9223372036854775807 then
    if 0<=x2.1∧x2.1<(↑x2.2.length:Int)then if zf x2.1=zf x2.1∧zf x2.1<zb x2.2 then some (.inl ((wrap .i64 (x2.1+1),qv x2.2 x2.1.toNat (NC.toFrs (qg [NC.r (Cont.frs .f32 (32:Nat) (za x2.2 x2.1.toNat []++[za r5 x2.1.toNat []]))] (NC.d (D.v zX)))))))
     else none
    else none
    else none
   else none
   else none
  else none
  else none
 else some (.inr x2.2)
def y182 (u6:List (List NC)) (u19:Int × Int × Int × Int × List (List (List Nat)) × Int × List (List Nat) × List (List Nat) × List (List (List Int))) (r3:Int × List Int × List (List Nat) × List (List (List Int)) × List Int) (r4:List (List Nat) × List (List (List Int)) × List Int) (u44:List (List (List Nat))):Option ((Int × Int × Int × List (List (List Nat)) × Int × List (List Nat) × List (List (List Int))) ⊕ (Int × List (List (List Nat)))) :=
 ze (y69 r4.2.2) fun r6 =>
 ze (y80 u6 r3.1 u19.2.2.2.2.2.2.2.1 r4.1) fun r7 =>
 some (.inl ((wrap .i64 (u19.1+r6),u19.2.2.1,wrap .i64 (u19.2.2.2.1+1),u44,r7.1,r7.2,r4.2.1)))
def y183 (u9:zY) (u6:List (List NC)) (u7:List Int) (l:List (List Int)) (u49:List Int) (u19:Int × Int × Int × Int × List (List (List Nat)) × Int × List (List Nat) × List (List Nat) × List (List (List Int))):Option ((Int × Int × Int × List (List (List Nat)) × Int × List (List Nat) × List (List (List Int))) ⊕ (Int × List (List (List Nat)))) :=
 ze (y40 u9 u6 u7 l u19.2.1) fun r2 =>
 ze (y18 u9 u6 u7 u19.2.2.2.2.2.1 r2) fun r3 =>
 ze (jcN u6 u19.2.2.2.2.2.2.2.1 u19.2.2.2.2.2.2.2.2 u19.2.2.2.2.2.2.1 r3.2.1 u49 r3.2.2.1 r3.2.2.2.1 r3.2.2.2.2) fun r4 =>
 ze (y9 u6 r4.1) fun r5 =>
 ze (jae (y49 r5) big (((0:Int),u19.2.2.2.2.1))) (y182 u6 u19 r3 r4)
def y26 (u9:zY) (u6:List (List NC)) (u7:List Int) (in_:List (List (List Nat))) (l:List (List Int)) (u49:List Int) (x0:(Int × Int × Int × List (List (List Nat)) × Int × List (List Nat) × List (List (List Int)))):Option ((Int × Int × Int × List (List (List Nat)) × Int × List (List Nat) × List (List (List Int))) ⊕ (Int × List (List (List Nat)))) :=
 if x0.2.2.1<x0.2.1 then ze (jae (y25 in_) big ((x0.1,x0.2.2.1,x0.2.1,x0.2.2.1,0,x0.2.2.2.1,x0.2.2.2.2.1,[],x0.2.2.2.2.2.1,x0.2.2.2.2.2.2))) (y183 u9 u6 u7 l u49)
 else some (.inr (x0.1,x0.2.2.2.1))
def jyg (u5:Int × List (List (List Nat))):Option (List (List (List Nat)) × Int) :=some (u5.2,u5.1)
def y30 (u9:zY) (u6:List (List NC)) (u7:List Int) (in_:List (List (List Nat))) (l:List (List Int)) (u49:List Int):Option (List (List (List Nat)) × Int) :=
 ze (y6 u6 (4:Int)) fun r0 =>
 if 0<=(↑r0.length:Int)∧(↑r0.length:Int)=(↑r0.length:Int)∧(↑(24:Nat):Int)*(↑r0.length:Int)<=281474976710656∧(↑r0.length:Int)<=9223372036854775807 then
  ze (y10 u6) fun r1 =>
  if(↑in_.length:Int)>0 then
  if(0:Int)<=0∧0<(↑in_.length:Int)then if 0<zb in_ then ze (jae (y26 u9 u6 u7 in_ l u49) big (((0:Int),(↑(zb (za in_ 0 [])):Int),0,zi (zf (↑r0.length:Int)) (NC.toFrs (qg [NC.r (Cont.frs .f32 (32:Nat) [])] (NC.d (D.v zX)))),r1.1,r1.2.1,r1.2.2))) (jyg)
   else none
  else none
  else
  ze (jae (y26 u9 u6 u7 in_ l u49) big (((0:Int),0,0,zi (zf (↑r0.length:Int)) (NC.toFrs (qg [NC.r (Cont.frs .f32 (32:Nat) [])] (NC.d (D.v zX)))),r1.1,r1.2.1,r1.2.2))) (jyg)
 else none
def y211:List Lf->Option GT|[.d (.s u9),.x (.st [.s,.i .i64,.ints .i64,.ints .i64,.ints .i64,.i .i64,.recs 5,.i .i64] u6),.r (.ints .i64 u7),.x (.bb .f32 32 in_),.r (.recs 2 l),.d (.s u58),.x (.st [.s,.i .i64,.ints .i64,.ints .i64,.ints .i64,.i .i64,.recs 5,.i .i64] u59),.r (.ints .i64 u49)]=>some (.leaf (ok (y30 u9 u6 u7 in_ l u49)) [.c (.m 79 [(110:Nat)] (.bb .f32 32 ((val (y30 u9 u6 u7 in_ l u49)).1))),.c (.d (.i .i64 ((val (y30 u9 u6 u7 in_ l u49)).2)))])|_=>none
abbrev sp_117_118:jaa->jaa:=jap 117 true (jah y210 y211)
def pl_s0 (c0:List Nat) (c1:Int) (c2:List (List Nat)) (c3:List Int) (c4:List (List (List Int))) (c5:List (List Nat)) (c6:List Int) (c7:Int) (c8:List (List (List Int))) (c9:List (List Nat)) (c10:List (List Nat)) (c11:List (List NC)) (c12:zY) (c13:Int) (c14:List (List NC)) (c15:Int) (c16:zY) (c17:Int) (c18:Int) (c19:List (List (List Nat))) (c20:List Int) (c21:Int) (c22:List Int) (c23:List (List (List Nat))) (c24:List (List Int)):St :=⟨[(0,.w (.c (.p 2 0 1 0))),(1,.w (.c (.o 3))),(2,.w (.c (.o 4))),(3,.w (.c (.fn 118 [8]))),(10,.w (.c (.o 9))),(11,.w (.c (.d (.i .i64 c21)))),(12,.w (.c (.p 10 0 1 0))),(18,.w (.c (.p 11 0 1 0))),(19,.w (.c (.d (.i .i64 c18)))),(20,.w (.c (.p 20 0 1 0))),(34,.w (.c (.d (.i .i64 c17)))),(35,.w (.c (.d (.i .i64 c15)))),(64,.w (.c (.o 12))),(65,.w (.c (.d (.i .i64 (c1))))),(66,.w (.c (.d (.i .i64 c18))))],[(12,.row 110 (.frs .f32 32 c2)),(20,.arr 110 32 (.f .f32 c0)),(11,.box 205 [.p 2 0 1 0,.d (.i .i64 c7),.o 13,.o 14,.o 15,.o 16,.o 17,.o 18,.o 19]),(10,.box 78 [.d (.i .i64 c13),.o 13,.o 14]),(9,.mrow 79 [(110:Nat)] (XC.bb .f32 (32:Nat) c19) none),(8,.ebox [.p 7 0 1 0]),(4,.ext (.recs 2 c24)),(3,.xext (XC.bb .f32 (32:Nat) c23)),(2,.ebox [.d (.s c16),.o 0,.o 1]),(19,.row 3 (.ints .i64 c3)),(18,.xrow 158 (XC.rr (4:Nat) c4)),(17,.row 110 (.frs .f32 32 c5)),(16,.row 3 (.ints .i64 c6)),(15,.row 110 (.frs .f32 32 c10)),(14,.xrow 158 (XC.rr (4:Nat) c8)),(13,.xrow 157 (XC.ff .f32 c9)),(7,.ebox [.d (.s c12),.o 5,.o 6]),(1,.ext (.ints .i64 c22)),(0,.xext (XC.st zS c14)),(6,.ext (.ints .i64 c20)),(5,.xext (XC.st zS c11))],21⟩
def pl_s1 (c0:List Nat) (c1:Int) (c2:List (List Nat)) (c3:List Int) (c4:List (List (List Int))) (c5:List (List Nat)) (c6:List Int) (c7:Int) (c8:List (List (List Int))) (c9:List (List Nat)) (c10:List (List Nat)) (c11:List (List NC)) (c12:zY) (c13:Int) (c14:List (List NC)) (c15:Int) (c16:zY) (c17:Int) (c18:Int) (c19:List (List (List Nat))) (c20:List Int) (c21:Int) (c22:List Int) (c23:List (List (List Nat))) (c24:List (List Int)):St :=⟨[(0,.w (.c (.p 2 0 1 0))),(1,.w (.c (.o 3))),(2,.w (.c (.o 4))),(3,.w (.c (.fn 118 [8]))),(10,.w (.c (.o 9))),(11,.w (.c (.d (.i .i64 c21)))),(12,.w (.c (.p 10 0 1 0))),(18,.w (.c (.p 11 0 1 0))),(34,.w (.c (.d (.i .i64 c17)))),(35,.w (.c (.d (.i .i64 c15)))),(64,.w (.c (.o 12))),(65,.w (.c (.d (.i .i64 (c1))))),(66,.w (.c (.d (.i .i64 c18))))],[(12,.row 110 (.frs .f32 32 c2)),(11,.box 205 [.p 2 0 1 0,.d (.i .i64 c7),.o 13,.o 14,.o 15,.o 16,.o 17,.o 18,.o 19]),(10,.box 78 [.d (.i .i64 c13),.o 13,.o 14]),(9,.mrow 79 [(110:Nat)] (XC.bb .f32 (32:Nat) (qv c19 c18.toNat (NC.toFrs (qg [NC.r (Cont.frs .f32 (32:Nat) (za c19 c18.toNat []++[c0]))] (NC.d (D.v zX)))))) none),(8,.ebox [.p 7 0 1 0]),(4,.ext (.recs 2 c24)),(3,.xext (XC.bb .f32 (32:Nat) c23)),(2,.ebox [.d (.s c16),.o 0,.o 1]),(19,.row 3 (.ints .i64 c3)),(18,.xrow 158 (XC.rr (4:Nat) c4)),(17,.row 110 (.frs .f32 32 c5)),(16,.row 3 (.ints .i64 c6)),(15,.row 110 (.frs .f32 32 c10)),(14,.xrow 158 (XC.rr (4:Nat) c8)),(13,.xrow 157 (XC.ff .f32 c9)),(7,.ebox [.d (.s c12),.o 5,.o 6]),(1,.ext (.ints .i64 c22)),(0,.xext (XC.st zS c14)),(6,.ext (.ints .i64 c20)),(5,.xext (XC.st zS c11))],24⟩
def jIq:Array qx:=(je6 (bodyOf Tryz.f117)).getD 1 #[]
def jIr (c0:List Nat) (c1:Int) (c2:List (List Nat)) (c3:List Int) (c4:List (List (List Int))) (c5:List (List Nat)) (c6:List Int) (c7:Int) (c8:List (List (List Int))) (c9:List (List Nat)) (c10:List (List Nat)) (c11:List (List NC)) (c12:zY) (c13:Int) (c14:List (List NC)) (c15:Int) (c16:zY) (c17:Int) (c18:Int) (c19:List (List (List Nat))) (c20:List Int) (c21:Int) (c22:List Int) (c23:List (List (List Nat))) (c24:List (List Int)):Prop:=ordA Tryz.prog (sp_99 (sp_120 (sp_94 (sp_102 (sp_104 (sp_105 (sp_106 (sp_118 sp0)))))))) 91 9 [0,1,2,3] jIq (pl_s0 c0 c1 c2 c3 c4 c5 c6 c7 c8 c9 c10 c11 c12 c13 c14 c15 c16 c17 c18 c19 c20 c21 c22 c23 c24) (pl_s1 c0 c1 c2 c3 c4 c5 c6 c7 c8 c9 c10 c11 c12 c13 c14 c15 c16 c17 c18 c19 c20 c21 c22 c23 c24) ((zf c18=zf c18∧zf c18<zb c19)∧(0<=c18∧c18<(↑c19.length:Int))∧((zb (za c19 c18.toNat [])+zb [c0])*128<=140737488355328∧zb (za c19 c18.toNat [])+zb [c0]<=9223372036854775807)∧(True)∧(zf c18<zb c19)∧(0<=c18∧c18<(↑c19.length:Int))∧True)
def ju0 (c0:List Nat) (c1:Int) (c2:List (List Nat)) (c3:List Int) (c4:List (List (List Int))) (c5:List (List Nat)) (c6:List Int) (c7:Int) (c8:List (List (List Int))) (c9:List (List Nat)) (c10:List (List Nat)) (c11:List (List NC)) (c12:zY) (c13:Int) (c14:List (List NC)) (c15:Int) (c16:zY) (c17:Int) (c18:Int) (c19:List (List (List Nat))) (c20:List Int) (c21:Int) (c22:List Int) (c23:List (List (List Nat))) (c24:List (List Int)):jIr c0 c1 c2 c3 c4 c5 c6 c7 c8 c9 c10 c11 c12 c13 c14 c15 c16 c17 c18 c19 c20 c21 c22 c23 c24:=fun h =>
 have t:=trivial;have e:Ob True:=⟨trivial⟩
 have q0:Ob _:=⟨h.2.1⟩
 have q1:Ob _:=⟨h.2.2.2.2.1⟩
 have q2:Ob _:=⟨h.2.2.1⟩
 have q3:Ob _:=⟨h.1⟩
 have q4:=oR ((0:Nat));have q5:=oR (c21);have q6:=oR (c17);have q7:=oR (c15);have q8:=oR (c1);have q9:=oR (c18);have q10:=oR (c2);have q11:=oR (c7);have q12:=oR (c13);have q13:=oR (qv c19 c18.toNat (NC.toFrs (qg [NC.r (Cont.frs .f32 (32:Nat) (za c19 c18.toNat []++[c0]))] (NC.d (D.v zX)))));have q14:=oR (c24);have q15:=oR (c23);have q16:=oR (c16);have q17:=oR (c3);have q18:=oR (c4);have q19:=oR (c5);have q20:=oR (c6);have q21:=oR (c10);have q22:=oR (c8);have q23:=oR (c9);have q24:=oR (c12);have q25:=oR (c22);have q26:=oR (c14);have q27:=oR (c20);have q28:=oR (c11);have s0:=ai q8 (ai q9 (ai q10 (ai q4 (ai q11 (ai q12 (ai q13 (ai q4 (ai q14 (ai q15 (ai q16 (ai q17 (ai q18 (ai q19 (ai q20 (ai q21 (ai q22 (ai q23 (ai q24 (ai q25 (ai q26 (ai q27 (ai q28 t))))))))))))))))))))));have s1:=ai (ai q2 (ai (ai q0 (ai (ai q3 (ai q4 (ai q5 (ai q4 (ai q4 (ai q6 (ai q7 s0))))))) t)) t)) t;have s2:=ai (ai e s1) t;have s3:=ai (ai q1 s1) t;have s4:=ai (ai q1 s2) (ai (ai e s3) t);have s5:=ai e (ai e (ai e (ai e (ai (ai q0 (ai (ai q1 (ai (ai e s2) t)) (ai (ai e s4) t))) (ai (ai e (ai (ai q0 s4) (ai (ai e (ai (ai q0 s3) t)) t))) t)))))
 @jK _ _ (by kernel_rfl) s5
abbrev pyQ:Type:=Int × Int × Int × Int × List (List (List Nat)) × Int × List (List Nat) × List (List Nat) × List (List (List Int))
abbrev py3 (gN:zY) (gU:List (List NC)) (gO:List Int) (l:List (List Int)) (q:pyQ):Int × List Int × List (List Nat) × List (List (List Int)) × List Int:=val (y18 gN gU gO q.2.2.2.2.2.1 (val (y40 gN gU gO l q.2.1)))
abbrev py4 (gN:zY) (gU:List (List NC)) (gO:List Int) (l:List (List Int)) (eo:List Int) (q:pyQ):List (List Nat) × List (List (List Int)) × List Int:=val (jcN gU q.2.2.2.2.2.2.2.1 q.2.2.2.2.2.2.2.2 q.2.2.2.2.2.2.1 (py3 gN gU gO l q).2.1 eo (py3 gN gU gO l q).2.2.1 (py3 gN gU gO l q).2.2.2.1 (py3 gN gU gO l q).2.2.2.2)
abbrev jyh (u9:zY) (u6:List (List NC)) (u7:List Int) (in_:List (List (List Nat))) (l:List (List Int)) (u58:zY) (u59:List (List NC)) (u49:List Int) (r:List (List (List Nat)) × Int):Lp ((Int × Int × Int × List (List (List Nat)) × Int × List (List Nat) × List (List (List Int))) × Nat) ((Int × Int × Int × List (List (List Nat)) × Int × List (List Nat) × List (List (List Int)))) ((Int × List (List (List Nat)))) ((List (List (List Nat)) × Int)) (List (List (List Nat)) × Int) :=⟨fun z=>z.1,fun z=>z.2,fun z x n=>(x,n),fun z=>y26 u9 u6 u7 in_ l u49,fun z=>jyg,fun z=>top r,fun z=>0,[.c fun _=>0,.c fun vv=>vv.1.1,.c fun _=>0,.c fun vv=>vv.1.2.1,.c fun vv=>vv.1.2.2.1,.c fun _=>u9,.c fun _=>in_,.c fun _=>l,.c fun _=>0,.c fun vv=>vv.1.2.2.2.1,.c fun vv=>vv.1.2.2.2.2.1,.c fun _=>u6,.c fun _=>u7,.c fun _=>u58,.c fun vv=>vv.1.2.2.2.2.2.1,.c fun vv=>vv.1.2.2.2.2.2.2,.c fun _=>u59,.c fun _=>u49]⟩
abbrev y184 (u9:zY) (u6:List (List NC)) (u7:List Int) (in_:List (List (List Nat))) (l:List (List Int)) (u58:zY) (u59:List (List NC)) (u49:List Int) (r:List (List (List Nat)) × Int) (m1:Nat):Lp ((Int × Int × Int × List (List (List Nat)) × Int × List (List Nat) × List (List (List Int))) × Nat × (Int × Int × Int × Int × Int × List (List (List Nat)) × Int × List (List Nat) × List (List Nat) × List (List (List Int))) × Nat) ((Int × Int × Int × Int × Int × List (List (List Nat)) × Int × List (List Nat) × List (List Nat) × List (List (List Int)))) ((Int × Int × Int × Int × List (List (List Nat)) × Int × List (List Nat) × List (List Nat) × List (List (List Int)))) (((Int × Int × Int × List (List (List Nat)) × Int × List (List Nat) × List (List (List Int))) ⊕ (Int × List (List (List Nat))))) (List (List (List Nat)) × Int) :=⟨fun z=>z.2.2.1,fun z=>z.2.2.2,fun z x n=>(z.1,z.2.1,x,n),fun z=>y25 in_,fun z=>y183 u9 u6 u7 l u49,fun z=>(jyh u9 u6 u7 in_ l u58 u59 u49 r).cx (z.1,m1),fun z=>z.2.1,[.c fun _=>0,.c fun vv=>vv.2.2.1.1,.c fun _=>0,.c fun vv=>vv.2.2.1.2.1,.c fun vv=>vv.2.2.1.2.2.1,.c fun vv=>vv.2.2.1.2.2.2.1,.c fun _=>(↑in_.length:Int),.c fun vv=>vv.2.2.1.2.2.2.2.1,.c fun _=>u9,.c fun _=>in_,.c fun _=>l,.c fun _=>0,.c fun vv=>vv.2.2.1.2.2.2.2.2.1,.c fun vv=>vv.2.2.1.2.2.2.2.2.2.1,.c fun vv=>vv.2.2.1.2.2.2.2.2.2.2.1,.c fun _=>u6,.c fun _=>u7,.c fun _=>u58,.c fun vv=>vv.2.2.1.2.2.2.2.2.2.2.2.1,.c fun vv=>vv.2.2.1.2.2.2.2.2.2.2.2.2,.c fun _=>u59,.c fun _=>u49]⟩
abbrev y185 (u9:zY) (u6:List (List NC)) (u7:List Int) (in_:List (List (List Nat))) (l:List (List Int)) (u58:zY) (u59:List (List NC)) (u49:List Int) (r:List (List (List Nat)) × Int) (m1:Nat):Lp ((Int × Int × Int × List (List (List Nat)) × Int × List (List Nat) × List (List (List Int))) × Nat × (Int × Int × Int × Int × List (List (List Nat)) × Int × List (List Nat) × List (List Nat) × List (List (List Int))) × (Int × List (List (List Nat))) × Nat) ((Int × List (List (List Nat)))) ((List (List (List Nat)))) (((Int × Int × Int × List (List (List Nat)) × Int × List (List Nat) × List (List (List Int))) ⊕ (Int × List (List (List Nat))))) (List (List (List Nat)) × Int) :=⟨fun z=>z.2.2.2.1,fun z=>z.2.2.2.2,fun z x n=>(z.1,z.2.1,z.2.2.1,x,n),fun z=>y49 (val (y9 u6 (py4 u9 u6 u7 l u49 z.2.2.1).1)),fun z=>y182 u6 z.2.2.1 (py3 u9 u6 u7 l z.2.2.1) (py4 u9 u6 u7 l u49 z.2.2.1),fun z=>(jyh u9 u6 u7 in_ l u58 u59 u49 r).cx (z.1,m1),fun z=>z.2.1,[.c fun _=>0,.c fun vv=>vv.2.2.1.1,.c fun _=>0,.c fun _=>0,.c fun vv=>vv.2.2.1.2.2.1,.c fun vv=>vv.2.2.1.2.2.2.1,.c fun vv=>(↑(zb (val (y9 u6 (py4 u9 u6 u7 l u49 vv.2.2.1).1))):Int),.c fun vv=>vv.2.2.2.1.1,.c fun _=>u9,.c fun _=>in_,.c fun _=>l,.c fun _=>0,.c fun vv=>vv.2.2.2.1.2,.c fun vv=>vv.2.2.1.2.2.2.2.2.1,.c fun _=>0,.c fun vv=>(py3 u9 u6 u7 l vv.2.2.1).1,.c fun vv=>val (y9 u6 (py4 u9 u6 u7 l u49 vv.2.2.1).1),.c fun _=>u6,.c fun _=>u7,.c fun _=>u58,.c fun vv=>vv.2.2.1.2.2.2.2.2.2.2.1,.c fun vv=>vv.2.2.1.2.2.2.2.2.2.2.2,.c fun vv=>vv.2.2.1.2.2.2.2.2.2.1,.c fun vv=>(py3 u9 u6 u7 l vv.2.2.1).2.1,.c fun vv=>(py4 u9 u6 u7 l u49 vv.2.2.1).1,.c fun vv=>(py4 u9 u6 u7 l u49 vv.2.2.1).2.1,.c fun vv=>(py4 u9 u6 u7 l u49 vv.2.2.1).2.2,.c fun _=>u59,.c fun _=>u49]⟩
def jl1 (u9:zY) (u6:List (List NC)) (u7:List Int) (in_:List (List (List Nat))) (l:List (List Int)) (u58:zY) (u59:List (List NC)) (u49:List Int) (r:List (List (List Nat)) × Int):Sk (top r) (ze (jae (y26 u9 u6 u7 in_ l u49) big (((0:Int),(↑(zb (za in_ 0 [])):Int),0,zi (zf (↑(zb (val (y6 u6 (4:Int)))):Int)) (NC.toFrs (qg [NC.r (Cont.frs .f32 (32:Nat) [])] (NC.d (D.v zX)))),(val (y10 u6)).1,(val (y10 u6)).2.1,(val (y10 u6)).2.2))) (jyg)) :=
 .loop (jyh u9 u6 u7 in_ l u58 u59 u49 r) (fun kk=>(((0:Int),(↑(zb (za in_ 0 [])):Int),0,zi (zf (↑(zb (val (y6 u6 (4:Int)))):Int)) (NC.toFrs (qg [NC.r (Cont.frs .f32 (32:Nat) [])] (NC.d (D.v zX)))),(val (y10 u6)).1,(val (y10 u6)).2.1,(val (y10 u6)).2.2),big)) fun z0 =>
 .br
 (.loopQ (y184 u9 u6 u7 in_ l u58 u59 u49 r z0.2) [.c fun _=>0,.c fun vv=>vv.2.2.1.1,.c fun _=>0,.c fun vv=>vv.2.2.1.2.1,.c fun vv=>vv.2.2.1.2.2.1,.c fun vv=>vv.2.2.1.2.2.2.1,.c fun _=>(↑in_.length:Int),.c fun vv=>vv.2.2.1.2.2.2.2.1,.c fun _=>u9,.c fun _=>in_,.c fun _=>l,.c fun _=>0,.c fun vv=>vv.2.2.1.2.2.2.2.2.1,.c fun vv=>vv.2.2.1.2.2.2.2.2.2.1,.p fun vv=>zb vv.2.2.1.2.2.2.2.2.2.2.1=(0:Nat),.c fun _=>u6,.c fun _=>u7,.c fun _=>u58,.c fun vv=>vv.2.2.1.2.2.2.2.2.2.2.2.1,.c fun vv=>vv.2.2.1.2.2.2.2.2.2.2.2.2,.c fun _=>u59,.c fun _=>u49] (fun kk=>(z0.1,kk,(z0.1.1,z0.1.2.2.1,z0.1.2.1,z0.1.2.2.1,0,z0.1.2.2.2.1,z0.1.2.2.2.2.1,[],z0.1.2.2.2.2.2.1,z0.1.2.2.2.2.2.2),big)) (fun z1 =>
 .br
 (.ob (.ob (.ob (.ob (.ob (.next))))))
 (.exit (.call (.call (.call (.call (.loop (y185 u9 u6 u7 in_ l u58 u59 u49 r z0.2) (fun kk=>(z1.1,kk,(z1.2.2.1.1,z1.2.2.1.2.1,z1.2.2.1.2.2.1,z1.2.2.1.2.2.2.1,z1.2.2.1.2.2.2.2.2.1,z1.2.2.1.2.2.2.2.2.2.1,z1.2.2.1.2.2.2.2.2.2.2.1,z1.2.2.1.2.2.2.2.2.2.2.2.1,z1.2.2.1.2.2.2.2.2.2.2.2.2),((0:Int),(z1.2.2.1.1,z1.2.2.1.2.1,z1.2.2.1.2.2.1,z1.2.2.1.2.2.2.1,z1.2.2.1.2.2.2.2.2.1,z1.2.2.1.2.2.2.2.2.2.1,z1.2.2.1.2.2.2.2.2.2.2.1,z1.2.2.1.2.2.2.2.2.2.2.2.1,z1.2.2.1.2.2.2.2.2.2.2.2.2).2.2.2.2.1),big)) fun z1 =>
 .br
 (.ob (.ob (.obT (.ob (.ob (.obT (.ob (.ob (.ob (.obC _ (ju0 (za (val (y9 u6 (py4 u9 u6 u7 l u49 z1.2.2.1).1)) z1.2.2.2.1.1.toNat []) (↑(zb (val (y9 u6 (py4 u9 u6 u7 l u49 z1.2.2.1).1))):Int) (val (y9 u6 (py4 u9 u6 u7 l u49 z1.2.2.1).1)) ((py4 u9 u6 u7 l u49 z1.2.2.1).2.2) ((py4 u9 u6 u7 l u49 z1.2.2.1).2.1) ((py4 u9 u6 u7 l u49 z1.2.2.1).1) ((py3 u9 u6 u7 l z1.2.2.1).2.1) ((py3 u9 u6 u7 l z1.2.2.1).1) (z1.2.2.1.2.2.2.2.2.2.2.2) (z1.2.2.1.2.2.2.2.2.2.2.1) (z1.2.2.1.2.2.2.2.2.2.1) (u59) (u58) (z1.2.2.1.2.2.2.2.2.1) (u6) (z1.2.2.1.2.2.2.1) (u9) (z1.2.2.1.2.2.1) (z1.2.2.2.1.1) (z1.2.2.2.1.2) (u49) (z1.2.2.1.1) (u7) (in_) (l)) (.next)))))))))))
 (.exit (.call (.call (.next))))))))))) (fun _=>⟨rfl,trivial⟩))
 (.exit (.obT (.obT (.rc))))
def jl2 (u9:zY) (u6:List (List NC)) (u7:List Int) (in_:List (List (List Nat))) (l:List (List Int)) (u58:zY) (u59:List (List NC)) (u49:List Int) (r:List (List (List Nat)) × Int):Sk (top r) (ze (jae (y26 u9 u6 u7 in_ l u49) big (((0:Int),0,0,zi (zf (↑(zb (val (y6 u6 (4:Int)))):Int)) (NC.toFrs (qg [NC.r (Cont.frs .f32 (32:Nat) [])] (NC.d (D.v zX)))),(val (y10 u6)).1,(val (y10 u6)).2.1,(val (y10 u6)).2.2))) (jyg)) :=
 .loop (jyh u9 u6 u7 in_ l u58 u59 u49 r) (fun kk=>(((0:Int),0,0,zi (zf (↑(zb (val (y6 u6 (4:Int)))):Int)) (NC.toFrs (qg [NC.r (Cont.frs .f32 (32:Nat) [])] (NC.d (D.v zX)))),(val (y10 u6)).1,(val (y10 u6)).2.1,(val (y10 u6)).2.2),big)) fun z0 =>
 .br
 (.loopQ (y184 u9 u6 u7 in_ l u58 u59 u49 r z0.2) [.c fun _=>0,.c fun vv=>vv.2.2.1.1,.c fun _=>0,.c fun vv=>vv.2.2.1.2.1,.c fun vv=>vv.2.2.1.2.2.1,.c fun vv=>vv.2.2.1.2.2.2.1,.c fun _=>(↑in_.length:Int),.c fun vv=>vv.2.2.1.2.2.2.2.1,.c fun _=>u9,.c fun _=>in_,.c fun _=>l,.c fun _=>0,.c fun vv=>vv.2.2.1.2.2.2.2.2.1,.c fun vv=>vv.2.2.1.2.2.2.2.2.2.1,.p fun vv=>zb vv.2.2.1.2.2.2.2.2.2.2.1=(0:Nat),.c fun _=>u6,.c fun _=>u7,.c fun _=>u58,.c fun vv=>vv.2.2.1.2.2.2.2.2.2.2.2.1,.c fun vv=>vv.2.2.1.2.2.2.2.2.2.2.2.2,.c fun _=>u59,.c fun _=>u49] (fun kk=>(z0.1,kk,(z0.1.1,z0.1.2.2.1,z0.1.2.1,z0.1.2.2.1,0,z0.1.2.2.2.1,z0.1.2.2.2.2.1,[],z0.1.2.2.2.2.2.1,z0.1.2.2.2.2.2.2),big)) (fun z1 =>
 .br
 (.ob (.ob (.ob (.ob (.ob (.next))))))
 (.exit (.call (.call (.call (.call (.loop (y185 u9 u6 u7 in_ l u58 u59 u49 r z0.2) (fun kk=>(z1.1,kk,(z1.2.2.1.1,z1.2.2.1.2.1,z1.2.2.1.2.2.1,z1.2.2.1.2.2.2.1,z1.2.2.1.2.2.2.2.2.1,z1.2.2.1.2.2.2.2.2.2.1,z1.2.2.1.2.2.2.2.2.2.2.1,z1.2.2.1.2.2.2.2.2.2.2.2.1,z1.2.2.1.2.2.2.2.2.2.2.2.2),((0:Int),(z1.2.2.1.1,z1.2.2.1.2.1,z1.2.2.1.2.2.1,z1.2.2.1.2.2.2.1,z1.2.2.1.2.2.2.2.2.1,z1.2.2.1.2.2.2.2.2.2.1,z1.2.2.1.2.2.2.2.2.2.2.1,z1.2.2.1.2.2.2.2.2.2.2.2.1,z1.2.2.1.2.2.2.2.2.2.2.2.2).2.2.2.2.1),big)) fun z1 =>
 .br
 (.ob (.ob (.obT (.ob (.ob (.obT (.ob (.ob (.ob (.obC _ (ju0 (za (val (y9 u6 (py4 u9 u6 u7 l u49 z1.2.2.1).1)) z1.2.2.2.1.1.toNat []) (↑(zb (val (y9 u6 (py4 u9 u6 u7 l u49 z1.2.2.1).1))):Int) (val (y9 u6 (py4 u9 u6 u7 l u49 z1.2.2.1).1)) ((py4 u9 u6 u7 l u49 z1.2.2.1).2.2) ((py4 u9 u6 u7 l u49 z1.2.2.1).2.1) ((py4 u9 u6 u7 l u49 z1.2.2.1).1) ((py3 u9 u6 u7 l z1.2.2.1).2.1) ((py3 u9 u6 u7 l z1.2.2.1).1) (z1.2.2.1.2.2.2.2.2.2.2.2) (z1.2.2.1.2.2.2.2.2.2.2.1) (z1.2.2.1.2.2.2.2.2.2.1) (u59) (u58) (z1.2.2.1.2.2.2.2.2.1) (u6) (z1.2.2.1.2.2.2.1) (u9) (z1.2.2.1.2.2.1) (z1.2.2.2.1.1) (z1.2.2.2.1.2) (u49) (z1.2.2.1.1) (u7) (in_) (l)) (.next)))))))))))
 (.exit (.call (.call (.next))))))))))) (fun _=>⟨rfl,trivial⟩))
 (.exit (.obT (.obT (.rc))))
def jn1 (u9:zY) (u6:List (List NC)) (u7:List Int) (in_:List (List (List Nat))) (l:List (List Int)) (u58:zY) (u59:List (List NC)) (u49:List Int) (r:List (List (List Nat)) × Int):Sk (top r) (y30 u9 u6 u7 in_ l u49) :=.call (.ob (.call (.br
 (.ob (.ob (jl1 u9 u6 u7 in_ l u58 u59 u49 r)))
 (jl2 u9 u6 u7 in_ l u58 u59 u49 r))))
def jl3 (u9:zY) (u6:List (List NC)) (u7:List Int) (in_:List (List (List Nat))) (l:List (List Int)) (u58:zY) (u59:List (List NC)) (u49:List Int) (r:List (List (List Nat)) × Int) (h:ze (y30 u9 u6 u7 in_ l u49) some=some r):runA 11 [0,1,2,3,10,11,12,18,19,20,34,35,64,65,66] [0,1,2,3,10,11,12,18,34,35,64,65,66] [0,1,2,3] Tryz.f117 ((sp_99 (sp_120 (sp_94 (sp_102 (sp_104 (sp_105 (sp_106 (sp_118 sp0))))))))) (fun gs id st=>match id with
 |0=>some ⟨(Int × Int × Int × List (List (List Nat)) × Int × List (List Nat) × List (List (List Int))) × Nat,fun z=>⟨[(0,.w (.c (.p 2 0 1 0))),(1,.w (.c (.o 3))),(2,.w (.c (.o 4))),(3,.w (.c (.fn 118 [8]))),(10,.w (.c (.o 9))),(11,.w (.c (.d (.i .i64 z.1.1)))),(12,.w (.c (.p 10 0 1 0))),(34,.w (.c (.d (.i .i64 z.1.2.1)))),(35,.w (.c (.d (.i .i64 z.1.2.2.1))))],[(2,.ebox [.d (.s u9),.o 0,.o 1]),(3,.xext (XC.bb .f32 (32:Nat) in_)),(4,.ext (.recs 2 l)),(8,.ebox [.p 7 0 1 0]),(9,.mrow 79 [(110:Nat)] (XC.bb .f32 (32:Nat) z.1.2.2.2.1) none),(10,.box 78 [.d (.i .i64 z.1.2.2.2.2.1),.o 11,.o 12]),(0,.xext (XC.st zS u6)),(1,.ext (.ints .i64 u7)),(7,.ebox [.d (.s u58),.o 5,.o 6]),(11,.xrow 157 (XC.ff .f32 z.1.2.2.2.2.2.1)),(12,.xrow 158 (XC.rr (4:Nat) z.1.2.2.2.2.2.2)),(5,.xext (XC.st zS u59)),(6,.ext (.ints .i64 u49))],13⟩,fun z=>(jyh u9 u6 u7 in_ l u58 u59 u49 r).inv z,fun z=>z.2⟩
 |2=>some ⟨(Int × Int × Int × List (List (List Nat)) × Int × List (List Nat) × List (List (List Int))) × Nat × (Int × Int × Int × Int × Int × List (List (List Nat)) × Int × List (List Nat) × List (List Nat) × List (List (List Int))) × Nat,fun z=>⟨[(0,.w (.c (.p 2 0 1 0))),(1,.w (.c (.o 3))),(2,.w (.c (.o 4))),(3,.w (.c (.fn 118 [8]))),(10,.w (.c (.o 9))),(11,.w (.c (.d (.i .i64 z.2.2.1.1)))),(12,.w (.c (.p 10 0 1 0))),(14,.w (.c (.d (.i .i64 z.2.2.1.2.1)))),(15,.w (.c (.o 11))),(34,.w (.c (.d (.i .i64 z.2.2.1.2.2.1)))),(35,.w (.c (.d (.i .i64 z.2.2.1.2.2.2.1)))),(38,.w (.c (.o 3))),(39,.w (.c (.d (.i .i64 ((↑in_.length:Int)))))),(40,.w (.c (.d (.i .i64 z.2.2.1.2.2.2.2.1))))],[(2,.ebox [.d (.s u9),.o 0,.o 1]),(3,.xext (XC.bb .f32 (32:Nat) in_)),(4,.ext (.recs 2 l)),(8,.ebox [.p 7 0 1 0]),(9,.mrow 79 [(110:Nat)] (XC.bb .f32 (32:Nat) z.2.2.1.2.2.2.2.2.1) none),(10,.box 78 [.d (.i .i64 z.2.2.1.2.2.2.2.2.2.1),.o 12,.o 13]),(11,.row 110 (.frs .f32 32 z.2.2.1.2.2.2.2.2.2.2.1)),(0,.xext (XC.st zS u6)),(1,.ext (.ints .i64 u7)),(7,.ebox [.d (.s u58),.o 5,.o 6]),(12,.xrow 157 (XC.ff .f32 z.2.2.1.2.2.2.2.2.2.2.2.1)),(13,.xrow 158 (XC.rr (4:Nat) z.2.2.1.2.2.2.2.2.2.2.2.2)),(5,.xext (XC.st zS u59)),(6,.ext (.ints .i64 u49))],14⟩,fun z=>(y184 u9 u6 u7 in_ l u58 u59 u49 r (gs.getD 0 0)).inv z,fun z=>z.2.2.2⟩
 |4=>some ⟨(Int × Int × Int × List (List (List Nat)) × Int × List (List Nat) × List (List (List Int))) × Nat × (Int × Int × Int × Int × List (List (List Nat)) × Int × List (List Nat) × List (List Nat) × List (List (List Int))) × (Int × List (List (List Nat))) × Nat,fun z=>⟨[(0,.w (.c (.p 2 0 1 0))),(1,.w (.c (.o 3))),(2,.w (.c (.o 4))),(3,.w (.c (.fn 118 [8]))),(10,.w (.c (.o 9))),(11,.w (.c (.d (.i .i64 (z.2.2.1.1))))),(12,.w (.c (.p 10 0 1 0))),(18,.w (.c (.p 11 0 1 0))),(34,.w (.c (.d (.i .i64 (z.2.2.1.2.2.1))))),(35,.w (.c (.d (.i .i64 (z.2.2.1.2.2.2.1))))),(64,.w (.c (.o 12))),(65,.w (.c (.d (.i .i64 ((↑(zb (val (y9 u6 (py4 u9 u6 u7 l u49 z.2.2.1).1))):Int)))))),(66,.w (.c (.d (.i .i64 z.2.2.2.1.1))))],[(2,.ebox [.d (.s u9),.o 0,.o 1]),(3,.xext (XC.bb .f32 (32:Nat) in_)),(4,.ext (.recs 2 l)),(8,.ebox [.p 7 0 1 0]),(9,.mrow 79 [(110:Nat)] (XC.bb .f32 (32:Nat) z.2.2.2.1.2) none),(10,.box 78 [.d (.i .i64 (z.2.2.1.2.2.2.2.2.1)),.o 13,.o 14]),(11,.box 205 [.p 2 0 1 0,.d (.i .i64 ((py3 u9 u6 u7 l z.2.2.1).1)),.o 13,.o 14,.o 15,.o 16,.o 17,.o 18,.o 19]),(12,.row 110 (.frs .f32 32 (val (y9 u6 (py4 u9 u6 u7 l u49 z.2.2.1).1)))),(0,.xext (XC.st zS u6)),(1,.ext (.ints .i64 u7)),(7,.ebox [.d (.s u58),.o 5,.o 6]),(13,.xrow 157 (XC.ff .f32 z.2.2.1.2.2.2.2.2.2.2.1)),(14,.xrow 158 (XC.rr (4:Nat) z.2.2.1.2.2.2.2.2.2.2.2)),(15,.row 110 (.frs .f32 32 (z.2.2.1.2.2.2.2.2.2.1))),(16,.row 3 (.ints .i64 ((py3 u9 u6 u7 l z.2.2.1).2.1))),(17,.row 110 (.frs .f32 32 ((py4 u9 u6 u7 l u49 z.2.2.1).1))),(18,.xrow 158 (XC.rr (4:Nat) (py4 u9 u6 u7 l u49 z.2.2.1).2.1)),(19,.row 3 (.ints .i64 ((py4 u9 u6 u7 l u49 z.2.2.1).2.2))),(5,.xext (XC.st zS u59)),(6,.ext (.ints .i64 u49))],20⟩,fun z=>(y185 u9 u6 u7 in_ l u58 u59 u49 r (gs.getD 0 0)).inv z,fun z=>z.2.2.2.2⟩
 |_=>none) (jaK y210 [.d (.s u9),.x (.st zS u6),.r (.ints .i64 u7),.x (.bb .f32 32 in_),.r (.recs 2 l),.d (.s u58),.x (.st zS u59),.r (.ints .i64 u49)]) [.c (.m 79 [(110:Nat)] (.bb .f32 32 r.1)),.c (.d (.i .i64 r.2))] :=
 Sk.vc (jn1 u9 u6 u7 in_ l u58 u59 u49 r) (by kernel_rfl) h
def jl4:jaf Tryz.prog 117 true (jah y210 y211):=by
 refine juN (drawn:=fun n0=>jsb Tryz.prog (sp_99 (sp_120 (sp_94 (sp_102 (sp_104 (sp_105 (sp_106 (sp_118 sp0)))))))) 91 n0 11 [0,1,2,3,10,11,12,18,19,20,34,35,64,65,66] [0,1,2,3,10,11,12,18,34,35,64,65,66] [0,1,2,3]) (fun B n0 I w=>jxE jGB mixed (sp_99_ok (sp_120_ok (sp_94_ok (sp_102_ok (sp_104_ok (sp_105_ok (sp_106_ok (sp_118_ok jaj)))))))) 11 [0,1,2,3,10,11,12,18,19,20,34,35,64,65,66] [0,1,2,3,10,11,12,18,34,35,64,65,66] [0,1,2,3]) (sp:=(sp_99 (sp_120 (sp_94 (sp_102 (sp_104 (sp_105 (sp_106 (sp_118 sp0))))))))) (fn:=Tryz.f117) (body:=bodyOf Tryz.f117) (sp_99_ok (sp_120_ok (sp_94_ok (sp_102_ok (sp_104_ok (sp_105_ok (sp_106_ok (sp_118_ok jaj)))))))) Tryz.func117 (by kernel_rfl) (by kernel_rfl) fun ls t h ho b hb=>?_;unfold y211 at h;split at h
 ·rename_i u9 u6 u7 in_ l u58 u59 u49;cases h;obtain rfl:=jav hb;exact⟨zh (by kernel_rfl),_,_,jl3 u9 u6 u7 in_ l u58 u59 u49 _ (jai ho)⟩
 ·cases h
def sp_117_118_ok {sp:jaa} (h:jab Tryz.prog sp):jab Tryz.prog (sp_117_118 sp):=jag jl4 h
attribute [irreducible] y30
end Go.Sh
end

section
namespace Go.Sh
open Go Go.Proofs Go.RowKit Go.Sx
abbrev sp_117:jaa->jaa:=sp_117_118
def sp_117_ok {sp:jaa} (h:jab Tryz.prog sp):jab Tryz.prog (sp_117 sp):=sp_117_118_ok h
def jt7:List SV:=[.a [.d,.x (.st zS [])],.c (.x (.bb .f32 32 [])),.c (.r (.recs 2 []))]
def jca (u4:zY) (u1:List (List NC)) (in_:List (List (List Nat))) (l:List (List Int)):Option (List (List (List Nat)) × Int × Int) :=
 if(jgx u4 u1)=true then
  ze (jcx u4 u1) fun r0 =>
  some (([],0,nzI r0))
 else
  ze (jay u4 u1) fun r1 =>
  ze (y36 u4 u1 r1 in_ l) fun r2 =>
  if(r2 != 0)=true then
  some (([],0,r2))
  else
  ze (y30 u4 u1 r1 in_ l r1) fun r3 =>
  some ((r3.1,r3.2,0))
def jt8:List Lf->Option GT|[.d (.s u4),.x (.st [.s,.i .i64,.ints .i64,.ints .i64,.ints .i64,.i .i64,.recs 5,.i .i64] u1),.x (.bb .f32 32 in_),.r (.recs 2 l)]=>some (.leaf (ok (jca u4 u1 in_ l)) [.c (.m 79 [(110:Nat)] (.bb .f32 32 ((val (jca u4 u1 in_ l)).1))),.c (.d (.i .i64 ((val (jca u4 u1 in_ l)).2.1))),.c (.d (.i .i64 ((val (jca u4 u1 in_ l)).2.2)))])|_=>none
abbrev sp_63:jaa->jaa:=jap 63 true (jah jt7 jt8)
def jHf (u4:zY) (u1:List (List NC)) (in_:List (List (List Nat))) (l:List (List Int)) (r:List (List (List Nat)) × Int × Int):Sk (top r) (jca u4 u1 in_ l) :=.brB
 (.call (.obT (.obT (.obT (.ret (fun r=>(Ob (zb r.1=(0:Nat)) ∧
 (Ob ((0:Int)=r.2.1) ∧
 (Ob (nzI (val (jcx u4 u1))=r.2.2) ∧
 True)))) ⟨⟨rfl⟩,⟨⟨rfl⟩,⟨⟨rfl⟩,trivial⟩⟩⟩)))))
 (.call (.call (.brB
 (.obT (.obT (.obT (.ret (fun r=>(Ob (zb r.1=(0:Nat)) ∧
 (Ob ((0:Int)=r.2.1) ∧
 (Ob (val (y36 u4 u1 (val (jay u4 u1)) in_ l)=r.2.2) ∧
 True)))) ⟨⟨rfl⟩,⟨⟨rfl⟩,⟨⟨rfl⟩,trivial⟩⟩⟩))))
 (.call (.obT (.obT (.obT (.rc))))))))
def jF4 (u4:zY) (u1:List (List NC)) (in_:List (List (List Nat))) (l:List (List Int)) (r:List (List (List Nat)) × Int × Int) (h:ze (jca u4 u1 in_ l) some=some r):jaR Tryz.f63 ((sp_80 (sp_116 (sp_118 (sp_117 sp0))))) (fun _ _ _=>none) (jaK jt7 [.d (.s u4),.x (.st zS u1),.x (.bb .f32 32 in_),.r (.recs 2 l)]) [.c (.m 79 [(110:Nat)] (.bb .f32 32 r.1)),.c (.d (.i .i64 r.2.1)),.c (.d (.i .i64 r.2.2))] :=Sk.vc (jHf u4 u1 in_ l r) (by kernel_rfl) h
def jF5:jaf Tryz.prog 63 true (jah jt7 jt8):=by
 refine jan (sp:=(sp_80 (sp_116 (sp_118 (sp_117 sp0))))) (fn:=Tryz.f63) (body:=bodyOf Tryz.f63) mixed (sp_80_ok (sp_116_ok (sp_118_ok (sp_117_ok jaj)))) Tryz.func63 (by kernel_rfl) (by kernel_rfl) fun ls t h ho b hb=>?_;unfold jt8 at h;split at h
 ·rename_i u4 u1 in_ l;cases h;obtain rfl:=jav hb;exact⟨zh (by kernel_rfl),_,_,jF4 u4 u1 in_ l _ (jai ho)⟩
 ·cases h
def sp_63_ok {sp:jaa} (h:jab Tryz.prog sp):jab Tryz.prog (sp_63 sp):=jag jF5 h
open Go.IntKind (wrap)
def jbq (u1:List (List NC)) (x0:Int × List Int) (r0:List Int × Bool) (x1:(Int × List Int)):Option ((Int × List Int) ⊕ (Unit ⊕ (List Int))) :=
 if x1.1<(↑(zb (nL u1 (zf (za r0.1 x0.1.toNat (0:Int))) (2:Nat))):Int)then if 0<=x1.1∧x1.1<(↑(zb (nL u1 (zf (za r0.1 x0.1.toNat (0:Int))) (2:Nat))):Int)then
  if zf x1.1<zb (nL u1 (zf (za r0.1 x0.1.toNat (0:Int))) (2:Nat))then if 0<=za (nL u1 (zf (za r0.1 x0.1.toNat (0:Int))) (2:Nat)) x1.1.toNat (0:Int)∧za (nL u1 (zf (za r0.1 x0.1.toNat (0:Int))) (2:Nat)) x1.1.toNat 0<(↑x1.2.length:Int)then
   if zf (za (nL u1 (zf (za r0.1 x0.1.toNat (0:Int))) (2:Nat)) x1.1.toNat (0:Int))<zb x1.2 then if 0<=x1.1∧x1.1<(↑(zb (nL u1 (zf (za r0.1 x0.1.toNat (0:Int))) (3:Nat))):Int)then
    if zf x1.1<zb (nL u1 (zf (za r0.1 x0.1.toNat (0:Int))) (3:Nat))then if x1.1>0 then
     if 0<=x0.1∧x0.1<(↑r0.1.length:Int)then if zf x0.1<zb r0.1 then
      if 0<=za r0.1 x0.1.toNat (0:Int)∧za r0.1 x0.1.toNat 0<(↑x1.2.length:Int)then if zf (za r0.1 x0.1.toNat (0:Int))<zb x1.2 then
       if(wrap .i64 (wrap .i64 (za x1.2 (zf (za (nL u1 (zf (za r0.1 x0.1.toNat (0:Int))) (2:Nat)) x1.1.toNat (0:Int))) 0+za (nL u1 (zf (za r0.1 x0.1.toNat (0:Int))) (3:Nat)) x1.1.toNat (0:Int))+nI u1 (zf (za r0.1 x0.1.toNat (0:Int))) (5:Nat))!=za x1.2 (zf (za r0.1 x0.1.toNat (0:Int))) (0:Int))=true then some (.inr ((.inl ())))
       else if 0<=x0.1∧x0.1<(↑r0.1.length:Int)then
        if zf x0.1<zb r0.1 then if 0<=za r0.1 x0.1.toNat (0:Int)∧za r0.1 x0.1.toNat 0<(↑x1.2.length:Int)then
         if zf (za r0.1 x0.1.toNat (0:Int))<zb x1.2 then some (.inl ((wrap .i64 (x1.1+1),qv x1.2 (zf (za r0.1 x0.1.toNat (0:Int))) (wrap .i64 (wrap .i64 (za x1.2 (zf (za (nL u1 (zf (za r0.1 x0.1.toNat (0:Int))) (2:Nat)) x1.1.toNat (0:Int))) 0+za (nL u1 (zf (za r0.1 x0.1.toNat (0:Int))) (3:Nat)) x1.1.toNat (0:Int))+nI u1 (zf (za r0.1 x0.1.toNat (0:Int))) (5:Nat))))))
         else none
         else none
        else none
        else none
       else none
      else none
      else none
     else none
     else
     if 0<=x0.1∧x0.1<(↑r0.1.length:Int)then if zf x0.1<zb r0.1 then
      if 0<=za r0.1 x0.1.toNat (0:Int)∧za r0.1 x0.1.toNat 0<(↑x1.2.length:Int)then if zf (za r0.1 x0.1.toNat (0:Int))<zb x1.2 then some (.inl ((wrap .i64 (x1.1+1),qv x1.2 (zf (za r0.1 x0.1.toNat (0:Int))) (wrap .i64 (wrap .i64 (za x1.2 (zf (za (nL u1 (zf (za r0.1 x0.1.toNat (0:Int))) (2:Nat)) x1.1.toNat (0:Int))) 0+za (nL u1 (zf (za r0.1 x0.1.toNat (0:Int))) (3:Nat)) x1.1.toNat (0:Int))+nI u1 (zf (za r0.1 x0.1.toNat (0:Int))) (5:Nat))))))
       else none
      else none
      else none
     else none
    else none
    else none
   else none
   else none
  else none
  else none
 else some (.inr (.inr x1.2))
def jn2 (x0:Int × List Int) (u19:Unit):Option ((Int × List Int) ⊕ (Unit ⊕ (List Int))) :=some (.inr ((.inl ())))
def jdB (x0:Int × List Int) (u33:List Int):Option ((Int × List Int) ⊕ (Unit ⊕ (List Int))) :=some (.inl ((wrap .i64 (x0.1+1),u33)))
def jhD (x0:Int × List Int):(Unit ⊕ (List Int))->Option ((Int × List Int) ⊕ (Unit ⊕ (List Int))) :=(qz (jn2 x0) (jdB x0))
def jcl (u1:List (List NC)) (r0:List Int × Bool) (x0:(Int × List Int)):Option ((Int × List Int) ⊕ (Unit ⊕ (List Int))) :=
 if x0.1<(↑r0.1.length:Int)then if 0<=x0.1∧x0.1<(↑r0.1.length:Int)then
  if zf x0.1<zb r0.1 then if 0<=za r0.1 x0.1.toNat (0:Int)∧za r0.1 x0.1.toNat 0<(↑u1.length:Int)then
   if zf (za r0.1 x0.1.toNat (0:Int))<zb u1 then ze (jae (jbq u1 x0 r0) big (((0:Int),x0.2))) (jhD x0)
   else none
   else none
  else none
  else none
 else some (.inr (.inr x0.2))
def jn3 (u5:Unit):Option (List Int × Bool) :=some ([],false)
def jn4 (u10:List Int):Option (List Int × Bool) :=some (u10,true)
def jqS:(Unit ⊕ (List Int))->Option (List Int × Bool) :=(qz (jn3) (jn4))
def jc9 (u4:zY) (u1:List (List NC)):Option (List Int × Bool) :=
 ze (jiJ u4 u1) fun r0 =>
 if 0<=(↑u1.length:Int)∧(↑u1.length:Int)=(↑u1.length:Int)∧(↑(8:Nat):Int)*(↑u1.length:Int)<=281474976710656∧(↑u1.length:Int)<=9223372036854775807 then ze (jae (jcl u1 r0) big (((0:Int),zi (zf (↑u1.length:Int)) (0:Int)))) (jqS)
 else none
end Go.Sh
end

section
namespace Go.Sh
open Go Go.Proofs Go.RowKit Go.Sx
open Go.IntKind (wrap)
def jlc:List SV:=[.a [.r (.ints .i64 []),.d],.c (.d),.c (.d)]
def jfh (u86:List Int) (u87 i by_:Int):Option (List Int × Int) :=
 ze (jaO u86) fun r0 =>
 if(zb r0+zb [i])*8<=140737488355328∧zb r0+zb [i]<=9223372036854775807 then some ((r0++[i],wrap .i64 (u87+by_)))
 else none
def jld:List Lf->Option GT|[.r (.ints .i64 u86),.d (.i .i64 u87),.d (.i .i64 i),.d (.i .i64 by_)]=>some (.leaf (ok (jfh u86 u87 i by_)) [.s [.row 3 (.ints .i64 ((val (jfh u86 u87 i by_)).1)),.d (.i .i64 ((val (jfh u86 u87 i by_)).2))]])|_=>none
abbrev sp_133:jaa->jaa:=jap 133 true (jah jlc jld)
def jB0 (u86:List Int) (u87 i by_:Int) (r:List Int × Int):Sk (top r) (jfh u86 u87 i by_) :=.call (.ob (.obT (.rc)))
def jzA (u86:List Int) (u87 i by_:Int) (r:List Int × Int) (h:ze (jfh u86 u87 i by_) some=some r):jaR Tryz.f133 ((sp_136 sp0)) (fun _ _ _=>none) (jaK jlc [.r (.ints .i64 u86),.d (.i .i64 u87),.d (.i .i64 i),.d (.i .i64 by_)]) [.s [.row 3 (.ints .i64 r.1),.d (.i .i64 r.2)]] :=Sk.vc (jB0 u86 u87 i by_ r) (by kernel_rfl) h
def jzB:jaf Tryz.prog 133 true (jah jlc jld):=by
 refine jan (sp:=(sp_136 sp0)) (fn:=Tryz.f133) (body:=bodyOf Tryz.f133) mixed (sp_136_ok jaj) Tryz.func133 (by kernel_rfl) (by kernel_rfl) fun ls t h ho b hb=>?_;unfold jld at h;split at h
 ·rename_i u86 u87 i by_;cases h;obtain rfl:=jav hb;exact⟨zh (by kernel_rfl),_,_,jzA u86 u87 i by_ _ (jai ho)⟩
 ·cases h
def sp_133_ok {sp:jaa} (h:jab Tryz.prog sp):jab Tryz.prog (sp_133 sp):=jag jzB h
end Go.Sh
end

section
namespace Go.Sh
open Go Go.Proofs Go.RowKit Go.Sx
open Go.IntKind (wrap)
def jfi:List SV:=[.c (.p [.d,.x (.st zS []),.r (.ints .i64 [])])]
def y50 (u6:List (List NC)) (u7:List Int) (x0:Int × List (List NC)) (x1:(Int × List (List NC))):Option ((Int × List (List NC)) ⊕ ((Int × Int × List Int × List Int) ⊕ (List (List NC)))) :=
 if x1.1<(↑(zb (nL u6 (zf (za u7 x0.1.toNat (0:Int))) (2:Nat))):Int)then if 0<=x1.1∧x1.1<(↑(zb (nL u6 (zf (za u7 x0.1.toNat (0:Int))) (2:Nat))):Int)then
  if zf x1.1<zb (nL u6 (zf (za u7 x0.1.toNat (0:Int))) (2:Nat))then if 0<=za (nL u6 (zf (za u7 x0.1.toNat (0:Int))) (2:Nat)) x1.1.toNat (0:Int)∧za (nL u6 (zf (za u7 x0.1.toNat (0:Int))) (2:Nat)) x1.1.toNat 0<(↑x1.2.length:Int)then
   if zf (za (nL u6 (zf (za u7 x0.1.toNat (0:Int))) (2:Nat)) x1.1.toNat (0:Int))<zb x1.2 then if 0<=x1.1∧x1.1<(↑(zb (nL u6 (zf (za u7 x0.1.toNat (0:Int))) (3:Nat))):Int)then
    if zf x1.1<zb (nL u6 (zf (za u7 x0.1.toNat (0:Int))) (3:Nat))then
     ze (jfh (nL x1.2 (zf (za (nL u6 (zf (za u7 x0.1.toNat (0:Int))) (2:Nat)) x1.1.toNat (0:Int))) (0:Nat)) (nI x1.2 (zf (za (nL u6 (zf (za u7 x0.1.toNat (0:Int))) (2:Nat)) x1.1.toNat (0:Int))) (1:Nat)) (za u7 x0.1.toNat (0:Int)) (wrap .i64 (za (nL u6 (zf (za u7 x0.1.toNat (0:Int))) (3:Nat)) x1.1.toNat 0+nI u6 (zf (za u7 x0.1.toNat (0:Int))) (5:Nat)))) fun r0 =>
     if(x1.1==0)=true then
     if 0<=za u7 x0.1.toNat (0:Int)∧za u7 x0.1.toNat 0<(↑x1.2.length:Int)then if zf (za u7 x0.1.toNat (0:Int))<zb x1.2 then some (.inl ((wrap .i64 (x1.1+1),qv x1.2 (zf (za u7 x0.1.toNat (0:Int))) [NC.r (Cont.ints .i64 r0.1),NC.d (D.i .i64 r0.2)])))
      else none
     else none
     else
     if 0<=za u7 x0.1.toNat (0:Int)∧za u7 x0.1.toNat 0<(↑x1.2.length:Int)then if zf (za u7 x0.1.toNat (0:Int))<zb x1.2 then
      if(r0.2 != nI x1.2 (zf (za u7 x0.1.toNat (0:Int))) (1:Nat))=true then if 0<=za u7 x0.1.toNat (0:Int)∧za u7 x0.1.toNat 0<(↑x1.2.length:Int)then
       if zf (za u7 x0.1.toNat (0:Int))<zb x1.2 then some (.inr ((.inl ((nI x1.2 (zf (za u7 x0.1.toNat (0:Int))) (1:Nat),r0.2,nL x1.2 (zf (za u7 x0.1.toNat (0:Int))) (0:Nat),r0.1)))))
       else none
       else none
      else some (.inl ((wrap .i64 (x1.1+1),x1.2)))
      else none
     else none
    else none
    else none
   else none
   else none
  else none
  else none
 else some (.inr (.inr x1.2))
def jo0 (x0:Int × List (List NC)) (u19:Int × Int × List Int × List Int):Option ((Int × List (List NC)) ⊕ ((Int × Int × List Int × List Int) ⊕ (List (List NC)))) :=some (.inr ((.inl ((u19.1,u19.2.1,u19.2.2.1,u19.2.2.2)))))
def y234 (x0:Int × List (List NC)) (u33:List (List NC)):Option ((Int × List (List NC)) ⊕ ((Int × Int × List Int × List Int) ⊕ (List (List NC)))) :=some (.inl ((wrap .i64 (x0.1+1),u33)))
def y187 (x0:Int × List (List NC)):((Int × Int × List Int × List Int) ⊕ (List (List NC)))->Option ((Int × List (List NC)) ⊕ ((Int × Int × List Int × List Int) ⊕ (List (List NC)))) :=(qz (jo0 x0) (y234 x0))
def y51 (u6:List (List NC)) (u7:List Int) (x0:(Int × List (List NC))):Option ((Int × List (List NC)) ⊕ ((Int × Int × List Int × List Int) ⊕ (List (List NC)))) :=
 if x0.1<(↑u7.length:Int)then if 0<=x0.1∧x0.1<(↑u7.length:Int)then
  if zf x0.1<zb u7 then if 0<=za u7 x0.1.toNat (0:Int)∧za u7 x0.1.toNat 0<(↑u6.length:Int)then
   if zf (za u7 x0.1.toNat (0:Int))<zb u6 then if((↑(zb (nL u6 (zf (za u7 x0.1.toNat (0:Int))) (2:Nat))):Int)==0)=true then
    if 0<=za u7 x0.1.toNat (0:Int)∧za u7 x0.1.toNat 0<(↑x0.2.length:Int)then if zf (za u7 x0.1.toNat (0:Int))<zb x0.2 then ze (jae (y50 u6 u7 x0) big (((0:Int),qv x0.2 (zf (za u7 x0.1.toNat (0:Int))) [NC.r (Cont.ints .i64 [za u7 x0.1.toNat (0:Int)]),NC.d (D.i .i64 0)]))) (y187 x0)
     else none
    else none
    else
    ze (jae (y50 u6 u7 x0) big (((0:Int),x0.2))) (y187 x0)
   else none
   else none
  else none
  else none
 else some (.inr (.inr x0.2))
def jo1 (u5:Int × Int × List Int × List Int):Option (List (List NC) × List Int × Int × List Int × Int × Bool) :=some ([],u5.2.2.1,u5.1,u5.2.2.2,u5.2.1,true)
def jo2 (u10:List (List NC)):Option (List (List NC) × List Int × Int × List Int × Int × Bool) :=some ((u10,[],0,[],0,false))
def y265:((Int × Int × List Int × List Int) ⊕ (List (List NC)))->Option (List (List NC) × List Int × Int × List Int × Int × Bool) :=(qz (jo1) (jo2))
def y11 (u9:zY) (u6:List (List NC)) (u7:List Int):Option (List (List NC) × List Int × Int × List Int × Int × Bool) :=
 if 0<=(↑u6.length:Int)∧(↑u6.length:Int)=(↑u6.length:Int)∧(↑(32:Nat):Int)*(↑u6.length:Int)<=281474976710656∧(↑u6.length:Int)<=9223372036854775807 then ze (jae (y51 u6 u7) big (((0:Int),zi (zf (↑u6.length:Int)) [NC.r (Cont.ints .i64 []),NC.d (D.i .i64 0)]))) (y265)
 else none
def jfj:List Lf->Option GT|[.d (.s u9),.x (.st [.s,.i .i64,.ints .i64,.ints .i64,.ints .i64,.i .i64,.recs 5,.i .i64] u6),.r (.ints .i64 u7)]=>some (.leaf (ok (y11 u9 u6 u7)) [.c (.x 140 (.st ([NK.ints .i64,NK.i .i64]) ((val (y11 u9 u6 u7)).1))),.s [.fe (.ints .i64 ((val (y11 u9 u6 u7)).2.1)),.d (.i .i64 ((val (y11 u9 u6 u7)).2.2.1)),.row 3 (.ints .i64 ((val (y11 u9 u6 u7)).2.2.2.1)),.d (.i .i64 ((val (y11 u9 u6 u7)).2.2.2.2.1))],.c (.d (.b ((val (y11 u9 u6 u7)).2.2.2.2.2)))])|_=>none
abbrev sp_88:jaa->jaa:=jap 88 true (jah jfi jfj)
abbrev y266 (u9:zY) (u6:List (List NC)) (u7:List Int) (r:List (List NC) × List Int × Int × List Int × Int × Bool):Lp ((Int × List (List NC)) × Nat) ((Int × List (List NC))) (((Int × Int × List Int × List Int) ⊕ (List (List NC)))) ((List (List NC) × List Int × Int × List Int × Int × Bool)) (List (List NC) × List Int × Int × List Int × Int × Bool) :=⟨fun z=>z.1,fun z=>z.2,fun z x n=>(x,n),fun z=>y51 u6 u7,fun z=>y265,fun z=>top r,fun z=>0,[.c fun _=>0,.c fun _=>0,.c fun _=>(↑u7.length:Int),.c fun vv=>vv.1.1,.c fun _=>u9,.c fun vv=>vv.1.2,.c fun _=>qd none (0:Nat) (0:Nat),.c fun _=>(0:Int),.c fun _=>qd none (0:Nat) (0:Nat),.c fun _=>(0:Int),.c fun _=>u7,.c fun _=>u6]⟩
abbrev y267 (u9:zY) (u6:List (List NC)) (u7:List Int) (r:List (List NC) × List Int × Int × List Int × Int × Bool) (m1:Nat):Lp ((Int × List (List NC)) × Nat × (Int × List (List NC)) × Nat) ((Int × List (List NC))) (((Int × Int × List Int × List Int) ⊕ (List (List NC)))) (((Int × List (List NC)) ⊕ ((Int × Int × List Int × List Int) ⊕ (List (List NC))))) (List (List NC) × List Int × Int × List Int × Int × Bool) :=⟨fun z=>z.2.2.1,fun z=>z.2.2.2,fun z x n=>(z.1,z.2.1,x,n),fun z=>y50 u6 u7 z.1,fun z=>y187 z.1,fun z=>(y266 u9 u6 u7 r).cx (z.1,m1),fun z=>z.2.1,[.c fun _=>0,.c fun _=>0,.c fun vv=>za u7 vv.1.1.toNat (0:Int),.c fun _=>0,.c fun _=>(↑u7.length:Int),.c fun vv=>vv.1.1,.c fun vv=>(↑(zb (nL u6 (zf (za u7 vv.1.1.toNat (0:Int))) (2:Nat))):Int),.c fun vv=>vv.2.2.1.1,.c fun _=>u9,.c fun vv=>vv.2.2.1.2,.c fun _=>qd none (0:Nat) (0:Nat),.c fun _=>(0:Int),.c fun _=>qd none (0:Nat) (0:Nat),.c fun _=>(0:Int),.c fun vv=>nS u6 (zf (za u7 vv.1.1.toNat (0:Int))) (0:Nat),.c fun vv=>nI u6 (zf (za u7 vv.1.1.toNat (0:Int))) (1:Nat),.c fun vv=>nI u6 (zf (za u7 vv.1.1.toNat (0:Int))) (5:Nat),.c fun vv=>nI u6 (zf (za u7 vv.1.1.toNat (0:Int))) (7:Nat),.c fun _=>u7,.c fun vv=>nL u6 (zf (za u7 vv.1.1.toNat (0:Int))) (2:Nat),.c fun _=>u6,.c fun vv=>nL u6 (zf (za u7 vv.1.1.toNat (0:Int))) (3:Nat),.c fun vv=>nL u6 (zf (za u7 vv.1.1.toNat (0:Int))) (4:Nat),.c fun vv=>nR u6 (zf (za u7 vv.1.1.toNat (0:Int))) (6:Nat)]⟩
def jsy (u9:zY) (u6:List (List NC)) (u7:List Int) (r:List (List NC) × List Int × Int × List Int × Int × Bool):Sk (top r) (ze (jae (y51 u6 u7) big (((0:Int),zi (zf (↑u6.length:Int)) [NC.r (Cont.ints .i64 []),NC.d (D.i .i64 0)]))) (y265)) :=
 .loop (y266 u9 u6 u7 r) (fun kk=>(((0:Int),zi (zf (↑u6.length:Int)) [NC.r (Cont.ints .i64 []),NC.d (D.i .i64 0)]),big)) fun z0 =>
 .br
 (.ob (.ob (.obT (.ob (.ob (.brB
 (.ob (.ob (.loop (y267 u9 u6 u7 r z0.2) (fun kk=>(z0.1,kk,((0:Int),qv z0.1.2 (zf (za u7 z0.1.1.toNat (0:Int))) [NC.r (Cont.ints .i64 [za u7 z0.1.1.toNat (0:Int)]),NC.d (D.i .i64 0)]),big)) fun z1 =>
 .br
 (.ob (.ob (.ob (.ob (.ob (.ob (.call (.brB
 (.ob (.ob (.next)))
 (.ob (.ob (.brB
 (.ob (.ob (.exit (.exit (.obT (.obT (.obT (.ret (fun r=>(Ob (zb r.1=(0:Nat)) ∧
 (Ob (nL z1.2.2.1.2 (zf (za u7 z1.1.1.toNat (0:Int))) (0:Nat)=r.2.1) ∧
 (Ob (nI z1.2.2.1.2 (zf (za u7 z1.1.1.toNat (0:Int))) (1:Nat)=r.2.2.1) ∧
 (Ob ((val (jfh (nL z1.2.2.1.2 (zf (za (nL u6 (zf (za u7 z1.1.1.toNat (0:Int))) (2:Nat)) z1.2.2.1.1.toNat (0:Int))) (0:Nat)) (nI z1.2.2.1.2 (zf (za (nL u6 (zf (za u7 z1.1.1.toNat (0:Int))) (2:Nat)) z1.2.2.1.1.toNat (0:Int))) (1:Nat)) (za u7 z1.1.1.toNat (0:Int)) (wrap .i64 (za (nL u6 (zf (za u7 z1.1.1.toNat (0:Int))) (3:Nat)) z1.2.2.1.1.toNat 0+nI u6 (zf (za u7 z1.1.1.toNat (0:Int))) (5:Nat))))).1=r.2.2.2.1) ∧
 (Ob ((val (jfh (nL z1.2.2.1.2 (zf (za (nL u6 (zf (za u7 z1.1.1.toNat (0:Int))) (2:Nat)) z1.2.2.1.1.toNat (0:Int))) (0:Nat)) (nI z1.2.2.1.2 (zf (za (nL u6 (zf (za u7 z1.1.1.toNat (0:Int))) (2:Nat)) z1.2.2.1.1.toNat (0:Int))) (1:Nat)) (za u7 z1.1.1.toNat (0:Int)) (wrap .i64 (za (nL u6 (zf (za u7 z1.1.1.toNat (0:Int))) (3:Nat)) z1.2.2.1.1.toNat 0+nI u6 (zf (za u7 z1.1.1.toNat (0:Int))) (5:Nat))))).2=r.2.2.2.2.1) ∧
 (Ob (true=r.2.2.2.2.2) ∧
 True))))))) ⟨⟨rfl⟩,⟨⟨rfl⟩,⟨⟨rfl⟩,⟨⟨rfl⟩,⟨⟨rfl⟩,⟨⟨rfl⟩,trivial⟩⟩⟩⟩⟩⟩))))))))
 (.next))))))))))))
 (.exit (.next)))))
 (.loop (y267 u9 u6 u7 r z0.2) (fun kk=>(z0.1,kk,((0:Int),z0.1.2),big)) fun z1 =>
 .br
 (.ob (.ob (.ob (.ob (.ob (.ob (.call (.brB
 (.ob (.ob (.next)))
 (.ob (.ob (.brB
 (.ob (.ob (.exit (.exit (.obT (.obT (.obT (.ret (fun r=>(Ob (zb r.1=(0:Nat)) ∧
 (Ob (nL z1.2.2.1.2 (zf (za u7 z1.1.1.toNat (0:Int))) (0:Nat)=r.2.1) ∧
 (Ob (nI z1.2.2.1.2 (zf (za u7 z1.1.1.toNat (0:Int))) (1:Nat)=r.2.2.1) ∧
 (Ob ((val (jfh (nL z1.2.2.1.2 (zf (za (nL u6 (zf (za u7 z1.1.1.toNat (0:Int))) (2:Nat)) z1.2.2.1.1.toNat (0:Int))) (0:Nat)) (nI z1.2.2.1.2 (zf (za (nL u6 (zf (za u7 z1.1.1.toNat (0:Int))) (2:Nat)) z1.2.2.1.1.toNat (0:Int))) (1:Nat)) (za u7 z1.1.1.toNat (0:Int)) (wrap .i64 (za (nL u6 (zf (za u7 z1.1.1.toNat (0:Int))) (3:Nat)) z1.2.2.1.1.toNat 0+nI u6 (zf (za u7 z1.1.1.toNat (0:Int))) (5:Nat))))).1=r.2.2.2.1) ∧
 (Ob ((val (jfh (nL z1.2.2.1.2 (zf (za (nL u6 (zf (za u7 z1.1.1.toNat (0:Int))) (2:Nat)) z1.2.2.1.1.toNat (0:Int))) (0:Nat)) (nI z1.2.2.1.2 (zf (za (nL u6 (zf (za u7 z1.1.1.toNat (0:Int))) (2:Nat)) z1.2.2.1.1.toNat (0:Int))) (1:Nat)) (za u7 z1.1.1.toNat (0:Int)) (wrap .i64 (za (nL u6 (zf (za u7 z1.1.1.toNat (0:Int))) (3:Nat)) z1.2.2.1.1.toNat 0+nI u6 (zf (za u7 z1.1.1.toNat (0:Int))) (5:Nat))))).2=r.2.2.2.2.1) ∧
 (Ob (true=r.2.2.2.2.2) ∧
 True))))))) ⟨⟨rfl⟩,⟨⟨rfl⟩,⟨⟨rfl⟩,⟨⟨rfl⟩,⟨⟨rfl⟩,⟨⟨rfl⟩,trivial⟩⟩⟩⟩⟩⟩))))))))
 (.next))))))))))))
 (.exit (.next)))))))))
 (.exit (.obT (.obT (.obT (.ret (fun r=>(Ob (z0.1.2=r.1) ∧
 (Ob (zb r.2.1=(0:Nat)) ∧
 (Ob ((0:Int)=r.2.2.1) ∧
 (Ob (zb r.2.2.2.1=(0:Nat)) ∧
 (Ob ((0:Int)=r.2.2.2.2.1) ∧
 (Ob (false=r.2.2.2.2.2) ∧
 True))))))) ⟨⟨rfl⟩,⟨⟨rfl⟩,⟨⟨rfl⟩,⟨⟨rfl⟩,⟨⟨rfl⟩,⟨⟨rfl⟩,trivial⟩⟩⟩⟩⟩⟩)))))
def jt9 (u9:zY) (u6:List (List NC)) (u7:List Int) (r:List (List NC) × List Int × Int × List Int × Int × Bool):Sk (top r) (y11 u9 u6 u7) :=.obT (.ob (.obT (jsy u9 u6 u7 r)))
def jsz (u9:zY) (u6:List (List NC)) (u7:List Int) (r:List (List NC) × List Int × Int × List Int × Int × Bool) (h:ze (y11 u9 u6 u7) some=some r):jaR Tryz.f88 ((sp_133 sp0)) (fun gs id _=>match id with
 |0=>some ⟨(Int × List (List NC)) × Nat,fun z=>⟨[(0,.w (.c (.p 2 0 1 0))),(2,.w (.c (.o 3))),(3,.w (.c (.p 4 0 1 0))),(21,.w (.c (.o 1))),(22,.w (.c (.d (.i .i64 ((↑u7.length:Int)))))),(23,.w (.c (.d (.i .i64 z.1.1))))],[(2,.ebox [.d (.s u9),.o 0,.o 1]),(3,.xrow 140 (XC.st [NK.ints .i64,NK.i .i64] z.1.2)),(4,.box 141 [.d (.v (qd none (0:Nat) (0:Nat))),.d (.i .i64 0),.d (.v (qd none (0:Nat) (0:Nat))),.d (.i .i64 0)]),(1,.ext (.ints .i64 u7)),(0,.xext (XC.st zS u6))],5⟩,fun z=>(y266 u9 u6 u7 r).inv z,fun z=>z.2⟩
 |2=>some ⟨(Int × List (List NC)) × Nat × (Int × List (List NC)) × Nat,fun z=>⟨[(0,.w (.c (.p 2 0 1 0))),(2,.w (.c (.o 3))),(3,.w (.c (.p 4 0 1 0))),(6,.w (.c (.d (.i .i64 (za u7 z.1.1.toNat (0:Int)))))),(7,.w (.c (.p 5 0 1 0))),(21,.w (.c (.o 1))),(22,.w (.c (.d (.i .i64 ((↑u7.length:Int)))))),(23,.w (.c (.d (.i .i64 (z.1.1))))),(46,.w (.c (.o 6))),(47,.w (.c (.d (.i .i64 ((↑(zb (nL u6 (zf (za u7 z.1.1.toNat (0:Int))) (2:Nat))):Int)))))),(48,.w (.c (.d (.i .i64 z.2.2.1.1))))],[(2,.ebox [.d (.s u9),.o 0,.o 1]),(3,.xrow 140 (XC.st [NK.ints .i64,NK.i .i64] z.2.2.1.2)),(4,.box 141 [.d (.v (qd none (0:Nat) (0:Nat))),.d (.i .i64 0),.d (.v (qd none (0:Nat) (0:Nat))),.d (.i .i64 0)]),(5,.box 118 [.d (.s (nS u6 (zf (za u7 z.1.1.toNat (0:Int))) (0:Nat))),.d (.i .i64 (nI u6 (zf (za u7 z.1.1.toNat (0:Int))) (1:Nat))),.o 6,.o 7,.o 8,.d (.i .i64 (nI u6 (zf (za u7 z.1.1.toNat (0:Int))) (5:Nat))),.o 9,.d (.i .i64 (nI u6 (zf (za u7 z.1.1.toNat (0:Int))) (7:Nat)))]),(1,.ext (.ints .i64 u7)),(6,.ext (.ints .i64 (nL u6 (zf (za u7 z.1.1.toNat (0:Int))) (2:Nat)))),(0,.xext (XC.st zS u6)),(7,.ext (.ints .i64 (nL u6 (zf (za u7 z.1.1.toNat (0:Int))) (3:Nat)))),(8,.ext (.ints .i64 (nL u6 (zf (za u7 z.1.1.toNat (0:Int))) (4:Nat)))),(9,.ext (.recs 5 (nR u6 (zf (za u7 z.1.1.toNat (0:Int))) (6:Nat))))],10⟩,fun z=>(y267 u9 u6 u7 r (gs.getD 0 0)).inv z,fun z=>z.2.2.2⟩
 |_=>none) (jaK jfi [.d (.s u9),.x (.st zS u6),.r (.ints .i64 u7)]) [.c (.x 140 (.st ([NK.ints .i64,NK.i .i64]) r.1)),.s [.fe (.ints .i64 r.2.1),.d (.i .i64 r.2.2.1),.row 3 (.ints .i64 r.2.2.2.1),.d (.i .i64 r.2.2.2.2.1)],.c (.d (.b r.2.2.2.2.2))] :=
 Sk.vc (jt9 u9 u6 u7 r) (by kernel_rfl) h
def jsA:jaf Tryz.prog 88 true (jah jfi jfj):=by
 refine jan (sp:=(sp_133 sp0)) (fn:=Tryz.f88) (body:=bodyOf Tryz.f88) mixed (sp_133_ok jaj) Tryz.func88 (by kernel_rfl) (by kernel_rfl) fun ls t h ho b hb=>?_;unfold jfj at h;split at h
 ·rename_i u9 u6 u7;cases h;obtain rfl:=jav hb;exact⟨zh (by kernel_rfl),_,_,jsz u9 u6 u7 _ (jai ho)⟩
 ·cases h
def sp_88_ok {sp:jaa} (h:jab Tryz.prog sp):jab Tryz.prog (sp_88 sp):=jag jsA h
end Go.Sh
end

section
namespace Go.Sh
open Go Go.Proofs Go.RowKit Go.Sx
open Go.IntKind (wrap)
def jgg:List SV:=[.a [.d,.x (.st zS [])]]
def y90 (r2:List (List NC) × List Int × Int × List Int × Int × Bool) (x0:(Int × List Int)):Option ((Int × List Int) ⊕ (List Int)) :=
 if x0.1<(↑r2.1.length:Int)then if 0<=x0.1∧x0.1<(↑r2.1.length:Int)then
  if zf x0.1<zb r2.1 then if(zb x0.2+zb [nI r2.1 x0.1.toNat (1:Nat)])*8<=140737488355328∧zb x0.2+zb [nI r2.1 x0.1.toNat (1:Nat)]<=9223372036854775807 then some (.inl ((wrap .i64 (x0.1+1),x0.2++[nI r2.1 x0.1.toNat (1:Nat)])))
   else none
  else none
  else none
 else some (.inr x0.2)
def y220 (u5:List Int):Option (List Int × Int) :=some ((u5,0))
def y12 (u4:zY) (u1:List (List NC)):Option (List Int × Int) :=
 if(jgx u4 u1)=true then
  ze (jcx u4 u1) fun r0 =>
  some ([],nzI r0)
 else
  ze (jay u4 u1) fun r1 =>
  ze (y11 u4 u1 r1) fun r2 =>
  if(r2.2.2.2.2.2)=true then
  some (([],13))
  else
  ze (jae (y90 r2) big (((0:Int),[]))) (y220)
def jgh:List Lf->Option GT|[.d (.s u4),.x (.st [.s,.i .i64,.ints .i64,.ints .i64,.ints .i64,.i .i64,.recs 5,.i .i64] u1)]=>some (.leaf (ok (y12 u4 u1)) [.c (.row 3 (.ints .i64 ((val (y12 u4 u1)).1))),.c (.d (.i .i64 ((val (y12 u4 u1)).2)))])|_=>none
abbrev sp_31:jaa->jaa:=jap 31 true (jah jgg jgh)
abbrev jjW (u4:zY) (u1:List (List NC)) (r:List Int × Int):Lp ((Int × List Int) × Nat) (Int × List Int) (List Int) (List Int × Int) (List Int × Int) :=⟨fun z=>z.1,fun z=>z.2,fun z x n=>(x,n),fun z=>y90 (val (y11 u4 u1 (val (jay u4 u1)))),fun z=>y220,fun z=>top r,fun z=>0,[.c fun _=>(↑(zb (val (y11 u4 u1 (val (jay u4 u1)))).1):Int),.c fun vv=>vv.1.1,.c fun vv=>vv.1.2,.c fun _=>(val (y11 u4 u1 (val (jay u4 u1)))).1]⟩
def jua (u4:zY) (u1:List (List NC)) (r:List Int × Int):Sk (top r) (ze (jae (y90 (val (y11 u4 u1 (val (jay u4 u1))))) big (((0:Int),[]))) (y220)) :=
 .loopQ (jjW u4 u1 r) [.c fun _=>(↑(zb (val (y11 u4 u1 (val (jay u4 u1)))).1):Int),.c fun vv=>vv.1.1,.p fun vv=>zb vv.1.2=(0:Nat),.c fun _=>(val (y11 u4 u1 (val (jay u4 u1)))).1] (fun kk=>(((0:Int),[]),big)) (fun z0 =>
 .br
 (.ob (.ob (.ob (.next))))
 (.exit (.obT (.obT (.rc))))) (fun _=>⟨rfl,trivial⟩)
def jvR (u4:zY) (u1:List (List NC)) (r:List Int × Int):Sk (top r) (y12 u4 u1) :=.brB
 (.call (.obT (.obT (.ret (fun r=>(Ob (zb r.1=(0:Nat)) ∧
 (Ob (nzI (val (jcx u4 u1))=r.2) ∧
 True))) ⟨⟨rfl⟩,⟨⟨rfl⟩,trivial⟩⟩))))
 (.call (.call (.brB
 (.obT (.obT (.ret (fun r=>(Ob (zb r.1=(0:Nat)) ∧
 (Ob ((13:Int)=r.2) ∧
 True))) ⟨⟨rfl⟩,⟨⟨rfl⟩,trivial⟩⟩)))
 (jua u4 u1 r))))
def jub (u4:zY) (u1:List (List NC)) (r:List Int × Int) (h:ze (y12 u4 u1) some=some r):jaR Tryz.f31 ((sp_80 (sp_88 sp0))) (fun gs id _=>match id with
 |0=>some ⟨(Int × List Int) × Nat,fun z=>⟨[(9,.w (.c (.o 1))),(27,.w (.c (.o 2))),(28,.w (.c (.d (.i .i64 ((↑(zb (val (y11 u4 u1 (val (jay u4 u1)))).1):Int)))))),(29,.w (.c (.d (.i .i64 z.1.1))))],[(1,.row 3 (.ints .i64 z.1.2)),(2,.xrow 140 (XC.st [NK.ints .i64,NK.i .i64] (val (y11 u4 u1 (val (jay u4 u1)))).1))],3⟩,fun z=>(jjW u4 u1 r).inv z,fun z=>z.2⟩
 |_=>none) (jaK jgg [.d (.s u4),.x (.st zS u1)]) [.c (.row 3 (.ints .i64 r.1)),.c (.d (.i .i64 r.2))] :=
 Sk.vc (jvR u4 u1 r) (by kernel_rfl) h
def juc:jaf Tryz.prog 31 true (jah jgg jgh):=by
 refine jan (sp:=(sp_80 (sp_88 sp0))) (fn:=Tryz.f31) (body:=bodyOf Tryz.f31) mixed (sp_80_ok (sp_88_ok jaj)) Tryz.func31 (by kernel_rfl) (by kernel_rfl) fun ls t h ho b hb=>?_;unfold jgh at h;split at h
 ·rename_i u4 u1;cases h;obtain rfl:=jav hb;exact⟨zh (by kernel_rfl),_,_,jub u4 u1 _ (jai ho)⟩
 ·cases h
def sp_31_ok {sp:jaa} (h:jab Tryz.prog sp):jab Tryz.prog (sp_31 sp):=jag juc h
end Go.Sh
end

section
namespace Go.Sh
open Go Go.Proofs Go.RowKit Go.Sx
open Go.IntKind (wrap)
variable {g:List (List NC)} {l:List Int}
def jhE {X Y X' Y':Type} {body:X->Option (X ⊕ Y)} {body':X'->Option (X' ⊕ Y')} (Rel:Nat->X->X'->Prop) (post:Y->Y'->Prop)
  (h:∀m x x',Rel m x x'->(∃y y',body x=some (.inr y)∧body' x'=some (.inr y')∧post y y')∨(∃m' x1 x1',m=m' + 1∧body x=some (.inl x1)∧body' x'=some (.inl x1')∧Rel m' x1 x1')) :
  ∀(m:Nat) (x:X) (x':X') (N N':Nat),m<N->m<N'->Rel m x x'->∃y y',jae body N x=some y∧jae body' N' x'=some y'∧post y y'
 |m,x,x',0,_,hN,_,_=>absurd hN (by omega)
 |m,x,x',_+1,0,_,hN,_=>absurd hN (by omega)
 |m,x,x',N+1,N' + 1,h1,h2,hr=>by
  unfold jae;rcases h m x x' hr with ⟨y,y',e,e',hp⟩|⟨m',x1,x1',rfl,e,e',hr'⟩
  ·rw[e,e'];exact⟨y,y',rfl,rfl,hp⟩
  ·rw[e,e'];exact jhE Rel post h m' x1 x1' N N' (by omega) (by omega) hr'
def jfK {i:Nat} (h:jbe g i=0):jd2 (nI g i 1) (nL g i 2).length (nL g i 3).length (nL g i 4).length=true∧jbQ (nI g i 1) (nL g i 3) (nL g i 4) (nI g i 5)=true∧jhr (nL g i 2)=false∧inB (nI g i 1) 0 4=true:=by
 unfold jbe at h
 repeat' (split at h)
 all_goals first|omega|skip
 all_goals
  rename_i h1 h2 h3 h4 h5 h6 h7 h8 h9 h10;simp at *
 all_goals simp_all
def jfk {i:Nat} (h:jbe g i=0):(nL g i 3).length=(nL g i 2).length∧((nL g i 2).length=0<->nI g i 1=0):=by
 have h1:=(jfK h).1;unfold jd2 at h1;split at h1
 ·rename_i hk;simp only[inB,zm,decide_eq_true_eq,beq_iff_eq]at h1 hk;omega
 ·rename_i hk;split at h1
  all_goals
   simp only[inB,zm,decide_eq_true_eq,beq_iff_eq]at h1 hk;omega
def jn5 {i:Nat} (h:jbe g i=0):(∀k,k<(nL g i 3).length->0<=(nL g i 3).getD k 0∧(nL g i 3).getD k 0<=64)∧0<=nI g i 5∧nI g i 5<=64:=by
 have h1:=(jfK h).2.1;unfold jbQ at h1;rw[zm,zm,zm]at h1;obtain⟨⟨⟨ha,_⟩,hd⟩,_⟩:=h1;simp only[inB,zm,decide_eq_true_eq]at hd;refine⟨fun k hk=>?_,hd⟩;rw[xL,xu]at ha;have:=ha ((nL g i 3).getD k 0) (by simp[za,hk])
 generalize (nL g i 3).getD k 0=c at *
 simp only[inB,Bool.not_eq_true,Bool.not_eq_false',zm,decide_eq_true_eq]at this;exact this
inductive WayTo (g:List (List NC)):List Int->Int->Nat->Prop where
 |one {i:Nat} (hi:i<g.length) (h:nI g i 1=0):WayTo g [(i:Int)] 0 i
 |on {w:List Int} {n:Int} {u i k:Nat} (h:WayTo g w n u) (hi:i<g.length) (hk:k<(nL g i 2).length) (he:(nL g i 2).getD k 0=(u:Int)):WayTo g (w++[(i:Int)]) (n+((nL g i 3).getD k 0+nI g i 5)) i
def WayTo.bound (hall:∀i,i<g.length->jbe g i=0) {w:List Int} {n:Int} {i:Nat} (h:WayTo g w n i):0<=n∧n<=128*(w.length:Int)∧i<g.length∧1<=w.length:=by
 induction h with
 |one hi h=>simp;omega
 | @on w n u i k h hi hk he ih =>
  obtain⟨h1,h2,h3⟩:=jn5 (hall i hi);have:=h1 k (by have:=(jfk (hall i hi)).1;omega);simp only[z9,zC,qa];omega
def jud (w:List Int) (n:Int):List NC:=[.r (.ints .i64 w),.d (.i .i64 n)]
def jsB (A:List (List NC)) (i u:Nat) (w:List Int) (n:Int) (hi:i<A.length):nI (A.set i (jud w n)) u 1=if i=u then n else nI A u 1:=by
 unfold nI;rw[jaL _ _ _ _ _ hi];split<;>rfl
def jsC (A:List (List NC)) (i u:Nat) (w:List Int) (n:Int) (hi:i<A.length):nL (A.set i (jud w n)) u 0=if i=u then w else nL A u 0:=by
 unfold nL;rw[jaL _ _ _ _ _ hi];split<;>rfl
def jc3 (g A:List (List NC)) (O:List Int) (u p:Nat):Prop:=nI A u 1=O.getD u 0∧WayTo g (nL A u 0) (nI A u 1) u∧(nL A u 0).length<=p+1
def jqT (g:List (List NC)) (O:List Int) (i m:Nat):Prop:=∀k v:Nat,k<m->(nL g i 2).getD k 0=(v:Int)->O.getD v 0+((nL g i 3).getD k 0+nI g i 5)=O.getD i 0
structure InvW (g:List (List NC)) (l:List Int) (j:Nat) (A:List (List NC)) (O:List Int):Prop where
 la:A.length=g.length
 lo:O.length=g.length
 don:∀p u:Nat,p<j->l.getD p 0=(u:Int)->jc3 g A O u p
 new:∀p u:Nat,j<=p->p<g.length->l.getD p 0=(u:Int)->O.getD u 0=0
 con:∀p u:Nat,p<j->l.getD p 0=(u:Int)->jqT g O u (nL g u 2).length∧((nL g u 2).length=0->O.getD u 0=0)
def jyi (g:List (List NC)) (y:Int × Int × List Int × List Int):Prop:=∃i:Nat,WayTo g y.2.2.1 y.1 i∧WayTo g y.2.2.2 y.2.1 i∧y.1≠y.2.1∧y.2.2.1.length<=g.length∧y.2.2.2.length<=g.length
def toE {w:List Int} {n b:Int} {i:Nat} (hw:w.length<100000) (hn:-1000000000<=n+b∧n+b<=1000000000):jfh w n (i:Int) b=some (w++[(i:Int)],n+b):=by
 unfold jfh jaO;rw[if_pos (by omega),jac,if_pos (by simp only[zC,qa];omega),jam (by omega)]
def jIs (h:Rg g l) {j i:Nat} (hj:j<g.length) (hi:i<g.length) (e:l.getD j 0=(i:Int)) (X:List (List NC)) (X':List Int) (A0:List (List NC)) (O0:List Int)
  (hA:A0.length=g.length) (hO:O0.length=g.length) (hd:∀p u:Nat,p<j->l.getD p 0=(u:Int)->jc3 g A0 O0 u p) (hn:∀p u:Nat,j<=p->p<g.length->l.getD p 0=(u:Int)->O0.getD u 0=0)
  (hz:(nL g i 2).length=0->jc3 g A0 O0 i j) (hcon:∀p u:Nat,p<j->l.getD p 0=(u:Int)->jqT g O0 u (nL g u 2).length∧((nL g u 2).length=0->O0.getD u 0=0)) :
  ∃y y',jae (y50 g l ((j:Int),X)) big ((0:Int),A0)=some y∧jae (jbq g ((j:Int),X') (l,true)) big ((0:Int),O0)=some y' ∧
   ((∃d,y=.inl d∧y'=.inl ()∧jyi g d)∨(∃A O,y=.inr A∧y'=.inr O∧InvW g l (j+1) A O)):=by
 have hgn:=h.n;have hL:=h.len;have hfr:=h.fw.fr i hi;obtain⟨hal,_⟩:=jfk (h.ok i hi);obtain⟨ra,rd1,rd2⟩:=jn5 (h.ok i hi)
 refine jhE (fun m (x:Int × List (List NC)) (x':Int × List Int)=>∃k:Nat,k+m=(nL g i 2).length∧x.1=(k:Int)∧x'.1=(k:Int)∧x.2.length=g.length∧x'.2.length=g.length ∧ (∀p u:Nat,p<j->l.getD p 0=(u:Int)->jc3 g x.2 x'.2 u p)∧(∀p u:Nat,j+1<=p->p<g.length->l.getD p 0=(u:Int)->x'.2.getD u 0=0)∧(((nL g i 2).length=0∨0<k)->jc3 g x.2 x'.2 i j) ∧ (∀p u:Nat,p<j->l.getD p 0=(u:Int)->jqT g x'.2 u (nL g u 2).length∧((nL g u 2).length=0->x'.2.getD u 0=0))∧jqT g x'.2 i k∧((nL g i 2).length=0->x'.2.getD i 0=0)) _ (fun m x x' hr=>?_) (nL g i 2).length _ _ big big (by have:big=18446744073709551616:=rfl;omega) (by have:big=18446744073709551616:=rfl;omega)
   ⟨0,by omega,rfl,rfl,hA,hO,hd,fun p u h1 h2 h3=>hn p u (by omega) h2 h3,fun hh=>hz (by omega),hcon,fun k v hk=>absurd hk (by omega),fun _=>hn j i (zq _) hj e⟩
 obtain⟨a,A⟩:=x;obtain⟨a',O⟩:=x';obtain⟨k,hk,h1,h2,hA,hO,hd,hn,hg,hcn,hci,hcz⟩:=hr;obtain rfl:a=(k:Int):=h1;obtain rfl:a'=(k:Int):=h2;have hA:A.length=g.length:=hA;have hO:O.length=g.length:=hO
 by_cases hkn:k<(nL g i 2).length
 ·obtain⟨j',u,hj',hu,e2,e3⟩:=h.from hj e hi hkn;obtain⟨g1,g2,g3⟩:=hd j' u hj' e3;have g1:nI A u 1=O.getD u 0:=g1;have g2:WayTo g (nL A u 0) (nI A u 1) u:=g2;have g3:(nL A u 0).length<=j' + 1:=g3;obtain⟨b1,b2,b3,b4⟩:=g2.bound h.ok;have hak:=ra k (by omega);have hway:=WayTo.on g2 hi hkn e2
  generalize hc:(nL g i 3).getD k 0=c at *
  have hto:jfh (nL A u 0) (nI A u 1) (i:Int) (wrap xd (c+nI g i 5))=some (nL A u 0++[(i:Int)],nI A u 1+(c+nI g i 5)):=by
   rw[jam (by omega),toE (by omega) (by omega)]
  have hlen2:(nL A u 0++[(i:Int)]).length<=j+1:=by
   simp only[z9,zC,qa];omega
  have hwr:wrap xd (wrap xd (O.getD u 0+c)+nI g i 5)=nI A u 1+(c+nI g i 5):=by
   rw[<-g1,jam (x:=nI A u 1+c) (by omega),jam (by omega)];omega
  have hne:∀p v:Nat,p<j->l.getD p 0=(v:Int)->i≠v:=fun p v hp hv=>jfJ h hj hp e hv
  have hnext:∀(A':List (List NC)) (O':List Int),A'.length=g.length->O'.length=g.length->(∀v:Nat,i≠v->nI A' v 1=nI A v 1∧nL A' v 0=nL A v 0∧O'.getD v 0=O.getD v 0)->jc3 g A' O' i j->jqT g O' i (k+1) ->
    ∃k':Nat,k' + (m-1)=(nL g i 2).length∧(k:Int)+1=(k':Int)∧(k:Int)+1=(k':Int)∧A'.length=g.length∧O'.length=g.length ∧ (∀p u:Nat,p<j->l.getD p 0=(u:Int)->jc3 g A' O' u p)∧(∀p u:Nat,j+1<=p->p<g.length->l.getD p 0=(u:Int)->O'.getD u 0=0)∧(((nL g i 2).length=0∨0<k')->jc3 g A' O' i j) ∧
     (∀p u:Nat,p<j->l.getD p 0=(u:Int)->jqT g O' u (nL g u 2).length∧((nL g u 2).length=0->O'.getD u 0=0))∧jqT g O' i k'∧((nL g i 2).length=0->O'.getD i 0=0):=by
   intro A' O' q1 q2 q3 q4 q5;refine⟨k+1,by omega,by omega,by omega,q1,q2,fun p v hp hv=>?_,fun p v hp hp2 hv=>?_,fun _=>q4,fun p v hp hv=>?_,q5,fun hh=>absurd hkn (by omega)⟩
   rotate_left 2
   ·have hvn:v<g.length:=by
     obtain⟨v',hv',ev,_⟩:=h.at (j:=p) (by omega);rw[hv]at ev;omega
    obtain⟨c1,c2⟩:=hcn p v hp hv;refine⟨fun k2 v2 hk2 hv2=>?_,fun hh=>by rw[(q3 v (hne p v hp hv)).2.2];exact c2 hh⟩;obtain⟨j3,u3,hj3,_,e5,e6⟩:=h.from (by omega) hv hvn hk2
    have hu3:u3=v2:=by
     rw[hv2]at e5;omega
    subst hu3;rw[(q3 v (hne p v hp hv)).2.2,(q3 u3 (hne j3 u3 (by omega) e6)).2.2];exact c1 k2 u3 hk2 hv2
   ·obtain⟨z1,z2,z3⟩:=q3 v (hne p v hp hv);obtain⟨w1,w2,w3⟩:=hd p v hp hv;exact⟨by rw[z1,z3];exact w1,by rw[z1,z2];exact w2,by rw[z2];exact w3⟩
   ·have:i≠v:=fun ev=>by
     have:=jfJ h hp2 (j':=j) (by omega) hv e;omega
    rw[(q3 v this).2.2];exact hn p v hp hp2 hv
  by_cases hk0:k=0
  ·right;subst hk0
   have q:=hnext (A.set i (jud (nL A u 0++[(i:Int)]) (nI A u 1+(c+nI g i 5)))) (O.set i (nI A u 1+(c+nI g i 5))) (by simp[hA]) (by simp[hO]) (fun v hv=>by
    rw[jsB _ _ _ _ _ (by omega),jsC _ _ _ _ _ (by omega),jaL _ _ _ _ _ (by omega),if_neg hv,if_neg hv,if_neg hv];exact⟨rfl,rfl,rfl⟩) (by
    unfold jc3;rw[jsB _ _ _ _ _ (by omega),jsC _ _ _ _ _ (by omega),jaL _ _ _ _ _ (by omega),if_pos rfl,if_pos rfl,if_pos rfl];exact⟨rfl,hway,hlen2⟩) (fun k2 v2 hk2 hv2=>by
    obtain rfl:k2=0:=by omega
    rw[e2]at hv2;obtain rfl:u=v2:=by omega
    have hiu:=hne j' u hj' e3;rw[jaL _ _ _ _ _ (by omega),jaL _ _ _ _ _ (by omega),if_neg hiu,if_pos rfl,hc,<-g1])
   refine⟨m-1,(_,A.set i (jud (nL A u 0++[(i:Int)]) (nI A u 1+(c+nI g i 5)))),(_,O.set i (nI A u 1+(c+nI g i 5))),by omega,?_,?_,q⟩
   ·unfold y50;simp only[zg,e,e2,hc];rw[if_pos (by omega),if_pos (by omega),if_pos hkn,if_pos (by omega),if_pos (by omega),if_pos (by omega),if_pos (by omega),hto,jac,if_pos (by simp),if_pos (by omega),if_pos (by omega),jam (by omega)];rfl
   ·unfold jbq;simp only[zg,e,e2,hc];rw[if_pos (by omega),if_pos (by omega),if_pos hkn,if_pos (by omega),if_pos (by omega),if_pos (by omega),if_pos (by omega),if_neg (by omega),if_pos (by omega),if_pos (by omega),if_pos (by omega),if_pos (by omega),hwr,jam (by omega)]
  ·obtain⟨w1,w2,w3⟩:=hg (.inr (by omega));have w1:nI A i 1=O.getD i 0:=w1
   by_cases hcl:nI A u 1+(c+nI g i 5)=nI A i 1
   ·right
    have q:=hnext A (O.set i (nI A u 1+(c+nI g i 5))) hA (by simp[hO]) (fun v hv=>by
     rw[jaL _ _ _ _ _ (by omega),if_neg hv];exact⟨rfl,rfl,rfl⟩) (by
     unfold jc3;rw[jaL _ _ _ _ _ (by omega),if_pos rfl];exact⟨hcl.symm,w2,w3⟩) (fun k2 v2 hk2 hv2=>by
     obtain⟨j3,u3,hj3,_,e5,e6⟩:=h.from hj e hi (show k2<(nL g i 2).length by omega)
     have hu3:u3=v2:=by
      rw[hv2]at e5;omega
     subst hu3;have hiu:=hne j3 u3 hj3 e6;rw[jaL _ _ _ _ _ (by omega),jaL _ _ _ _ _ (by omega),if_neg hiu,if_pos rfl,hcl,w1]
     by_cases hk3:k2=k
     ·subst hk3;rw[e2]at hv2;obtain rfl:u=u3:=by omega
      rw[hc,<-g1,hcl,w1]
     ·exact hci k2 u3 (by omega) hv2)
    refine⟨m-1,(_,A),(_,O.set i (nI A u 1+(c+nI g i 5))),by omega,?_,?_,q⟩
    ·unfold y50;simp only[zg,e,e2,hc];rw[if_pos (by omega),if_pos (by omega),if_pos hkn,if_pos (by omega),if_pos (by omega),if_pos (by omega),if_pos (by omega),hto,jac,if_neg (by simp;omega),if_pos (by omega),if_pos (by omega),if_neg (by simp[hcl]),jam (by omega)]
    ·unfold jbq;simp only[zg,e,e2,hc];rw[if_pos (by omega),if_pos (by omega),if_pos hkn,if_pos (by omega),if_pos (by omega),if_pos (by omega),if_pos (by omega),if_pos (by omega),if_pos (by omega),if_pos (by omega),if_pos (by omega),if_pos (by omega),hwr,if_neg (by rw[hcl,w1];simp),if_pos (by omega),if_pos (by omega),if_pos (by omega),if_pos (by omega),jam (by omega)]
   ·left;refine⟨.inl (nI A i 1,nI A u 1+(c+nI g i 5),nL A i 0,nL A u 0++[(i:Int)]),.inl (),?_,?_,.inl ⟨_,rfl,rfl,i,w2,hway,fun hh=>hcl hh.symm,by show(nL A i 0).length<=_;have:(nL A i 0).length<=j+1:=w3;omega,by show(nL A u 0++[(i:Int)]).length<=_;omega⟩⟩
    ·unfold y50;simp only[zg,e,e2,hc];rw[if_pos (by omega),if_pos (by omega),if_pos hkn,if_pos (by omega),if_pos (by omega),if_pos (by omega),if_pos (by omega),hto,jac,if_neg (by simp;omega),if_pos (by omega),if_pos (by omega),if_pos (by simpa using hcl),if_pos (by omega),if_pos (by omega)]
    ·unfold jbq;simp only[zg,e,e2,hc];rw[if_pos (by omega),if_pos (by omega),if_pos hkn,if_pos (by omega),if_pos (by omega),if_pos (by omega),if_pos (by omega),if_pos (by omega),if_pos (by omega),if_pos (by omega),if_pos (by omega),if_pos (by omega),hwr,if_pos (by rw[<-w1];simpa using hcl)]
 ·left
  have hd':∀p u:Nat,p<j+1->l.getD p 0=(u:Int)->jc3 g A O u p:=fun p u hp hu=>by
   by_cases hpj:p=j
   ·subst hpj;rw[e]at hu;obtain rfl:i=u:=by omega
    exact hg (by omega)
   ·exact hd p u (by omega) hu
  refine⟨.inr A,.inr O,?_,?_,.inr ⟨A,O,rfl,rfl,⟨hA,hO,hd',hn,fun p u hp hu=>by
   by_cases hpj:p=j
   ·subst hpj;rw[e]at hu;obtain rfl:i=u:=by omega
    obtain rfl:k=(nL g i 2).length:=by omega
    exact⟨hci,hcz⟩
   ·exact hcn p u (by omega) hu⟩⟩⟩
  ·unfold y50;simp only[zg,e];rw[if_neg (by omega)]
  ·unfold jbq;simp only[zg,e];rw[if_neg (by omega)]
def waysL (h:Rg g l):∃y y',jae (y51 g l) big ((0:Int),zi g.length (jud [] 0))=some y∧jae (jcl g (l,true)) big ((0:Int),zi g.length 0)=some y' ∧
   ((∃d,y=.inl d∧y'=.inl ()∧jyi g d)∨(∃A O,y=.inr A∧y'=.inr O∧InvW g l g.length A O)):=by
 have hgn:=h.n;have hL:=h.len
 refine jhE (fun m (x:Int × List (List NC)) (x':Int × List Int)=>∃j:Nat,j+m=g.length∧x.1=(j:Int)∧x'.1=(j:Int)∧InvW g l j x.2 x'.2) _ (fun m x x' hr=>?_) g.length _ _ big big (by have:big=18446744073709551616:=rfl;omega) (by have:big=18446744073709551616:=rfl;omega)
   ⟨0,by omega,rfl,rfl,by simp,by simp,fun p u hp=>absurd hp (by omega),fun p u _ _ _=>by
    simp only[za,yr];split<;>rfl,fun p u hp=>absurd hp (by omega)⟩
 obtain⟨a,A⟩:=x;obtain⟨a',O⟩:=x';obtain⟨j,hj,h1,h2,hI⟩:=hr;obtain rfl:a=(j:Int):=h1;obtain rfl:a'=(j:Int):=h2;obtain⟨hA,hO,hd,hn,hcn⟩:=hI;have hA:A.length=g.length:=hA;have hO:O.length=g.length:=hO
 by_cases hjn:j<g.length
 ·obtain⟨i,hi,e,_⟩:=h.at hjn;obtain⟨_,hk0⟩:=jfk (h.ok i hi);have hne:∀p v:Nat,p<j->l.getD p 0=(v:Int)->i≠v:=fun p v hp hv=>jfJ h hjn hp e hv
  have hstart:∃A0,(jae (y50 g l ((j:Int),A)) big ((0:Int),A0)).bind (y187 ((j:Int),A))=y51 g l ((j:Int),A)∧A0.length=g.length∧(∀p u:Nat,p<j->l.getD p 0=(u:Int)->jc3 g A0 O u p)∧((nL g i 2).length=0->jc3 g A0 O i j):=by
   by_cases hz:(nL g i 2).length=0
   ·refine⟨A.set i (jud [(i:Int)] 0),?_,by simp[hA],fun p v hp hv=>?_,fun _=>?_⟩
    ·unfold y51;simp only[zg,e];rw[if_pos (by omega),if_pos (by omega),if_pos (by omega),if_pos (by omega),if_pos hi,if_pos (by simp[hz]),if_pos (by omega),if_pos (by omega)];rfl
    ·obtain⟨w1,w2,w3⟩:=hd p v hp hv;unfold jc3;rw[jsB _ _ _ _ _ (by omega),jsC _ _ _ _ _ (by omega),if_neg (hne p v hp hv),if_neg (hne p v hp hv)];exact⟨w1,w2,w3⟩
    ·unfold jc3;rw[jsB _ _ _ _ _ (by omega),jsC _ _ _ _ _ (by omega),if_pos rfl,if_pos rfl];exact⟨(hn j i (zq _) hjn e).symm,.one hi (hk0.1 hz),by simp⟩
   ·refine⟨A,?_,hA,hd,fun hz'=>absurd hz' hz⟩;unfold y51;simp only[zg,e];rw[if_pos (by omega),if_pos (by omega),if_pos (by omega),if_pos (by omega),if_pos hi,if_neg (by simp;intro hh;exact hz (by simp[hh]))]
  obtain⟨A0,hs1,hs2,hs3,hs4⟩:=hstart
  have hR:(jae (jbq g ((j:Int),O) (l,true)) big ((0:Int),O)).bind (jhD ((j:Int),O))=jcl g (l,true) ((j:Int),O):=by
   unfold jcl;simp only[zg,e];rw[if_pos (by omega),if_pos (by omega),if_pos (by omega),if_pos (by omega),if_pos hi]
  obtain⟨y,y',q1,q2,q3⟩:=jIs h hjn hi e A O A0 O hs2 hO hs3 hn hs4 hcn;rw[q1]at hs1;rw[q2]at hR;rcases q3 with ⟨d,rfl,rfl,hd'⟩|⟨A1,O1,rfl,rfl,hI1⟩
  ·left;exact⟨.inl d,.inl (),by rw[<-hs1];rfl,by rw[<-hR];rfl,.inl ⟨d,rfl,rfl,hd'⟩⟩
  ·right;refine⟨m-1,((j:Int)+1,A1),((j:Int)+1,O1),by omega,?_,?_,j+1,by omega,by simp,by simp,hI1⟩
   ·rw[<-hs1]
    show y234 _ _=_
    unfold y234;rw[jam (by simp;omega)]
   ·rw[<-hR]
    show jdB _ _=_
    unfold jdB;rw[jam (by simp;omega)]
 ·left;obtain rfl:j=g.length:=by omega
  refine⟨.inr A,.inr O,?_,?_,.inr ⟨A,O,rfl,rfl,⟨hA,hO,hd,hn,hcn⟩⟩⟩
  ·unfold y51;rw[if_neg (by show ¬(g.length:Int)<_;omega)]
  ·unfold jcl;rw[if_neg (by show ¬(g.length:Int)<(l.length:Int);omega)]
def jle (h:Rg g l) (nm nm':ByteArray) :
  (∃d,y11 nm g l=some ([],d.2.2.1,d.1,d.2.2.2,d.2.1,true)∧jc9 nm' g=some ([],false)∧jyi g d) ∨
  (∃A O,y11 nm g l=some (A,[],0,[],0,false)∧jc9 nm' g=some (O,true)∧InvW g l g.length A O):=by
 have hn:=h.n;obtain⟨y,y',h1,h2,h3⟩:=waysL h;unfold y11 jc9;rw[jnH h.fw,h.ord,jac,if_pos (by omega),if_pos (by omega),zg,h2];have h1:jae (y51 g l) big ((0:Int),zi g.length [NC.r (Cont.ints xd []),NC.d (D.i xd (0:Int))])=some y:=h1;rw[h1];rcases h3 with ⟨d,rfl,rfl,hd⟩|⟨A,O,rfl,rfl,hI⟩
 ·exact .inl ⟨d,rfl,rfl,hd⟩
 ·exact .inr ⟨A,O,rfl,rfl,hI⟩
end Go.Sh
end

section
namespace Go.Sh
open Go Go.Proofs Go.RowKit Go.Sx
variable {g:List (List NC)} {l:List Int}
def jlf (h:Rg g l) {nm:ByteArray} (hs:nm.size<1000) (h0:(cg nm g).2=0):jbI nm g=none∧jbx nm g=some (nm,l,0) :=⟨by rw[jFy h.fw hs h0,h.ord],jFz h.fw hs h0 h.ord⟩
def jDM {A:List (List NC)} {O:List Int} (hI:InvW g l g.length A O) (h:Rg g l):∀u:Nat,u<g.length->nI A u 1=O.getD u 0:=fun u hu=>by
 obtain⟨p,hp,e⟩:=h.surj hu;exact(hI.don p u hp e).1
def jHg {A:List (List NC)} {O:List Int} (hA:A.length=g.length) (hO:O.length=g.length) (hn:g.length<1000) (he:∀u:Nat,u<g.length->nI A u 1=O.getD u 0) :
  jae (y90 (A,[],0,[],0,false)) big ((0:Int),[])=some O:=by
 have key:=jaD (body:=y90 (A,[],0,[],0,false)) (fun m=>((m:Int),O.take m)) (y:=O) (k:=g.length) (fun m hm=>by
   unfold y90;simp only[zg];rw[if_pos (by omega),if_pos (by omega),if_pos (by omega),if_pos (by simp only[zC,qa,qW];omega),jam (by omega),he m hm,List.take_add_one,zG (by omega)];simp[za,show m<O.length by omega]) (by
   unfold y90;rw[if_neg (by show ¬(g.length:Int)<(A.length:Int);omega),<-hO,x6]) (by omega)
 exact key
def jB3 (h:Rg g l) {nm:ByteArray} (hs:nm.size<1000) (h0:(cg nm g).2=0) (nm':ByteArray) :
  (y12 nm g=some ([],13)∧jc9 nm' g=some ([],false))∨∃O,y12 nm g=some (O,0)∧jc9 nm' g=some (O,true)∧O.length=g.length:=by
 obtain⟨h1,h2⟩:=jlf h hs h0;unfold y12 jgx jcx jay;rw[h1,h2]
 show(ze (y11 nm g l) _=_∧_)∨∃O,ze (y11 nm g l) _=_∧_
 rcases jle h nm nm' with ⟨d,e1,e2,_⟩|⟨A,O,e1,e2,hI⟩
 ·rw[e1,e2];exact .inl ⟨rfl,rfl⟩
 ·rw[e1,e2];refine .inr ⟨O,?_,rfl,hI.lo⟩
  show ze (jae (y90 (A,[],0,[],0,false)) big ((0:Int),[])) y220=_
  rw[jHg hI.la hI.lo h.n (jDM hI h)];rfl
end Go.Sh
end

section
namespace Go.Sh
open Go Go.Proofs Go.RowKit Go.Sx Go.Sx06
variable {g:List (List NC)} {l:List Int}
def jB4 {α:Type} (l:List α) (d:α):l=(zo l.length).map fun c=>l.getD c d:=by
 apply xF
 ·simp
 ·intro i h1 h2;simp only[List.getElem_map,List.getElem_range];rw[jaC h1]
def ji8 (outs:List (List (List Nat))) (o:List (List Nat)):List (List (List Nat)):=(zo outs.length).map fun c=>outs.getD c []++[o.getD c []]
def jHh {outs:List (List (List Nat))} {o:List (List Nat)} (hl:o.length=outs.length) (hn:outs.length<1000) (hr:∀c,c<outs.length->(outs.getD c []).length<1000) :
  jae (y49 o) big (0,outs)=some (ji8 outs o):=by
 have hrec:∀x:List (List Nat),NC.toFrs (qg [NC.r (Cont.frs FloatKind.f32 32 x)] (NC.d (D.v zX)))=x:=fun x=>rfl
 have e0:outs=(zo outs.length).map fun c=>if c<0 then outs.getD c []++[o.getD c []]else outs.getD c []:=by
  conv=>lhs;rw[jB4 outs []]
  exact jbA fun x _=>by rw[if_neg (by omega)]
 have key:∀i,i<outs.length->y49 o ((i:Int),(zo outs.length).map fun c=>if c<i then outs.getD c []++[o.getD c []]else outs.getD c []) =
   some (.inl (((i+1:Nat):Int),(zo outs.length).map fun c=>if c<i+1 then outs.getD c []++[o.getD c []]else outs.getD c [])):=fun i hi=>by
  have hri:=hr i hi;unfold y49;simp only[hrec,zg];rw[jbs _ hi,if_neg (show ¬i<i by omega)];simp only[qr,yq,zC,qa];rw[if_pos (by omega),if_pos (by omega),if_pos (by omega),if_pos (by omega),if_pos hi,if_pos (by omega),if_pos (by omega),if_pos (by simpa using hi),jam (by omega),jnS]
  have er:((zo outs.length).map fun x=>if x=i then outs.getD i []++[o.getD i []]else if x<i then outs.getD x []++[o.getD x []]else outs.getD x [])=(zo outs.length).map fun c=>if c<i+1 then outs.getD c []++[o.getD c []]else outs.getD c []:=jbA fun x hx=>by
   by_cases hxi:x=i
   ·subst hxi;rw[if_pos rfl,if_pos (by omega)]
   ·rw[if_neg hxi]
    by_cases hlt:x<i
    ·rw[if_pos hlt,if_pos (by omega)]
    ·rw[if_neg hlt,if_neg (by omega)]
  rw[er];rfl
 have hit:=jaD (body:=y49 o) (fun i=>((i:Int),(zo outs.length).map fun c=>if c<i then outs.getD c []++[o.getD c []]else outs.getD c [])) (y:=ji8 outs o) (k:=outs.length) key (by
  unfold y49;dsimp only;rw[if_neg (by omega)];unfold ji8;exact congrArg (fun x=>some (Sum.inr x)) (jbA fun x hx=>by rw[if_pos hx])) (by omega)
 have e1:((0:Int),outs)=(((0:Nat):Int),(zo outs.length).map fun c=>if c<0 then outs.getD c []++[o.getD c []]else outs.getD c []):=by rw[<-e0];rfl
 rw[e1];exact hit
def jHi (outs:List (List (List Nat))) (o:List (List Nat)):(ji8 outs o).length=outs.length:=by simp[ji8]
def jAo {outs:List (List (List Nat))} {o:List (List Nat)} {c:Nat} (hc:c<outs.length):(ji8 outs o).getD c []=outs.getD c []++[o.getD c []]:=jbs _ hc
def inK (t:List (List (List Nat))) (k:Nat):List (List Nat):=t.map fun r=>r.getD k []
def jyj {t:List (List (List Nat))} (ht:TR g t) {k:Nat} (hk:k<(t.getD 0 []).length):BR g (inK t k):=by
 refine⟨by unfold inK;rw[qr];exact ht.len,fun c hc=>?_⟩;have hc:c<t.length:=by simpa [inK]using hc
 have e:(inK t k).getD c []=(t.getD c []).getD k []:=jeh (fun r:List (List Nat)=>r.getD k []) [] hc;rw[e];exact ht.blk c k hc hk
def jIt {t:List (List (List Nat))} (ht:TR g t) (hn:t.length<1000) {k:Nat} (hk:k<(t.getD 0 []).length) (cuts n:Int) (outs:List (List (List Nat))) (b:Int) (P:List (List Nat)) (fs:List (List (List Int))) :
  jae (y25 t) big (cuts,(k:Int),n,(k:Int),0,outs,b,[],P,fs)=some (cuts,(k:Int),n,(k:Int),outs,b,inK t k,P,fs):=by
 have key:∀i,i<t.length->y25 t (cuts,(k:Int),n,(k:Int),(i:Int),outs,b,(t.take i).map fun r=>r.getD k [],P,fs)=some (.inl (cuts,(k:Int),n,(k:Int),((i+1:Nat):Int),outs,b,(t.take (i+1)).map fun r=>r.getD k [],P,fs)):=fun i hi=>by
  have hrow:=ht.row i hi;unfold y25;simp only[zg];rw[if_pos (by omega),if_pos (by omega),if_pos hi,if_pos (by omega),if_pos (by omega),if_pos (by simp only[qr,qW,zC,qa];omega),jam (by omega),jd3 hi [],qO];rfl
 have hlast:y25 t (cuts,(k:Int),n,(k:Int),(t.length:Int),outs,b,(t.take t.length).map fun r=>r.getD k [],P,fs)=some (.inr (cuts,(k:Int),n,(k:Int),outs,b,inK t k,P,fs)):=by
  unfold y25;dsimp only;rw[if_neg (by omega),x6];rfl
 have hb:t.length<18446744073709551616:=by omega
 obtain⟨F,hF⟩:∃F:Nat->(Int × Int × Int × Int × Int × List (List (List Nat)) × Int × List (List Nat) × List (List Nat) × List (List (List Int))),F=fun(i:Nat)=>(cuts,(k:Int),n,(k:Int),(i:Int),outs,b,(t.take i).map fun r=>r.getD k [],P,fs):=⟨_,rfl⟩
 have key':∀i,i<t.length->y25 t (F i)=some (.inl (F (i+1))):=fun i hi=>by rw[hF];exact key i hi
 have hlast':y25 t (F t.length)=some (.inr (cuts,(k:Int),n,(k:Int),outs,b,inK t k,P,fs)):=by rw[hF];exact hlast
 have hit:=jaD F key' hlast' hb;rw[hF]at hit;exact hit
def plI (g:List (List NC)) (l:List Int) (fbk:Nat->Nat->Bool) (t:List (List (List Nat))):Nat->List (List Nat) × List (List (List Int)) × List (List (List Nat)) × Int
 |0=>(P0 g.length,fs0 g,zi (jaB g 4).length [],0)
 |k+1 =>
  ((jdA g l (fbk k) (plI g l fbk t k).1 (plI g l fbk t k).2.1 (inK t k)).2.2.1,(jdA g l (fbk k) (plI g l fbk t k).1 (plI g l fbk t k).2.1 (inK t k)).2.2.2,ji8 (plI g l fbk t k).2.2.1 (jdA g l (fbk k) (plI g l fbk t k).1 (plI g l fbk t k).2.1 (inK t k)).1,(plI g l fbk t k).2.2.2+(jdA g l (fbk k) (plI g l fbk t k).1 (plI g l fbk t k).2.1 (inK t k)).2.1)
def jv3 (h:Rg g l) (fbk:Nat->Nat->Bool) {t:List (List (List Nat))} (ht:TR g t):∀k,k<=(t.getD 0 []).length -> PR g.length (plI g l fbk t k).1∧FR g (plI g l fbk t k).2.1∧(plI g l fbk t k).2.2.1.length=(jaB g 4).length∧(∀c,c<(jaB g 4).length->((plI g l fbk t k).2.2.1.getD c []).length=k)∧0<=(plI g l fbk t k).2.2.2∧(plI g l fbk t k).2.2.2<=k*200000
 |0,_=>⟨P0_PR _,jIj g,by simp[plI],fun c hc=>by show((zi (jaB g 4).length []).getD c []).length=0;rw[jdz hc];rfl,yl 0,by simp[plI]⟩
 |k+1,hk=>by
  obtain⟨h1,h2,h3,h4,h5⟩:=jv3 h fbk ht k (by omega);obtain⟨r1,r2,r3,r4⟩:=jDK h (fbk k) h1 h2 (jyj ht (k:=k) (by omega));refine⟨r1,r2,?_,fun c hc=>?_,?_⟩
  ·show(ji8 _ _).length=_
   rw[jHi,h3]
  ·show((ji8 _ _).getD c []).length=_
   rw[jAo (by omega),z9,h4 c hc];rfl
  ·unfold plI;dsimp only
   push_cast
   omega
def jHj (h:Rg g l) (nm:ByteArray) {t:List (List (List Nat))} (ht:TR g t) {f:List (List Int)} (hf:f.length<=24) (hz:∀i,i<f.length->jfc g.length f i=0) :
  y30 nm g l t f l=some ((plI g l (fun k=>jbm (jcE f (k:Int) g.length)) t (t.getD 0 []).length).2.2.1,(plI g l (fun k=>jbm (jcE f (k:Int) g.length)) t (t.getD 0 []).length).2.2.2):=by
 have hn:=h.n;have hkl:=jdy g 4 g.length;have hk4:(jaB g 4).length<1000:=by unfold jaB;omega
 have hkl0:=jdy g 0 g.length;have htl:t.length<1000:=by rw[ht.len];unfold jaB;omega
 have hsht:=ht.sht
 generalize hfb:(fun k:Nat=>jbm (jcE f (k:Int) g.length))=fbk
 have key:∀k,k<(t.getD 0 []).length->y26 nm g l t f l ((plI g l fbk t k).2.2.2,((t.getD 0 []).length:Int),(k:Int),(plI g l fbk t k).2.2.1,(k:Int),(plI g l fbk t k).1,(plI g l fbk t k).2.1) =
   some (.inl ((plI g l fbk t (k+1)).2.2.2,((t.getD 0 []).length:Int),((k+1:Nat):Int),(plI g l fbk t (k+1)).2.2.1,((k+1:Nat):Int),(plI g l fbk t (k+1)).1,(plI g l fbk t (k+1)).2.1)):=fun k hk=>by
  obtain⟨p1,p2,p3,p4,p5⟩:=jv3 h fbk ht k (by omega);have hB:=jyj ht hk;obtain⟨r1,r2,r3,r4⟩:=jDK h (fbk k) p1 p2 hB
  have hs:plI g l fbk t (k+1)=((jdA g l (fbk k) (plI g l fbk t k).1 (plI g l fbk t k).2.1 (inK t k)).2.2.1,(jdA g l (fbk k) (plI g l fbk t k).1 (plI g l fbk t k).2.1 (inK t k)).2.2.2,ji8 (plI g l fbk t k).2.2.1 (jdA g l (fbk k) (plI g l fbk t k).1 (plI g l fbk t k).2.1 (inK t k)).1,(plI g l fbk t k).2.2.2+(jdA g l (fbk k) (plI g l fbk t k).1 (plI g l fbk t k).2.1 (inK t k)).2.1):=rfl
  rw[hs]
  generalize (plI g l fbk t k).2.2.2=cuts at *
  generalize (plI g l fbk t k).2.2.1=outs at *
  generalize (plI g l fbk t k).2.1=fs at *
  generalize (plI g l fbk t k).1=P at *
  obtain⟨y,y1,y2,y3⟩:=jx5 (g:=g) nm l f (k:Int) hn hf hz
  have hwho:jck g (fun i=>y.getD i false)=jck g (fbk k):=by
   rw[y3,<-hfb]
  have hw:=jsq h (fbk k);obtain⟨hR,_⟩:=jfe h p1 p2 hB hw g.length (zq _);unfold y26;dsimp only;rw[if_pos (by omega),jIt ht htl hk,jac];unfold y183;dsimp only;rw[y1,jac,jzy h nm _ y2,jac];dsimp only;rw[hwho,jHd h p1 p2 hB hw,jac];dsimp only;rw[jFN hR.gr hn,jac,jHh (o:=jk8 g _) (by unfold jk8;rw[qr,p3]) (by omega) (fun c hc=>by rw[p4 c (by omega)];omega),jac];unfold y182;dsimp only;rw[jBZ hn hR.cl hR.cr,jac,jDJ p1 hR.gr hn,jac];have hc:=jih hR.cr g.length (zq _);dsimp only;rw[jam (x:=cuts+_) (by omega),jam (by omega),show((k+1:Nat):Int)=(k:Int)+1 from rfl];rfl
 have hit:=jaD (body:=y26 nm g l t f l) (fun k=>((plI g l fbk t k).2.2.2,((t.getD 0 []).length:Int),(k:Int),(plI g l fbk t k).2.2.1,(k:Int),(plI g l fbk t k).1,(plI g l fbk t k).2.1))
  (y:=((plI g l fbk t (t.getD 0 []).length).2.2.2,(plI g l fbk t (t.getD 0 []).length).2.2.1)) (k:=(t.getD 0 []).length) key (by
   unfold y26;dsimp only;rw[if_neg (by omega)]) (by omega)
 have e0:((plI g l fbk t 0).2.2.2,((t.getD 0 []).length:Int),((0:Nat):Int),(plI g l fbk t 0).2.2.1,((0:Nat):Int),(plI g l fbk t 0).1,(plI g l fbk t 0).2.1)=(0,((t.getD 0 []).length:Int),0,zi (jaB g 4).length [],0,P0 g.length,fs0 g):=rfl;rw[e0]at hit;have hrec:NC.toFrs (qg [NC.r (Cont.frs FloatKind.f32 32 [])] (NC.d (D.v zX)))=[]:=rfl;unfold y30;rw[jjU hn,jac,if_pos (by omega),jFO h,jac,hrec,zg];dsimp only
 by_cases c0:0<t.length
 ·rw[if_pos (by omega),if_pos (by omega),if_pos c0,hit];rfl
 ·have e1:t=[]:=z4 (by omega);subst e1;rw[if_neg (by simp)]
  change (jae _ big (0,((([]:List (List (List Nat))).getD 0 []).length:Int),0,zi (jaB g 4).length [],0,P0 g.length,fs0 g)).bind _=_
  rw[hit];rfl
def jHk (h:Rg g l) {nm:ByteArray} (hs:nm.size<1000) (h0:(cg nm g).2=0) {t:List (List (List Nat))} (htl:t.length<1000000000) (h32:T32 t) (f:List (List Int)) :
  jca nm g t f=some (if teG (jaB g 0).length t≠0 then([],0,teG (jaB g 0).length t)else if(cf g.length f).2≠0 then([],0,(cf g.length f).2)else
   ((plI g l (fun k=>jbm (jcE f (k:Int) g.length)) t (t.getD 0 []).length).2.2.1,(plI g l (fun k=>jbm (jcE f (k:Int) g.length)) t (t.getD 0 []).length).2.2.2,0)):=by
 obtain⟨h1,h2⟩:=jlf h hs h0;unfold jca jgx jcx jay;rw[h1,h2]
 show ze (y36 nm g l t f) _=_
 rw[jFX h.n nm l htl h32 f,jac]
 by_cases c1:teG (jaB g 0).length t=0
 ·rw[if_neg (show ¬teG (jaB g 0).length t≠0 by omega),if_neg (show ¬teG (jaB g 0).length t≠0 by omega)]
  by_cases c2:(cf g.length f).2=0
  ·obtain⟨_,z1,z2⟩:=jG2 c2;rw[if_neg (show ¬(cf g.length f).2≠0 by omega),if_neg (by rw[c2];simp)]
   show ze (y30 nm g l t f l) _=_
   rw[jHj h nm (jIo h32 c1) z1 z2];rfl
  ·rw[if_pos c2,if_pos (by simpa using c2)]
 ·rw[if_pos c1,if_pos c1,if_pos (by simpa using c1)]
end Go.Sh
end

section
namespace Go.Sh
open Go Go.Proofs Go.RowKit Go.Sx Go.Sx06
variable {g:List (List NC)} {l:List Int}
def jue:fi 0=0:=by
 rw[show(0:Nat)=nf 0 by decide];exact jv0 (by omega)
def jou {α:Type} (n i:Nat) (x:α):(zi n x).getD i x=x:=by
 simp only[za,yr];split<;>rfl
def jyk {α:Type} (n m u j:Nat) (x:α):((zi n (zi m x)).getD u []).getD j x=x:=by
 simp only[za,yr]
 by_cases h:u<n
 ·rw[if_pos h];simp only[Option.getD_some,yr];split<;>rfl
 ·rw[if_neg h];rfl
end Go.Sh
end

section
namespace Go.Sh
open Go Go.Proofs Go.RowKit Go.Sx Go.Sx06
variable {g:List (List NC)} {l:List Int}
structure LtR (g:List (List NC)) (T:List Int):Prop where
 nof:∀i,i<g.length->nI g i 1≠3
 inp:∀i,i<g.length->nI g i 1=0->T.getD i 0=0
 con:∀i k v:Nat,i<g.length->k<(nL g i 2).length->(nL g i 2).getD k 0=(v:Int)->T.getD v 0+((nL g i 3).getD k 0+nI g i 5)=T.getD i 0
def PI (n:Nat) (T:List Int) (b:Int) (P:List (List Nat)):Prop:=∀u,u<n->∀j:Nat,j<128->fi ((P.getD u []).getD j 0)≠0->b+((j:Int)-128)=T.getD u 0
def GI (n:Nat) (T:List Int) (b:Int) (G:List (List Int)):Prop:=∀u,u<n->∀t:Nat,t<32->(G.getD u []).getD t 0≠0->b+(t:Int)=T.getD u 0
def BI (b:Int) (B:List (List Nat)):Prop:=∀c,c<B.length->∀t:Nat,t<32->fi ((B.getD c []).getD t 0)≠0->b+(t:Int)=0
def jyl {n:Nat} {T:List Int} {b:Int} {P:List (List Nat)} {G:List (List Int)} (hP:PI n T b P) (hG:GI n T b G) {u:Nat} {k:Int} (hu:u<n) (hk:-128<=k∧k<32) (h:atI P G (u:Int) k≠0):b+k=T.getD u 0:=by
 unfold atI at h;rw[zg]at h;split at h
 ·have:=hP u hu (128+k).toNat (by omega) h;omega
 ·have:=hG u hu k.toNat (by omega) h;omega
def jDN {P:List (List Nat)} {G:List (List Int)} {fr al ga:List Int} {x:Nat}:∀m,jbt P G fr al ga m x≠0->∃k,k<m∧atI P G (fr.getD k 0) ((x:Int)-al.getD k 0)≠0
 |0,h=>absurd rfl h
 |m+1,h=>by
  by_cases h0:atI P G (fr.getD m 0) ((x:Int)-al.getD m 0)=0
  ·have h1:jbt P G fr al ga m x≠0:=by
    intro e;apply h;unfold jbt;rw[e,h0,Int.mul_zero];rfl
   obtain⟨k,hk,hr⟩:=jDN m h1;exact⟨k,by omega,hr⟩
  ·exact⟨m,by omega,h0⟩
def jHl (h:Rg g l) {T:List Int} (hT:LtR g T) {b:Int} {P:List (List Nat)} {fs:List (List (List Int))} {B:List (List Nat)} {G:List (List Int)} (hP:PI g.length T b P) (hG:GI g.length T b G) (hB:BI b B) (hBR:BR g B) {i:Nat} (hi:i<g.length) {t:Nat} (ht:t<32)
  (hne:(jgd g P fs B G i).1.getD t 0≠0):b+(t:Int)=T.getD i 0:=by
 have hu:=h.unit hi;unfold jgd at hne;split at hne
 ·rename_i h0;obtain⟨_,hc⟩:=jk6 h.n hi;rw[h0]at hc;rw[<-hBR.1]at hc;have h32:=(hBR.2 _ hc).1;dsimp only at hne;rw[jeh fi 0 (by omega)]at hne;rw[hT.inp i hi h0];exact hB _ hc t ht hne
 ·rename_i h0;have hone:=hu.one h0;have hal:=hu.al;have h6:=hu.six;split at hne
  ·rename_i h1;dsimp only at hne;unfold jnR at hne;rw[jbs _ ht]at hne
   have hs:jbt P G (nL g i 2) (nL g i 3) (nL g i 4) (nL g i 4).length t≠0:=by
    intro e;rw[e]at hne;exact hne (by decide)
   obtain⟨k,hk,hr⟩:=jDN _ hs;have hga:=hu.ga h1;obtain⟨v,hv,he⟩:=jhw h hi k (by omega);have ha:=hu.alr k (by omega);rw[he]at hr;have h2:=jyl hP hG hv (by omega) hr;have h3:=hT.con i k v hi (by omega) he;have h4:=hu.de0 (by omega);omega
  ·split at hne
   ·rename_i h3;exact absurd h3 (hT.nof i hi)
   ·obtain⟨v,hv,he⟩:=jhw h hi 0 hone;have ha:=hu.alr 0 (by omega);have hd:=hu.de;dsimp only at hne;rw[he,jnQ ht]at hne;have h2:=jyl hP hG hv (by omega) hne;have h3:=hT.con i 0 v hi hone he;omega
def jIu (h:Rg g l) {i:Nat} (hi:i<g.length):(jck g fun _=>false).getD i 0=(i:Int):=by
 obtain⟨j,hj,e⟩:=h.surj hi;rw[jtV _ _ hi,jx2 h _ hj e hi,if_neg Bool.false_ne_true]
def jym (h:Rg g l) {T:List Int} (hT:LtR g T) {b:Int} {P:List (List Nat)} {fs:List (List (List Int))} {B:List (List Nat)} (hPR:PR g.length P) (hF:FR g fs) (hP:PI g.length T b P) (hB:BI b B) (hBR:BR g B) :
  ∀k,k<=g.length->GI g.length T b (jaP g P fs B (jck g fun _=>false) l k).1
 |0,_=>fun u hu t ht hne=>by
  exfalso;apply hne
  show((zi g.length (zi 32 0)).getD u []).getD t 0=0
  exact jyk _ _ _ _ _
 |k+1,hk=>by
  have ih:=jym h hT hPR hF hP hB hBR k (by omega);obtain⟨hR,_⟩:=jfe h hPR hF hBR (jsq h fun _=>false) k (by omega);obtain⟨i,hi,e,_⟩:=h.at (j:=k) (by omega);have hGl:=hR.gr.1;intro u hu t ht hne
  have hs:(jaP g P fs B (jck g fun _=>false) l (k+1)).1=(jco g P fs B (jck g fun _=>false) i (jaP g P fs B (jck g fun _=>false) l k).1 (jaP g P fs B (jck g fun _=>false) l k).2.1 (jaP g P fs B (jck g fun _=>false) l k).2.2).1:=by
   show(jco g P fs B _ (l.getD k 0).toNat _ _ _).1=_
   rw[e,zg]
  rw[hs]at hne;unfold jco at hne;rw[jIu h hi,if_neg (by omega),if_neg (show ¬((i:Int)≠(i:Int))from fun x=>x rfl)]at hne;dsimp only at hne;rw[jaL _ _ _ _ _ (by omega)]at hne;split at hne
  ·rename_i e2;subst e2;exact jHl h hT hP ih hB hBR hi ht hne
  ·exact ih u hu t ht hne
def jGa {n:Nat} {T:List Int} {b:Int} {P:List (List Nat)} {G:List (List Int)} (hPR:PR n P) (hGR:GR n G) (hP:PI n T b P) (hG:GI n T b G):PI n T (b+32) (jig P G n):=fun u hu j hj hne=>by
 unfold jig at hne;rw[jbs _ hu,jbs _ hj]at hne;have hr:=jie hPR hGR hu (k:=(j:Int)-96) (by omega);rw[jv0 (jk4 hr)]at hne;have:=jyl hP hG hu (k:=(j:Int)-96) (by omega) hne;omega
def OI (T:List Int) (u:Nat) (b:Int) (x:List Nat):Prop:=∀t:Nat,t<32->∃n:Int,x.getD t 0=nf n∧(n≠0->b+(t:Int)=T.getD u 0)
def jDO (h:Rg g l) {T:List Int} (hT:LtR g T) {t:List (List (List Nat))} (ht:TR g t) (hin:∀k,k<(t.getD 0 []).length->BI (32*(k:Int)) (inK t k)):∀k,k<=(t.getD 0 []).length -> PI g.length T (32*(k:Int)) (plI g l (fun _ _=>false) t k).1 ∧ ∀c,c<(jaB g 4).length->∀j,j<k->OI T ((jaB g 4).getD c 0).toNat (32*(j:Int)) (((plI g l (fun _ _=>false) t k).2.2.1.getD c []).getD j [])
 |0,_=>⟨fun u hu j hj hne=>by
   exfalso;apply hne
   show fi (((P0 g.length).getD u []).getD j 0)=0
   unfold P0;rw[jyk,jue],fun c hc j hj=>absurd hj (by omega)⟩
 |k+1,hk=>by
  obtain⟨i1,i2⟩:=jDO h hT ht hin k (by omega);obtain⟨h1,h2,h3,h4,_⟩:=jv3 h (fun _ _=>false) ht k (by omega);have hBR:=jyj ht (k:=k) (by omega);have hB:=hin k (by omega);have hw:=jsq h fun _=>false;obtain⟨hR,_⟩:=jfe h h1 h2 hBR hw g.length (zq _);have hGI:=jym h hT h1 h2 i1 hB hBR g.length (zq _);have hGl:=hR.gr.1;refine⟨?_,fun c hc j hj=>?_⟩
  ·have:=jGa h1 hR.gr i1 hGI;rw[show 32*(((k+1:Nat):Int))=32*(k:Int)+32 by omega];exact this
  ·have hstep:((plI g l (fun _ _=>false) t (k+1)).2.2.1.getD c [])=((plI g l (fun _ _=>false) t k).2.2.1.getD c [])++[(jdA g l (fun _=>false) (plI g l (fun _ _=>false) t k).1 (plI g l (fun _ _=>false) t k).2.1 (inK t k)).1.getD c []]:=jAo (by omega);rw[hstep];have hlen:=h4 c hc
   by_cases hjk:j<k
   ·have e:∀(A:List (List Nat)) (x:List Nat),A.length=k->(A++[x]).getD j []=A.getD j []:=fun A x hA=>by
     simp only[za,List.getElem?_append_left (show j<A.length by omega)]
    rw[e _ _ hlen];exact i2 c hc j hjk
   ·have e:∀(A:List (List Nat)) (x:List Nat),A.length=k->(A++[x]).getD j []=x:=fun A x hA=>by
     have:j=A.length:=by omega
     subst this;simp[za]
    rw[e _ _ hlen];obtain⟨u,hu,hue,_⟩:=jot hc
    have ho:(jdA g l (fun _=>false) (plI g l (fun _ _=>false) t k).1 (plI g l (fun _ _=>false) t k).2.1 (inK t k)).1.getD c []=((jaP g (plI g l (fun _ _=>false) t k).1 (plI g l (fun _ _=>false) t k).2.1 (inK t k) (jck g fun _=>false) l g.length).1.getD u []).map nf:=by
     show(jk8 g _).getD c []=_
     unfold jk8;rw[jeh _ 0 hc,hue,zg,jx6 (by omega)]
    rw[ho,hue,zg];intro t' ht';obtain⟨r1,r2⟩:=hR.gr.2 u hu;refine⟨_,jeh nf 0 (by omega),fun hne=>?_⟩;have hj2:j=k:=by omega
    subst hj2;exact hGI u hu t' ht' hne
end Go.Sh
end

section
namespace Go.Sh
open Go Go.Proofs Go.RowKit Go.Sx Go.Sx09
abbrev shV:List NK:=zS
abbrev tsV:List Nat:=[0,0,3,3,3,0,148,0]
def cnB:Code:=Sx09.bodyOf Tryz.f135
def cnO (j:Nat):qx:=((jic (Sx09.sub [1,1,0] cnB)).getD []).getD j default
def jsD:Op->Call| .call c=>c|_=>default
def jDP {P:zQ} {o:qx} {a:Act} {w w':zs} {v:zt} {K:Act->zs->Prop} {Q:Exit->Act->zs->Prop} (h:(qS a.eval o).run P w=.ok (.value v) w') (hK:K (a.put o.dst v) w'):o.wp P a w K Q:=by
 unfold Oper.wp;rw[h];exact hK
def jB5 {P:zQ} {w:zs} {o:qx} {ev:zU->zt} {x:zU} {v:zt} (h1:o.op=.assign x) (h2:ev x=v):(qS ev o).run P w=.ok (.value v) w:=by
 unfold qS;rw[h1];simp[h2]
def jzC {P:zQ} {w w':zs} {o:qx} {c:Call} {ev:zU->zt} {s x:zU} {t:qI} {v xv v':zt} (hop:o.op=.call c) (hcal:c.callee=.builtin .append) (hargs:c.args=#[s,x]) (hts:c.argTypes=#[t,t])
  (h1:ev s=v) (h2:ev x=xv) (hrun:(Builtin.append_ #[t,t] o.type #[v,xv]).run P w=.ok v' w'):(qS ev o).run P w=.ok (.value v') w':=by
 unfold qS;simp only[hop,hcal,resolve,hargs,hts,List.map_toArray,zJ,List.map_nil,Sem.run_bind,Sem.run_pure,Result.andThen_ok,invoke,builtin,h1,h2,hrun]
abbrev cV (v:zt):V:=.w (.c (.d (.v v)))
def cnA (v:zt):St:=⟨[(3,cV v),(2,cV (.slice none 0 0)),(0,cV v)],[],0⟩
def cnD (v:zt):St:=⟨[(6,cV v),(5,.w (.c (.o 0))),(4,vb false),(3,cV v),(2,cV (.slice none 0 0)),(0,cV v)],[(0,.xrow 118 (.st shV []))],1⟩
abbrev jB6 (c:Code) (st:St) (k:Ex->St->Prop):Prop:=sx Tryz.prog sp0 8 0 1 (fun _ _ _=>none) (jcD Tryz.prog sp0 8) c 0 [] st k
def cn1 (v:zt):jB6 (Sx09.sub [0] cnB) ⟨jbE 0 [cV v],[],0⟩ fun ex st=>ex=.normal∧jkb Tryz.prog sp0 8 (cl1 Tryz.f135) st fun st=>st=cnA v:=by
 refine jK (by kernel_rfl:(Ex.normal=Ex.normal∧cnA v=cnA v)=_) ⟨rfl,rfl⟩
def cn2 (v:zt):jB6 (.seq (Sx09.sub [1,0,1] cnB) (Sx09.sub [1,1] cnB)) ((cnA v).put (some 4) ⟨True,vb true,[],0⟩) (jbX Tryz.prog Tryz.f135.results.toList fun v _ _=>v=cV (.slice none 0 0)):=by
 refine jK (by kernel_rfl:(Ob True∧cV (.slice none 0 0)=cV (.slice none 0 0))=_) ⟨⟨trivial⟩,rfl⟩
def cn3 (v:zt):jB6 (Sx09.sub [1,0,1] cnB) ((cnA v).put (some 4) ⟨True,vb false,[],0⟩) fun ex st=>ex=.normal∧jkb Tryz.prog sp0 8 (cnO 0) st fun st=>jkb Tryz.prog sp0 8 (cnO 1) st fun st=>st=cnD v:=by
 refine jK (by kernel_rfl:(Ex.normal=Ex.normal∧cnD v=cnD v)=_) ⟨rfl,rfl⟩
set_option maxHeartbeats 2000000 in
def jGb {w:zs} {v0:zt} {aa:Option Addr} {m cap:Nat} (hv:v0=.slice aa m cap) (us:List zt) (hus:us.length=m*8) (hone:∀u∈us,u.oneCell'=true) (hnil:aa=none->m=0)
  (hcell:∀ad,aa=some ad->∀j u,us[j]?=some u->w.cell? (ad.add j)=some u) (hb:m*136<=140737488355328) :
  Calls Tryz.prog 135 #[v0] w fun e w'=>∃v',e=.returned v'∧w'.ownsRow 0 118 8 v' m us∧x8 w.heap.size w w'∧∀k,v'.ownBlock=some k->w.heap.size<=k:=by
 refine calls_of_wp (c:=cnB) Tryz.func135 (by kernel_rfl) ?_;have hB:cnB=.seq (Sx09.sub [0] cnB) (.seq (.seq (Sx09.sub [1,0,0] cnB) (Sx09.sub [1,0,1] cnB)) (.seq (Sx09.sub [1,1,0] cnB) .ret)):=by kernel_rfl
 have hD:Sx09.sub [1,1] cnB=.seq (Sx09.sub [1,1,0] cnB) .ret:=by kernel_rfl
 obtain⟨I,hI⟩:∃I:Env,I=fun _=>zX:=⟨_,rfl⟩
 have hh:HRel I (kd fun k=>k<w.heap.size) [] 0 w:=⟨fun h o hf=>(by cases hf),fun h o h' o' k hf=>(by cases hf),jfv⟩
 have hr:=jfF (n0:=0) (N:=8) (args:=[cV v0]) (zh rfl) (fun x hx=>by simp only[List.mem_singleton]at hx;subst hx;trivial) (zq _) I w hh (fun k hk=>jbL.1 hk);have hsp:jab Tryz.prog sp0:=jaj;have hdr:=fun(I:Env) (w:zs)=>jb1 (N:=8) (n0:=0) (B:=kd fun k=>k<w.heap.size) (I0:=I) (w0:=w) mixed hsp;have hres:Tryz.f135.results=#[.tmp 2]:=by kernel_rfl
 have run:∀(tmps:Array zt) (W:zs),(results Tryz.f135 tmps).run Tryz.prog W=.ok (tmps.getD 2 zX) W:=fun tmps W=>by
  unfold results;rw[hres];simp
 rw[hB];refine fh (x7 (ja6 hsp (hdr I w) (Sx09.sub [0] cnB) 0 [] _ _ I _ w (cn1 v0) hr (jak.refl _ _) (Bel.refl _ _)) ?_);rintro e a1 w1 ⟨ex,I1,st1,rfl,⟨rfl,hdo⟩,hr1,hag1,hbl1⟩;have hR2:jic (Sx09.sub [1,0,0] cnB)=some [cl1 Tryz.f135,cl2 Tryz.f135]:=by kernel_rfl
 refine fh (fh (jqB hR2 (jcQ (by kernel_rfl) (jcW hsp hr1 hag1 hbl1 hdo fun I2 st2 a2 w2 hr2 hag2 hbl2 hk=>?_))));subst hk;have hop:(cl2 Tryz.f135).op=.binOp .eql 22 (.tmp 3) (.const (.slice none 0 0)) 22:=by kernel_rfl
 have hdst:(cl2 Tryz.f135).dst=some 4:=by kernel_rfl
 refine jcQ (by kernel_rfl) (jDd (N:=8) (u:=cV v0) (aa:=aa) (n:=m) (cap:=cap) hop (by rw[hdst];rfl) (by kernel_rfl) (by kernel_rfl) hv hr2 fun hr3=>?_);rw[hdst]at hr3 ⊢;unfold wpList;cases aa with
 |none =>
  have hm0:=hnil rfl;subst hm0;obtain rfl:us=[]:=z4 (by omega);have key:=jxK (cur:=0) (gs:=[]) hsp (hdr I w) (cn2 v0) hr3 hag2 hbl2;rw[hD]at key
  have fin:∀e a4 w4,Qx [] I (kd fun k=>k<w.heap.size) 8 0 w (jbX Tryz.prog Tryz.f135.results.toList fun v _ _=>v=cV (.slice none 0 0)) e a4 w4->bodyPost Tryz.prog Tryz.f135 (fun e w'=>∃v',e=.returned v'∧w'.ownsRow 0 118 8 v' 0 []∧x8 w.heap.size w w'∧∀k,v'.ownBlock=some k->w.heap.size<=k) e a4 w4:=by
   rintro e a4 w4 ⟨x,I4,st4,rfl,hk,hr4,_,hbl4⟩
   have done:jbX Tryz.prog Tryz.f135.results.toList (fun v _ _=>v=cV (.slice none 0 0)) .ret st4->a4.defers=[]∧∃v,(results Tryz.f135 a4.tmps).run Tryz.prog w4=.ok v w4∧∃v',Ending.returned v=.returned v'∧w4.ownsRow 0 118 8 v' 0 []∧x8 w.heap.size w w4∧∀k,v'.ownBlock=some k->w.heap.size<=k:=fun h=>by
    rw[hres]at h;unfold jbX at h;dsimp only at h;split at h
    ·rename_i l hl;simp only[jfE,jrt]at hl;split at hl
     ·rename_i y l' hy hl';cases hl';cases hl;split at hy
      ·rename_i u2 h2;cases hy;have hu:V.w u2=cV (.slice none 0 0):=h.2;cases hu;have h3:=(hr4.tm 2 _ h2).2;exact⟨hr4.defers,_,run _ _,_,rfl,by rw[h3];exact World.ownsRow_nil w4 0 118 8,hbl4.below,fun k hk=>by rw[h3]at hk;cases hk⟩
      ·cases hy
     ·cases hl
    ·exact h.elim
   cases x with
   |normal=>exact done hk
   |ret=>exact done hk
   |exit j=>exact hk.elim
  refine x7 key ?_;intro e a4 w4 hq;cases e with
  |normal=>exact x7 hq fin
  |_=>exact fin _ _ _ hq
 |some ad =>
  refine x7 (ja6 hsp (hdr I w) (Sx09.sub [1,0,1] cnB) 0 [] _ _ I2 _ w2 (cn3 v0) hr3 hag2 hbl2) ?_;rintro e a3 w3 ⟨ex,I3,st3,rfl,⟨rfl,hdo3⟩,hr4,hag3,hbl3⟩;have hR3:jic (Sx09.sub [1,1,0] cnB)=some [cnO 0,cnO 1,cnO 2,cnO 3]:=by kernel_rfl
  refine fh (jqB hR3 (jcQ (by kernel_rfl) (jcW hsp hr4 hag3 hbl3 hdo3 fun I4 st4 a4 w4 hr5 hag4 hbl4 hk4=>jcQ (by kernel_rfl) (jcW hsp hr5 hag4 hbl4 hk4 fun I5 st5 a5 w5 hr6 hag5 hbl5 hk5=>?_))));subst hk5;obtain⟨B',gB,hh5⟩:=hr6.heap;obtain⟨us0,hown,_,hblk⟩:=(hh5.ok 0 _ rfl).2.2;have e5:=(hr6.tm 5 _ rfl).2;have e6:=(hr6.tm 6 _ rfl).2;have hsame:∀p:Addr,p.block<w.heap.size->w5.cell? p=w.cell? p:=fun p hp=>World.cell?_of_block (w:=w) (hbl5.block p.block hp);have hsz:szT Tryz.prog 118=some 8:=by kernel_rfl
  have hby:jaY Tryz.prog 118=some 136:=by kernel_rfl
  have hzl:(jaG Tryz.prog 118).map zb=some 8:=by kernel_rfl
  obtain⟨zl,hz,hzl⟩:=Option.map_eq_some_iff.1 hzl;cases hi:Tryz.prog.info? 118 with
  |none=>simp[szT,hi]at hsz
  |some i =>
   have hsz':i.size=7+1:=by simpa [szT,hi]using hsz
   have hby':i.bytes=136:=by simpa [jaY,hi]using hby
   cases hzz:i.zero with
   |none=>simp[jaG,hi,hzz]at hz
   |some zv =>
    obtain⟨v1,hv1,hvc,_⟩:=ja3 (P:=Tryz.prog) (w:=w) (I:=I) hz
    have hvz:v1=zv:=by
     simp[zeroValue,typeInfo,hi,hzz]at hv1;exact hv1.symm
    subst hvz;have hzs:v1.cells.size=7+1:=by rw[hvc];simp[hzl]
    have hown0:w5.ownsRow 0 118 8 (I5 0) 0 us0:=hown;obtain rfl:us0=[]:=z4 (by rw[hown0.1,xV])
    obtain⟨v',w6,hrun,hown',hgr,hwh⟩:=jek (ty:=(cnO 2).type) (P:=Tryz.prog) (t:=22) (by kernel_rfl) hi hzz hsz' hby' hzs hown0 (xv:=v0) (news:=us) (m:=m) hus hone
     (.inr ⟨ad,cap,hv,fun j u hj=>(hsame _ (World.block_lt_of_cell? w _ (hcell ad rfl j u hj))).trans (hcell ad rfl j u hj)⟩) (by omega) (by omega)
    have hop2:(cnO 2).op=.call (jsD (cnO 2).op):=by kernel_rfl
    have hcal:(jsD (cnO 2).op).callee=.builtin .append:=by kernel_rfl
    have hargs:(jsD (cnO 2).op).args=#[.tmp 5,.tmp 6]:=by kernel_rfl
    have hts:(jsD (cnO 2).op).argTypes=#[22,22]:=by kernel_rfl
    have hd2:(cnO 2).dst=some 7:=by kernel_rfl
    have ev5:a5.eval (.tmp 5)=I5 0:=e5;have ev6:a5.eval (.tmp 6)=v0:=e6;refine jcQ (by kernel_rfl) (jDP (v:=v') (w':=w6) ?_ (jcQ (by kernel_rfl) (jDP (v:=v') (w':=w6) ?_ ?_)))
    ·exact jzC hop2 hcal hargs hts ev5 ev6 hrun
    ·have hop3:(cnO 3).op=.assign (.tmp 7):=by kernel_rfl
     have hs6:a5.tmps.size=8:=hr6.size
     have:(a5.put (cnO 2).dst v').eval (.tmp 7)=v':=by
      rw[hd2];simp[jA,Act.eval,hs6]
     exact jB5 hop3 this
    ·unfold wpList;have hd3:(cnO 3).dst=some 2:=by kernel_rfl
     have hs6:a5.tmps.size=8:=hr6.size;refine wp_ret ?_;refine⟨by rw[jb6,jb6];exact hr6.defers,v',?_,v',rfl,by simpa using hown',?_,fun k hk=>?_⟩
     ·rw[run]
      congr 1
      rw[hd2,hd3];simp[jA,hs6]
     ·have hold5:∀k,(I5 0).ownBlock=some k->¬k<w.heap.size:=fun k hk hc=>hblk k hk (.inl (gB.le.kp k hc));exact hbl5.below.trans ⟨hgr.os,hgr.tape,hgr.output,hgr.size,fun k hk=>hgr.block k (Nat.lt_of_lt_of_le hk hbl5.size) (fun e=>hold5 k e.symm hk)⟩
     ·rcases hwh k hk with h|h
      ·have:¬k<w.heap.size:=fun hc=>hblk k h (.inl (gB.le.kp k hc));omega
      ·have:=hbl5.size;omega
end Go.Sh
end

section
open Go.RowKit
namespace Go.Sh
open Go Go.Proofs Go.RowKit Go.Sx
def jyn:Sx.Spec:=fun vs hp nx=>match vs with|[.w (.c (.o h))]=>(match find hp h with|some (.xext (.st sh l))=>(match decide (sh=shV)with|true=>some (.leaf ⟨l.length*136<=140737488355328,.w (.c (.o nx)),(nx,.trow 118 tsV (.st sh l) 0)::hp,nx+1⟩)|false=>none)|_=>none)|_=>none
def jGc {B:Bd} {w:zs} {v:zt} {X:XC} (h:IsX B w v X):∃(aa:Option Addr) (cap:Nat) (us:List zt),v=.slice aa X.n cap∧us.length=X.n*X.e∧(aa=none->X.n=0)∧(∀ad,aa=some ad->∀j u,us[j]?=some u->w.cell? (ad.add j)=some u) ∧
  (∀u∈us,u.oneCell'=true)∧∀i j,i<X.n->j<X.e->∃u,us[i*X.e+j]?=some u∧(X.cell i j).at B w u:=by
 obtain⟨aa,cap,hv,⟨h1,h2⟩,h3⟩:=h;rcases Nat.eq_zero_or_pos X.n with h0|h0
 ·exact⟨aa,cap,[],hv,by rw[h0,xV];rfl,fun _=>h0,(fun ad _ j u hj=>by simp at hj),(fun u hu=>by cases hu),fun i j hi=>by omega⟩
 ·obtain⟨b,off,rfl,hb,hx⟩:=h3 h0
  have key:∀q,q<X.n*X.e->∃u,w.cell? ⟨b,off+q,none⟩=some u∧u.oneCell'=true:=fun q hq=>by
   have he:0<X.e:=Nat.pos_of_ne_zero fun e=>by rw[e,Nat.mul_zero]at hq;omega
   obtain⟨u,hu,hux⟩:=hx (q/X.e) (q%X.e) (ym (by rw[xN];exact hq)) (x9 _ he);rw[show q/X.e*X.e+q%X.e=q by rw[xN];exact yG q X.e]at hu;exact⟨u,hu,jwv hux⟩
  refine⟨_,cap,(zo (X.n*X.e)).map fun q=>(w.cell? ⟨b,off+q,none⟩).getD zX,hv,by simp,(fun h=>by cases h),fun ad had j u hj=>?_,fun u hu=>?_,fun i j hi hj=>?_⟩
  ·cases had;have hjl:j<X.n*X.e:=by have:=(zA.1 hj).1;simpa using this
   obtain⟨u',hu',_⟩:=key j hjl;have:((zo (X.n*X.e)).map fun q=>(w.cell? ⟨b,off+q,none⟩).getD zX)[j]?=some u':=by simp[hjl,hu']
   rw[this]at hj;cases hj;rw[jaX];exact hu'
  ·obtain⟨q,hq,rfl⟩:=qm.1 hu;obtain⟨u',hu',ho⟩:=key q (qG.1 hq);rw[hu'];exact ho
  ·obtain⟨u,hu,hux⟩:=hx i j hi hj
   have hjl:i*X.e+j<X.n*X.e:=by
    have:(i+1)*X.e<=X.n*X.e:=Nat.mul_le_mul_right _ hi;rw[qy]at this;omega
   exact⟨u,by simp[hjl,hu],hux⟩
def jB7:jaf Tryz.prog 135 true jyn:=by
 refine .inl ⟨jdr (body:=Sx09.bodyOf Tryz.f135) Tryz.func135 (by kernel_rfl) (by kernel_rfl),fun I B w args hp nx t h ho hl hh hB=>?_⟩;unfold jyn at h;split at h
 ·rename_i g;split at h
  ·rename_i sh l hf;split at h
   ·rename_i hsh;have hsh:=of_decide_eq_true hsh;subst hsh;cases h;have hb:l.length*136<=140737488355328:=ho;obtain⟨aa,cap,us,hv,hus,hnil,hcell,hone,hat⟩:=jGc (hh.ok g _ hf).2.2;have hargs:([V.w (.c (.o g))].map (V.val I)).toArray=#[I g]:=rfl;rw[hargs];refine(jGb (m:=l.length) hv us hus hone hnil hcell hb).mono ?_;rintro e w' ⟨v',rfl,hown,hbel,hfr⟩;have hbB:Bel B w w':=jc5 hbel hB
    have hok:(O.trow 118 tsV (.st shV l) 0).ok (upd I nx v') B w' nx:=by
     unfold O.ok;simp only[upd_same];refine⟨us,hown,fun i j hi hj=>?_,fun i j i' j' u v k _ _ _ _ _ h0=>absurd h0 (xW _),fun k hk hc=>?_⟩
     ·obtain⟨u,hu,hux⟩:=hat i j hi hj;exact⟨u,hu,fun h0=>absurd h0 (xW _),fun _=>NC.at_bel hux hbB⟩
     ·have:=hB k hc;have:=hfr k hk;omega
    have h1:=hh.add (o:=.trow 118 tsV (.st shV l) 0) (I':=upd I nx v') hbel hB (jas _ _ _) trivial hok (fun k hk=>by
     rw[upd_same]at hk;exact hfr k hk)
    refine⟨upd I nx v',?_,jas _ _ _,Nat.lt_succ_self nx,Nat.le_succ nx,⟨B,Grow.refl _ _ _ _,h1⟩,hbB,fun _=>hbel,fun _ h o k hn hf hk=>?_⟩
    ·simp[RT.sel,V.val,W.val,C.val,upd]
    ·have hf:find ((nx,O.trow 118 tsV (.st shV l) 0)::hp) h=some o:=hf
     by_cases e1:h=nx
     ·subst e1
      have:o=O.trow 118 tsV (.st shV l) 0:=by
       have:=hf;simp only[find,if_pos]at this;exact(ye this).symm
      subst this;rw[upd_same]at hk;exact hfr k hk
     ·simp only[find,if_neg (Ne.symm e1)]at hf;have:=(hh.ok h o hf).1;omega
   ·cases h
  ·cases h
 ·cases h
abbrev sp_135:jaa->jaa:=jap 135 true jyn
def sp_135_ok {sp:jaa} (h:jab Tryz.prog sp):jab Tryz.prog (sp_135 sp):=jag jB7 h
end Go.Sh
end

section
namespace Go.Sx09
open Go Go.Proofs Go.RowKit Go.Shelf Go.Sx
attribute [local go_sem] Oper.semAt_some
end Go.Sx09
end

section
open Go.RowKit
namespace Go.Sh
open Go Go.Proofs Go.RowKit Go.Sx
open Go.Sx09 (jxv)
end Go.Sh
end

section
open Go.RowKit
namespace Go.Sh
open Go Go.Proofs Go.RowKit Go.Sx
end Go.Sh
end

section
open Go.RowKit
namespace Go.Sx
section
variable {P:zQ} {l n:Nat} {a:Act} {w:zs} {Q:Exit->Act->zs->Prop}
end
section
variable [Globs] {P:zQ} {sp:jaa} {B:Kd} {N n0:Nat} {I0:Env} {w0:zs} {ds:List Deferred}
end
def jsE:Nat->Code->Code|0,_=>.skip|n+1,.seq x y=>.seq x (jsE n y)|_+1,c=>c
def jsF:Nat->Code->Code|0,c=>c|n+1,.seq _ y=>jsF n y|_+1,_=>.skip
def jDQ:Nat->Code->Bool|0,_=>true|n+1,.seq _ y=>jDQ n y|_+1,_=>false
section
variable [Globs] {P:zQ} {sp:jaa} {B:Kd} {N n0:Nat} {I0:Env} {w0:zs} {ds:List Deferred}
def jAp {fuel:Nat} {loops:jfq} {drawn:Array qx->St->(St->Prop)->Prop} (hsp:jab P sp) (hdr:jec P B N n0 I0 w0 drawn) {Q:Exit->Act->zs->Prop} {k:Ex->St->Prop} :
  ∀(m:Nat) (c:Code) (cur:Nat) (gs:List Nat) (st:St) (I:Env) (a:Act) (w:zs),jDQ m c=true->sx P sp N n0 fuel loops drawn (jsE m c) cur gs st k->RelD ds I B N n0 st a w->jak n0 I0 I->Bel B w0 w -> (∀I' st' a' w',k .normal st'->RelD ds I' B N n0 st' a' w'->jak n0 I0 I'->Bel B w0 w'->(jsF m c).wp P Q a' w') -> (∀ex I' st' a' w',ex≠.normal->k ex st'->RelD ds I' B N n0 st' a' w'->jak n0 I0 I'->Bel B w0 w'->Q ex.toExit a' w')->c.wp P Q a w
 |0,c,_,_,st,I,a,w,_,h,hr,hag,hbl,hn,_=>hn I st a w h hr hag hbl
 |m+1,.seq x y,cur,gs,st,I,a,w,hs,h,hr,hag,hbl,hn,he=>by
  simp only[jsE]at h;unfold sx at h;refine fh (x7 (ja6 hsp hdr x cur gs st _ I a w h hr hag hbl) ?_);rintro e a' w' ⟨ex,I',st',rfl,hk,hr',hag',hbl'⟩;cases ex with
  |normal=>exact jAp hsp hdr m y cur gs st' I' a' w' hs hk hr' hag' hbl' hn he
  |exit j=>exact he (.exit j) I' st' a' w' (by simp) hk hr' hag' hbl'
  |ret=>exact he .ret I' st' a' w' (by simp) hk hr' hag' hbl'
end
end Go.Sx
end

section
open Go.RowKit
namespace Go.Sh
open Go Go.Proofs Go.RowKit Go.Sx
def cdB:Code:=Sx09.bodyOf Tryz.f91
abbrev spC:jaa:=sp_135 (sp_136 (sp_137 sp0))
def jsG:jab Tryz.prog spC:=sp_135_ok (sp_136_ok (sp_137_ok jaj))
def ptU (g:List (List NC)) (k j:Nat) (x:NC):List (List NC):=g.set k (jdU shV (g.getD k []) j x)
def ptA (g:List (List NC)) (k:Nat):List (List NC):=ptU g k 2 (.r (.ints .i64 (val (jaO (nL g k 2)))))
def ptB (g:List (List NC)) (k:Nat):List (List NC):=ptU (ptA g k) k 3 (.r (.ints .i64 (val (jaO (nL g k 3)))))
def ptC (g:List (List NC)) (k:Nat):List (List NC):=ptU (ptB g k) k 4 (.r (.ints .i64 (val (jaO (nL g k 4)))))
def ptD (g:List (List NC)) (k:Nat):List (List NC):=ptU (ptC g k) k 6 (.r (.recs 5 (val (jby (nR g k 6)))))
def cpK (g:List (List NC)):Nat->List (List NC)|0=>g|k+1=>ptD (cpK g k) k
def cpM:Nat->Nat|0=>0|k+1=>k*8+7
def jov (g:List (List NC)) (k j:Nat) (x:NC):(ptU g k j x).length=g.length:=by simp[ptU]
def jHm (g:List (List NC)) (k:Nat):(ptD g k).length=g.length:=by simp[ptD,ptC,ptB,ptA,jov]
def juf (g:List (List NC)):∀k,(cpK g k).length=g.length
 |0=>rfl
 |k+1=>by rw[cpK,jHm,juf g k]
def hpC (nm:ByteArray) (g0 g:List (List NC)) (m:Nat):Hp:=[(3,.trow 118 tsV (.st shV g) m),(1,.box 24 [.d (.s nm),.o 3]),(2,.box 24 [.d (.s xP),.d (.v (.slice none 0 0))]),(0,.xext (.st shV g0))]
def lpC (nm:ByteArray) (g:List (List NC)):jfq:=fun gs id _=>match id with|0=>some ⟨Nat,fun k=>⟨[(12,vi .i64 k),(11,vi .i64 (g.length:Int)),(2,.w (.c (.p 2 0 1 0))),(1,.w (.c (.p 1 0 1 0)))],hpC nm g (cpK g k) (cpM k),4⟩,fun k=>k<=g.length,fun k=>g.length-k⟩|_=>none
def stC (nm:ByteArray) (g0 g:List (List NC)):St:=⟨[(2,.w (.c (.p 2 0 1 0))),(1,.w (.c (.p 1 0 1 0)))],[(3,.mrow 118 tsV (.st shV g) none),(1,.box 24 [.d (.s nm),.o 3]),(2,.box 24 [.d (.s xP),.d (.v (.slice none 0 0))]),(0,.xext (.st shV g0))],4⟩
def jug {j:Nat} (h:j=0∨j=1∨j=5∨j=7):(shV.getD j .b).isSl=false:=by
 rcases h with rfl|rfl|rfl|rfl<;>rfl
def okU (g:List (List NC)):Prop:=∀k,k<g.length->ok (jaO (nL (cpK g k) k 2))∧ok (jaO (nL (cpK g k) k 3))∧ok (jaO (nL (cpK g k) k 4))∧ok (jby (nR (cpK g k) k 6))
abbrev jij (m n:Nat):Prop:=∀i' j':Nat,j'<8->m<=i' * 8+j'->i' * 8+j'<n->(shV.getD j' .b).isSl=false
set_option maxHeartbeats 2000000 in
def cd_vc (nm:ByteArray) (g:List (List NC)) (h0:g.length*136<=140737488355328) (hok:okU g):sx Tryz.prog spC 53 1 0 (lpC nm g) (jcD Tryz.prog spC 53) (jsE 3 cdB) 0 [] ⟨jbE 0 [.w (.a [.d (.s nm),.o 0])],[(0,.xext (.st shV g))],1⟩
  fun ex st'=>match ex with
   | .normal=>Le 1 st' (stC nm g (cpK g g.length))
   |_=>False:=by
 refine jK (by kernel_rfl:(Ob (g.length*136<=140737488355328) ∧ (∃x:Nat,Ob (x<=g.length)∧Ob ((0:Int)=(x:Int))∧Ob ((g.length:Int)=g.length)∧Ob ((0:Nat)=0)∧Ob ((0:Nat)=0)∧Ob (g=cpK g x)∧Ob (cpM x=0)∧Ob (nm=nm)∧Ob (xP=xP)∧Ob (qd none 0 0=qd none 0 0)∧Ob (g=g)∧True) ∧
  ∀x:Nat,x<=g.length->Br (decide ((x:Int)<(g.length:Int)))
   (Ob ((0:Int)<=x∧(x:Int)<((cpK g x).length:Int))∧Ob (x<(cpK g x).length∧cpM x<=x*8+2)∧Ob (ok (jaO (nL (cpK g x) x 2)))∧Ob (x<(cpK g x).length∧cpM x<=x*8+3)∧Ob (ok (jaO (nL (cpK g x) x 3)))∧Ob (x<(cpK g x).length∧cpM x<=x*8+4)∧Ob (ok (jaO (nL (cpK g x) x 4)))∧Ob (x<(cpK g x).length∧cpM x<=x*8+6)∧Ob (ok (jby (nR (cpK g x) x 6))) ∧ Ob (x<(cpK g x).length∧cpM x<=x*8+2∧jij (cpM x) (x*8+2))∧Ob (x<(ptA (cpK g x) x).length∧x*8+2+1<=x*8+3∧jij (x*8+2+1) (x*8+3))∧Ob (x<(ptB (cpK g x) x).length∧x*8+3+1<=x*8+4∧jij (x*8+3+1) (x*8+4))∧Ob (x<(ptC (cpK g x) x).length∧x*8+4+1<=x*8+6∧jij (x*8+4+1) (x*8+6)) ∧ ∃x':Nat,Ob (x'<=g.length)∧Ob (g.length-x'<g.length-x)∧Ob (xd.wrap ((x:Int)+1)=x')∧Ob ((g.length:Int)=g.length)∧Ob ((0:Nat)=0)∧Ob ((0:Nat)=0)∧Ob (ptD (cpK g x) x=cpK g x')∧Ob (cpM x'=x*8+6+1)∧Ob (nm=nm)∧Ob (xP=xP)∧Ob (qd none 0 0=qd none 0 0)∧Ob (g=g)∧True)
   (Ob ((0:Nat)=0)∧Ob ((0:Nat)=0)∧Ob (cpK g x=cpK g g.length)∧Ob (∀i j:Nat,i<(cpK g x).length->j<8->cpM x<=i*8+j->(shV.getD j .b).isSl=false)∧Ob (nm=nm)∧Ob (xP=xP)∧Ob (qd none 0 0=qd none 0 0)∧Ob (g=g)∧True))=_) ?_
 refine⟨⟨h0⟩,⟨0,⟨xh _⟩,⟨rfl⟩,⟨rfl⟩,⟨rfl⟩,⟨rfl⟩,⟨rfl⟩,⟨rfl⟩,⟨rfl⟩,⟨rfl⟩,⟨rfl⟩,⟨rfl⟩,trivial⟩,fun x hx=>Br.intro (fun hlt=>?_) fun hlt=>?_⟩
 ·have hlt:x<g.length:=by have:=of_decide_eq_true hlt;omega
  have hl:=juf g x
  have hm:cpM x<=x*8∧(x=0∨cpM x+1=x*8):=by
   cases x with
   |zero=>exact⟨zq _,.inl rfl⟩
   |succ n=>exact⟨by show n*8+7<=(n+1)*8;omega,.inr (by show n*8+7+1=(n+1)*8;omega)⟩
  obtain⟨o1,o2,o3,o4⟩:=hok x hlt;have f1:jij (cpM x) (x*8+2):=fun i' j' hj h1 h2=>jug (by omega);have f2:jij (x*8+2+1) (x*8+3):=fun i' j' hj h1 h2=>by omega
  have f3:jij (x*8+3+1) (x*8+4):=fun i' j' hj h1 h2=>by omega
  have f4:jij (x*8+4+1) (x*8+6):=fun i' j' hj h1 h2=>jug (by omega);have lA:(ptA (cpK g x) x).length=g.length:=by simp[ptA,jov,hl]
  have lB:(ptB (cpK g x) x).length=g.length:=by simp[ptB,jov,lA]
  have lC:(ptC (cpK g x) x).length=g.length:=by simp[ptC,jov,lB]
  exact⟨⟨by omega⟩,⟨by omega⟩,⟨o1⟩,⟨by omega⟩,⟨o2⟩,⟨by omega⟩,⟨o3⟩,⟨by omega⟩,⟨o4⟩,⟨by omega,by omega,f1⟩,⟨by omega,by omega,f2⟩,⟨by omega,by omega,f3⟩,⟨by omega,by omega,f4⟩,x+1,⟨hlt⟩,⟨by omega⟩,⟨by rw[jam (by omega)];rfl⟩,⟨rfl⟩,⟨rfl⟩,⟨rfl⟩,⟨rfl⟩,⟨rfl⟩,⟨rfl⟩,⟨rfl⟩,⟨rfl⟩,⟨rfl⟩,trivial⟩
 ·have hlt:=of_decide_eq_false hlt;obtain rfl:x=g.length:=by omega
  refine⟨⟨rfl⟩,⟨rfl⟩,⟨rfl⟩,⟨fun i j hi hj hq=>?_⟩,⟨rfl⟩,⟨rfl⟩,⟨rfl⟩,⟨rfl⟩,trivial⟩;rw[juf]at hi;refine jug ?_;cases hn:g.length with
  |zero=>omega
  |succ n=>rw[hn]at hq hi;simp only[cpM]at hq;omega
end Go.Sh
end

section
open Go.RowKit
namespace Go.Sh
open Go Go.Proofs Go.RowKit Go.Sx
def jIv (nm:ByteArray) (g l:List (List NC)):sx Tryz.prog spC 53 1 0 (lpC nm g) (jcD Tryz.prog spC 53) (jsF 3 cdB) 0 [] (stC nm g l) (jbX Tryz.prog Tryz.f91.results.toList fun v hp _=>jg1 1 [.s [.d (.s nm),.m 118 [0,0,3,3,3,0,148,0] (.st zS l)]] v hp) :=jK (by kernel_rfl:(Ob True∧Ob (nm=nm)∧Ob (l=l)∧True)=_) ⟨⟨trivial⟩,⟨rfl⟩,⟨rfl⟩,trivial⟩
def okUB (g:List (List NC)):Bool:=(zo g.length).all fun k=>(jaO (nL (cpK g k) k 2)).isSome&&(jaO (nL (cpK g k) k 3)).isSome&&(jaO (nL (cpK g k) k 4)).isSome&&(jby (nR (cpK g k) k 6)).isSome
def jDR {g:List (List NC)} (h:okUB g=true):okU g:=fun k hk=>by
 have:=zx.1 h k (qG.2 hk);simp only[zm]at this;exact⟨this.1.1.1,this.1.1.2,this.1.2,this.2⟩
def ja1 (nm:ByteArray) (g:List (List NC)):Option (ByteArray × List (List NC)):=if(decide (g.length*136<=140737488355328)&&okUB g)=true then some (nm,cpK g g.length)else none
def jsH:List SV:=[.a [.d,.x (.st zS [])]]
def jlg:List Lf->Option GT|[.d (.s nm),.x (.st [.s,.i .i64,.ints .i64,.ints .i64,.ints .i64,.i .i64,.recs 5,.i .i64] g)]=>some (.leaf (ok (ja1 nm g)) [.s [.d (.s (val (ja1 nm g)).1),.m 118 [0,0,3,3,3,0,148,0] (.st zS (val (ja1 nm g)).2)]])|_=>none
abbrev sp_91:jaa->jaa:=jap 91 true (jah jsH jlg)
def jzD:jaf Tryz.prog 91 true (jah jsH jlg):=by
 refine jhZ (body:=cdB) Tryz.func91 (by kernel_rfl) (by kernel_rfl) ?_;intro ls t hg ho b hb I0 w hlt hh;unfold jlg at hg;split at hg
 ·rename_i nm g;cases hg;obtain rfl:=jav hb;have ho:ok (ja1 nm g):=ho
  have hc:(decide (g.length*136<=140737488355328)&&okUB g)=true:=by
   unfold ja1 at ho
   by_cases h:(decide (g.length*136<=140737488355328)&&okUB g)=true
   ·exact h
   ·rw[if_neg h]at ho;cases ho
  have hv:val (ja1 nm g)=(nm,cpK g g.length):=by
   unfold ja1;rw[if_pos hc];rfl
  rw[zm,decide_eq_true_eq]at hc;have hh0:HRel I0 (kd fun k=>k<w.heap.size) [(0,.xext (.st shV g))] 1 w:=hh
  show Calls Tryz.prog 91 _ w _
  rw[hv];refine jpz (body:=cdB) (n0:=1) (args:=[.w (.a [.d (.s nm),.o 0])]) Tryz.func91 (by kernel_rfl) (zh (by kernel_rfl)) (fun x hx=>hlt x hx) (zq _) I0 w hh0 (fun k hk=>jbL.1 hk) fun a hr=>?_;refine jAp jsG (jb1 mixed jsG) (cur:=0) (gs:=[]) 3 cdB _ I0 a w (by kernel_rfl) (cd_vc nm g hc.1 (jDR hc.2)) hr (jak.refl _ _) (Bel.refl _ _) ?_ ?_
  ·intro I1 st1 a1 w1 hk1 hr1 hag1 hbl1;have hk1:Le 1 st1 (stC nm g (cpK g g.length)):=hk1;obtain⟨I2,hr2,hag2⟩:=hk1.rel hr1;exact ja6 jsG (jb1 mixed jsG) (jsF 3 cdB) 0 [] _ _ I2 a1 w1 (jIv nm g (cpK g g.length)) hr2 (fun x hx=>(hag2 x hx).trans (hag1 x hx)) hbl1
  ·intro ex I1 st1 a1 w1 hne hk1 _ _ _;cases ex with
   |normal=>exact absurd rfl hne
   |exit j=>exact hk1.elim
   |ret=>exact hk1.elim
 ·cases hg
def sp_91_ok {sp:jaa} (h:jab Tryz.prog sp):jab Tryz.prog (sp_91 sp):=jag jzD h
end Go.Sh
end

section
namespace Go.Sh
open Go Go.Proofs Go.RowKit Go.Sx
variable {g:List (List NC)} {l:List Int}
def jqU (g:List (List NC)) (i:Nat) (al:List Int):List NC:=[.d (.s (nS g i 0)),.d (.i .i64 (nI g i 1)),.r (.ints .i64 (nL g i 2)),.r (.ints .i64 al),.r (.ints .i64 (nL g i 4)),.d (.i .i64 (nI g i 5)),.r (.recs 5 (nR g i 6)),.d (.i .i64 (nI g i 7))]
def wA (g:List (List NC)) (f:Nat->List Int):List (List NC):=(zo g.length).map fun i=>jqU g i (f i)
def jaU (f:Nat->List Int):(wA g f).length=g.length:=by simp[wA]
def jhF (f:Nat->List Int) {i:Nat} (hi:i<g.length):(wA g f).getD i []=jqU g i (f i):=by simp[wA,za,hi]
section
variable (f:Nat->List Int) {i:Nat} (hi:i<g.length)
include hi
def jd5:nI (wA g f) i 1=nI g i 1∧nI (wA g f) i 5=nI g i 5∧nI (wA g f) i 7=nI g i 7:=by
 unfold nI;rw[jhF f hi];exact⟨rfl,rfl,rfl⟩
def jbg:nL (wA g f) i 2=nL g i 2∧nL (wA g f) i 3=f i∧nL (wA g f) i 4=nL g i 4:=by
 unfold nL;rw[jhF f hi];exact⟨rfl,rfl,rfl⟩
def jyo:nR (wA g f) i 6=nR g i 6:=by
 unfold nR;rw[jhF f hi];rfl
def jyp:nS (wA g f) i 0=nS g i 0:=by
 unfold nS;rw[jhF f hi];rfl
end
def jHn (f:Nat->List Int) {i:Nat} (hi:¬i<g.length):(wA g f).getD i []=g.getD i []:=by
 simp only[za];rw[zW (by rw[jaU];omega),zW (by omega)]
def jAq (f:Nat->List Int) (i:Nat):nL (wA g f) i 2=nL g i 2∧nI (wA g f) i 7=nI g i 7:=by
 by_cases hi:i<g.length
 ·exact⟨(jbg f hi).1,(jd5 f hi).2.2⟩
 ·unfold nL nI;rw[jHn f hi];exact⟨rfl,rfl⟩
def jHo (f:Nat->List Int):jbn (wA g f)=jbn g:=by
 funext out;unfold jbn
 have:jdg (wA g f) out=jdg g out:=by
  funext i;unfold jdg jc8 jdI;rw[jaU,(jAq f i).1,(jAq f i).2]
 rw[jaU,this]
def jdK (f:Nat->List Int) (i:Nat) (L:List Int):Nat->List Int:=fun k=>if k=i then L else f k
def jDS {f f':Nat->List Int} (h:∀i,i<g.length->f i=f' i):wA g f=wA g f':=by
 unfold wA;exact qt fun i hi=>by rw[h i (qG.1 hi)]
def jIw (f:Nat->List Int) {i:Nat} (hi:i<g.length) (L:List Int):(wA g f).set i (jdU shV ((wA g f).getD i []) 3 (.r (.ints .i64 L)))=wA g (jdK f i L):=by
 rw[jhF f hi];refine xF (by simp[jaU]) fun k h1 h2=>?_;have hk:k<g.length:=by simpa [jaU]using h2
 rw[List.getElem_set];have e:∀(f':Nat->List Int) (h:k<(wA g f').length),(wA g f')[k]=jqU g k (f' k):=fun f' h=>by simp[wA]
 split
 ·rename_i hik;subst hik;rw[e];unfold jdK;rw[if_pos rfl];rfl
 ·rename_i hik;rw[e,e];unfold jdK;rw[if_neg (fun h=>hik h.symm)]
def wA_cp (f:Nat->List Int):cpU (wA g f)=wA g f:=by
 unfold cpU;rw[jaU];unfold wA;refine qt fun i hi=>?_;have hi:=qG.1 hi
 show jxP (wA g f) i=jqU g i (f i)
 unfold jxP jqU;rw[jyp f hi,(jd5 f hi).1,(jd5 f hi).2.1,(jd5 f hi).2.2,(jbg f hi).1,(jbg f hi).2.1,(jbg f hi).2.2,jyo f hi]
def jHp (f:Nat->List Int) {i:Nat} (hi:i<g.length) (h2:(nL g i 2).length<100) (h3:(f i).length<100) (h4:(nL g i 4).length<100) (h6:(nR g i 6).length<100):ptD (wA g f) i=wA g f:=by
 have s:∀(j:Nat) (x:NC),jdU shV (jqU g i (f i)) j x=jqU g i (f i)->ptU (wA g f) i j x=wA g f:=fun j x hx=>by
  unfold ptU;rw[jhF f hi,hx];exact jx4 _ i [] _ (jhF f hi) (by rw[jaU];exact hi)
 have c:∀L:List Int,L.length<100->val (jaO L)=L:=fun L hL=>by unfold jaO;rw[if_pos (by omega)];rfl
 have eA:ptA (wA g f) i=wA g f:=by
  unfold ptA;rw[(jbg f hi).1,c _ h2];exact s 2 _ rfl
 have eB:ptB (wA g f) i=wA g f:=by
  unfold ptB;rw[eA,(jbg f hi).2.1,c _ h3];exact s 3 _ rfl
 have eC:ptC (wA g f) i=wA g f:=by
  unfold ptC;rw[eB,(jbg f hi).2.2,c _ h4];exact s 4 _ rfl
 unfold ptD;rw[eC,jyo f hi];refine s 6 _ ?_;unfold jby;rw[if_pos (by omega)];rfl
def jB9 (hw:Fw g) (f:Nat->List Int) (hf:∀i,i<g.length->(f i).length<100):∀k,k<=g.length->cpK (wA g f) k=wA g f
 |0,_=>rfl
 |k+1,hk=>by
  rw[cpK,jB9 hw f hf k (by omega)];exact jHp f hk (hw.fr k hk) (hf k hk) (hw.ga k hk) (hw.ca k hk)
def jDT (hw:Fw g) (nm:ByteArray) (f:Nat->List Int) (hf:∀i,i<g.length->(f i).length<100):ja1 nm (wA g f)=some (nm,wA g f):=by
 have hn:=hw.n;unfold ja1;rw[jaU,jB9 hw f hf _ (zq _),if_pos];rw[zm,decide_eq_true_eq];refine⟨by omega,zx.2 fun k hk=>?_⟩;have hk:=qG.1 hk;rw[jaU]at hk;have h2:=hw.fr k hk;have h3:=hf k hk;have h4:=hw.ga k hk;have h6:=hw.ca k hk;rw[jB9 hw f hf _ (by omega),(jbg f hk).1,(jbg f hk).2.1,(jbg f hk).2.2,jyo f hk];unfold jaO jby;rw[if_pos (by omega),if_pos (by omega),if_pos (by omega),if_pos (by omega)];rfl
def wA_rg (h:Rg g l) (f:Nat->List Int) (hl:∀i,i<g.length->(f i).length=(nL g i 3).length) (hr:∀i,i<g.length->∀k,k<(f i).length->0<=(f i).getD k 0∧(f i).getD k 0<=64):Rg (wA g f) l:=by
 refine⟨⟨by rw[jaU];exact h.fw.n,fun i hi=>?_,fun i hi=>?_,fun i hi=>?_,fun i hi=>?_,fun i hi=>?_⟩,fun i hi=>?_,by rw[jHo,jaU];exact h.ord⟩
 all_goals rw[jaU]at hi
 ·rw[jyp f hi];exact h.fw.nm i hi
 ·rw[(jbg f hi).1];exact h.fw.fr i hi
 ·rw[(jbg f hi).2.1,hl i hi];exact h.fw.al i hi
 ·rw[(jbg f hi).2.2];exact h.fw.ga i hi
 ·rw[jyo f hi];exact h.fw.ca i hi
 ·have hex:exB (wA g f) i=exB g i:=by
   unfold exB;rw[jyp f hi]
   have:∀l:List Nat,(∀k∈l,k<i)->(l.any fun k=>nS (wA g f) k 0==nS g i 0)=l.any fun k=>nS g k 0==nS g i 0:=by
    intro l
    induction l with
    |nil=>intro _;rfl
    |cons x r ih =>
     intro h;have hx:=h x zy;rw[yO,yO,jyp f (by omega),ih fun k hk=>h k (zw _ hk)]
   exact this _ fun k hk=>qG.1 hk
  have hrg:jbQ (nI g i 1) (f i) (nL g i 4) (nI g i 5)=true:=by
   have h1:=(jfK (h.ok i hi)).2.1;unfold jbQ at h1 ⊢;simp only[zm]at h1 ⊢;refine⟨⟨⟨?_,h1.1.1.2⟩,h1.1.2⟩,h1.2⟩;rw[xL,xu];intro x hx;obtain⟨k,hk,rfl⟩:=xj.1 hx;have:=hr i hi k hk;rw[jnM 0 hk]at this;simp[inB];omega
  have hg:=h.ok i hi;have ho:=(jfK hg).2.1;unfold jbe at hg ⊢;rw[jyp f hi,hex,(jd5 f hi).1,(jd5 f hi).2.1,(jd5 f hi).2.2,(jbg f hi).1,(jbg f hi).2.1,(jbg f hi).2.2,jyo f hi,jaU,hl i hi,hrg];rw[ho]at hg;exact hg
end Go.Sh
end

section
namespace Go.Sh
open Go Go.Proofs Go.RowKit Go.Sx
open Go.IntKind (wrap)
def y268:List SV:=[.a [.d,.x (.st zS [])]]
def jyq (x0:Int × List Int × List (List NC)) (r1:List Int) (x1:(Int × Int)):Option ((Int × Int) ⊕ Int) :=
 if x1.2<(↑(zb (nL x0.2.2 (zN r1 x0.1) (2:Nat))):Int)then if 0<=x1.2∧x1.2<(↑(zb (nL x0.2.2 (zN r1 x0.1) (2:Nat))):Int)then
  if zf x1.2<zb (nL x0.2.2 (zN r1 x0.1) (2:Nat))then if 0<=za (nL x0.2.2 (zN r1 x0.1) (2:Nat)) x1.2.toNat (0:Int)∧za (nL x0.2.2 (zN r1 x0.1) (2:Nat)) x1.2.toNat 0<(↑x0.2.1.length:Int)then
   if zf (za (nL x0.2.2 (zN r1 x0.1) (2:Nat)) x1.2.toNat (0:Int))<zb x0.2.1 then if zf (za r1 x0.1.toNat (0:Int))<zb x0.2.2 then
    if 0<=x1.2∧x1.2<(↑(zb (nL x0.2.2 (zN r1 x0.1) (3:Nat))):Int)then if zf x1.2<zb (nL x0.2.2 (zN r1 x0.1) (3:Nat))then some (.inl ((if wrap .i64 (za x0.2.1 (zf (za (nL x0.2.2 (zN r1 x0.1) (2:Nat)) x1.2.toNat (0:Int))) 0+za (nL x0.2.2 (zN r1 x0.1) (3:Nat)) x1.2.toNat (0:Int))>x1.1 then wrap .i64 (za x0.2.1 (zf (za (nL x0.2.2 (zN r1 x0.1) (2:Nat)) x1.2.toNat (0:Int))) 0+za (nL x0.2.2 (zN r1 x0.1) (3:Nat)) x1.2.toNat (0:Int))else x1.1,wrap .i64 (x1.2+1))))
     else none
    else none
    else none
   else none
   else none
  else none
  else none
 else some (.inr x1.1)
def juh (x0:Int × List Int × List (List NC)) (u19:Int) (r1:List Int) (x2:(Int × List (List NC))):Option ((Int × List (List NC)) ⊕ (Unit ⊕ (List (List NC)))) :=
 if x2.1<(↑(zb (nL x0.2.2 (zN r1 x0.1) (2:Nat))):Int)then if 0<=x2.1∧x2.1<(↑(zb (nL x0.2.2 (zN r1 x0.1) (2:Nat))):Int)then
  if zf x2.1<zb (nL x0.2.2 (zN r1 x0.1) (2:Nat))then if zf (za r1 x0.1.toNat (0:Int))<zb x2.2 then
   if 0<=za (nL x0.2.2 (zN r1 x0.1) (2:Nat)) x2.1.toNat (0:Int)∧za (nL x0.2.2 (zN r1 x0.1) (2:Nat)) x2.1.toNat 0<(↑x0.2.1.length:Int)then if zf (za (nL x0.2.2 (zN r1 x0.1) (2:Nat)) x2.1.toNat (0:Int))<zb x0.2.1 then
    if 0<=x2.1∧x2.1<(↑(zb (nL x2.2 (zN r1 x0.1) (3:Nat))):Int)then if zf x2.1<zb (nL x2.2 (zN r1 x0.1) (3:Nat))then
     if zf (za r1 x0.1.toNat (0:Int))<zb (qv x2.2 (zN r1 x0.1) (jdU zS (za x2.2 (zN r1 x0.1) []) (3:Nat) (NC.r (Cont.ints .i64 (qv (nL x2.2 (zN r1 x0.1) (3:Nat)) x2.1.toNat (wrap .i64 (u19-za x0.2.1 (zf (za (nL x0.2.2 (zN r1 x0.1) (2:Nat)) x2.1.toNat (0:Int))) (0:Int))))))))then if 0<=x2.1∧x2.1<(↑(zb (nL (qv x2.2 (zN r1 x0.1) (jdU zS (za x2.2 (zN r1 x0.1) []) (3:Nat) (NC.r (Cont.ints .i64 (qv (nL x2.2 (zN r1 x0.1) (3:Nat)) x2.1.toNat (wrap .i64 (u19-za x0.2.1 (zf (za (nL x0.2.2 (zN r1 x0.1) (2:Nat)) x2.1.toNat (0:Int))) (0:Int)))))))) (zN r1 x0.1) (3:Nat))):Int)then
      if zf x2.1<zb (nL (qv x2.2 (zN r1 x0.1) (jdU zS (za x2.2 (zN r1 x0.1) []) (3:Nat) (NC.r (Cont.ints .i64 (qv (nL x2.2 (zN r1 x0.1) (3:Nat)) x2.1.toNat (wrap .i64 (u19-za x0.2.1 (zf (za (nL x0.2.2 (zN r1 x0.1) (2:Nat)) x2.1.toNat (0:Int))) (0:Int)))))))) (zN r1 x0.1) (3:Nat))then if za (nL (qv x2.2 (zN r1 x0.1) (jdU zS (za x2.2 (zN r1 x0.1) []) (3:Nat) (NC.r (Cont.ints .i64 (qv (nL x2.2 (zN r1 x0.1) (3:Nat)) x2.1.toNat (wrap .i64 (u19-za x0.2.1 (zf (za (nL x0.2.2 (zN r1 x0.1) (2:Nat)) x2.1.toNat (0:Int))) (0:Int)))))))) (zN r1 x0.1) (3:Nat)) x2.1.toNat (0:Int)>64 then some (.inr ((.inl ())))
       else
       some (.inl ((wrap .i64 (x2.1+1),qv x2.2 (zN r1 x0.1) (jdU zS (za x2.2 (zN r1 x0.1) []) (3:Nat) (NC.r (Cont.ints .i64 (qv (nL x2.2 (zN r1 x0.1) (3:Nat)) x2.1.toNat (wrap .i64 (u19-za x0.2.1 (zf (za (nL x0.2.2 (zN r1 x0.1) (2:Nat)) x2.1.toNat (0:Int))) (0:Int))))))))))
      else none
      else none
     else none
     else none
    else none
    else none
   else none
   else none
  else none
  else none
 else some (.inr (.inr x2.2))
def jn6 (x0:Int × List Int × List (List NC)) (u19:Int) (r1:List Int) (u44:Unit):Option ((Int × List Int × List (List NC)) ⊕ (Unit ⊕ (List (List NC)))) :=some (.inr ((.inl ())))
def y212 (x0:Int × List Int × List (List NC)) (u19:Int) (r1:List Int) (u54:List (List NC)):Option ((Int × List Int × List (List NC)) ⊕ (Unit ⊕ (List (List NC)))) :=
 if zf (za r1 x0.1.toNat (0:Int))<zb u54 then if 0<=za r1 x0.1.toNat (0:Int)∧za r1 x0.1.toNat 0<(↑x0.2.1.length:Int)then
  if zf (za r1 x0.1.toNat (0:Int))<zb x0.2.1 then some (.inl ((wrap .i64 (x0.1+1),qv x0.2.1 (zN r1 x0.1) (wrap .i64 (u19+nI u54 (zN r1 x0.1) (5:Nat))),u54)))
  else none
  else none
 else none
def y249 (x0:Int × List Int × List (List NC)) (u19:Int) (r1:List Int):(Unit ⊕ (List (List NC)))->Option ((Int × List Int × List (List NC)) ⊕ (Unit ⊕ (List (List NC)))) :=(qz (jn6 x0 u19 r1) (y212 x0 u19 r1))
def y250 (x0:Int × List Int × List (List NC)) (r1:List Int) (u19:Int):Option ((Int × List Int × List (List NC)) ⊕ (Unit ⊕ (List (List NC)))) :=
 if zf (za r1 x0.1.toNat (0:Int))<zb x0.2.2 then ze (jae (juh x0 u19 r1) big (((0:Int),x0.2.2))) (y249 x0 u19 r1)
 else none
def y31 (r1:List Int) (x0:(Int × List Int × List (List NC))):Option ((Int × List Int × List (List NC)) ⊕ (Unit ⊕ (List (List NC)))) :=
 if x0.1<(↑r1.length:Int)then if 0<=x0.1∧x0.1<(↑r1.length:Int)then
  if zf x0.1<zb r1 then if 0<=za r1 x0.1.toNat (0:Int)∧za r1 x0.1.toNat 0<(↑x0.2.2.length:Int)then
   if zf (za r1 x0.1.toNat (0:Int))<zb x0.2.2 then ze (jae (jyq x0 r1) big (((0:Int),0))) (y250 x0 r1)
   else none
   else none
  else none
  else none
 else some (.inr (.inr x0.2.2))
def jn7 (r2:ByteArray × List (List NC)) (u5:Unit):Option (ByteArray × List (List NC) × Int) :=some ((qA #[],[],8))
def jn8 (r2:ByteArray × List (List NC)) (u10:List (List NC)):Option (ByteArray × List (List NC) × Int) :=some ((r2.1,u10,0))
def y168 (r2:ByteArray × List (List NC)):(Unit ⊕ (List (List NC)))->Option (ByteArray × List (List NC) × Int) :=(qz (jn7 r2) (jn8 r2))
def y5 (u4:zY) (u1:List (List NC)):Option (ByteArray × List (List NC) × Int) :=
 if(jgx u4 u1)=true then
  ze (jcx u4 u1) fun r0 =>
  some (qA #[],[],nzI r0)
 else
  ze (jay u4 u1) fun r1 =>
  ze (ja1 u4 u1) fun r2 =>
  if 0<=(↑u1.length:Int)∧(↑u1.length:Int)=(↑u1.length:Int)∧(↑(8:Nat):Int)*(↑u1.length:Int)<=281474976710656∧(↑u1.length:Int)<=9223372036854775807 then
  ze (jae (y31 r1) big (((0:Int),zi (zf (↑u1.length:Int)) (0:Int),r2.2))) (y168 r2)
  else none
def y269:List Lf->Option GT|[.d (.s u4),.x (.st [.s,.i .i64,.ints .i64,.ints .i64,.ints .i64,.i .i64,.recs 5,.i .i64] u1)]=>some (.leaf (ok (y5 u4 u1)) [.s [.d (.s ((val (y5 u4 u1)).1)),.m 118 zE (.st (zS) ((val (y5 u4 u1)).2.1))],.c (.d (.i .i64 ((val (y5 u4 u1)).2.2)))])|_=>none
abbrev sp_37:jaa->jaa:=jap 37 true (jah y268 y269)
abbrev y169 (u4:zY) (u1:List (List NC)) (r:ByteArray × List (List NC) × Int):Lp ((Int × List Int × List (List NC)) × Nat) ((Int × List Int × List (List NC))) ((Unit ⊕ (List (List NC)))) ((ByteArray × List (List NC) × Int)) (ByteArray × List (List NC) × Int) :=⟨fun z=>z.1,fun z=>z.2,fun z x n=>(x,n),fun z=>y31 (val (jay u4 u1)),fun z=>y168 (val (ja1 u4 u1)),fun z=>top r,fun z=>0,[.c fun _=>0,.c fun _=>0,.c fun _=>(↑(zb (val (jay u4 u1))):Int),.c fun vv=>vv.1.1,.c fun _=>qA #[],.c fun _=>qd none (0:Nat) (0:Nat),.c fun _=>(val (ja1 u4 u1)).1,.c fun vv=>vv.1.2.1,.c fun _=>val (jay u4 u1),.c fun vv=>vv.1.2.2]⟩
abbrev jhG (u4:zY) (u1:List (List NC)) (r:ByteArray × List (List NC) × Int) (m1:Nat):Lp ((Int × List Int × List (List NC)) × Nat × (Int × Int) × Nat) (Int × Int) Int (((Int × List Int × List (List NC)) ⊕ (Unit ⊕ (List (List NC))))) (ByteArray × List (List NC) × Int) :=⟨fun z=>z.2.2.1,fun z=>z.2.2.2,fun z x n=>(z.1,z.2.1,x,n),fun z=>jyq z.1 (val (jay u4 u1)),fun z=>y250 z.1 (val (jay u4 u1)),fun z=>(y169 u4 u1 r).cx (z.1,m1),fun z=>z.2.1,[.c fun _=>0,.c fun _=>0,.c fun vv=>za (val (jay u4 u1)) vv.1.1.toNat (0:Int),.c fun vv=>zf (za (val (jay u4 u1)) vv.1.1.toNat (0:Int)),.c fun vv=>vv.2.2.1.1,.c fun _=>(↑(zb (val (jay u4 u1))):Int),.c fun vv=>vv.1.1,.c fun vv=>(↑(zb (nL vv.1.2.2 (zf (za (val (jay u4 u1)) vv.1.1.toNat (0:Int))) (2:Nat))):Int),.c fun vv=>vv.2.2.1.2,.c fun _=>qA #[],.c fun _=>qd none (0:Nat) (0:Nat),.c fun _=>(val (ja1 u4 u1)).1,.c fun vv=>vv.1.2.1,.c fun vv=>vv.1.2.2,.c fun _=>val (jay u4 u1),.c fun vv=>zf (za (val (jay u4 u1)) vv.1.1.toNat (0:Int)),.c fun vv=>nL vv.1.2.2 (zf (za (val (jay u4 u1)) vv.1.1.toNat (0:Int))) (2:Nat)]⟩
abbrev jhH (u4:zY) (u1:List (List NC)) (r:ByteArray × List (List NC) × Int) (m1:Nat):Lp ((Int × List Int × List (List NC)) × Nat × Int × (Int × List (List NC)) × Nat) ((Int × List (List NC))) ((Unit ⊕ (List (List NC)))) (((Int × List Int × List (List NC)) ⊕ (Unit ⊕ (List (List NC))))) (ByteArray × List (List NC) × Int) :=⟨fun z=>z.2.2.2.1,fun z=>z.2.2.2.2,fun z x n=>(z.1,z.2.1,z.2.2.1,x,n),fun z=>juh z.1 z.2.2.1 (val (jay u4 u1)),fun z=>y249 z.1 z.2.2.1 (val (jay u4 u1)),fun z=>(y169 u4 u1 r).cx (z.1,m1),fun z=>z.2.1,[.c fun _=>0,.c fun _=>0,.c fun vv=>za (val (jay u4 u1)) vv.1.1.toNat (0:Int),.c fun vv=>zf (za (val (jay u4 u1)) vv.1.1.toNat (0:Int)),.c fun vv=>vv.2.2.1,.c fun _=>(↑(zb (val (jay u4 u1))):Int),.c fun vv=>vv.1.1,.c fun vv=>(↑(zb (nL vv.1.2.2 (zf (za (val (jay u4 u1)) vv.1.1.toNat (0:Int))) (2:Nat))):Int),.c fun vv=>vv.2.2.2.1.1,.c fun _=>qA #[],.c fun _=>qd none (0:Nat) (0:Nat),.c fun _=>(val (ja1 u4 u1)).1,.c fun vv=>vv.1.2.1,.c fun vv=>vv.2.2.2.1.2,.c fun _=>val (jay u4 u1),.c fun vv=>zf (za (val (jay u4 u1)) vv.1.1.toNat (0:Int)),.c fun vv=>nL vv.1.2.2 (zf (za (val (jay u4 u1)) vv.1.1.toNat (0:Int))) (2:Nat)]⟩
def jqV (u4:zY) (u1:List (List NC)) (r:ByteArray × List (List NC) × Int):Sk (top r) (ze (jae (y31 (val (jay u4 u1))) big (((0:Int),zi (zf (↑u1.length:Int)) (0:Int),(val (ja1 u4 u1)).2))) (y168 (val (ja1 u4 u1)))) :=
 .loop (y169 u4 u1 r) (fun kk=>(((0:Int),zi (zf (↑u1.length:Int)) (0:Int),(val (ja1 u4 u1)).2),big)) fun z0 =>
 .br
 (.ob (.ob (.ob (.ob (.loop (jhG u4 u1 r z0.2) (fun kk=>(z0.1,kk,((0:Int),0),big)) fun z1 =>
 .br
 (.ob (.ob (.ob (.ob (.ob (.ob (.ob (.next))))))))
 (.exit (.ob (.loop (jhH u4 u1 r z0.2) (fun kk=>(z1.1,kk,z1.2.2.1.1,((0:Int),z1.1.2.2),big)) fun z1 =>
 .br
 (.ob (.ob (.ob (.ob (.ob (.ob (.ob (.ob (.ob (.ob (.br
 (.exit (.exit (.obT (.obT (.ret (fun r=>(Ob (qA #[]=r.1) ∧
 (Ob (zb r.2.1=(0:Nat)) ∧
 (Ob ((8:Int)=r.2.2) ∧
 True)))) ⟨⟨rfl⟩,⟨⟨rfl⟩,⟨⟨rfl⟩,trivial⟩⟩⟩)))))
 (.next))))))))))))
 (.exit (.ob (.ob (.ob (.next)))))))))))))
 (.exit (.obT (.obT (.rc))))
def jsI (u4:zY) (u1:List (List NC)) (r:ByteArray × List (List NC) × Int):Sk (top r) (y5 u4 u1) :=.brB
 (.call (.obT (.obT (.ret (fun r=>(Ob (qA #[]=r.1) ∧
 (Ob (zb r.2.1=(0:Nat)) ∧
 (Ob (nzI (val (jcx u4 u1))=r.2.2) ∧
 True)))) ⟨⟨rfl⟩,⟨⟨rfl⟩,⟨⟨rfl⟩,trivial⟩⟩⟩))))
 (.call (.call (.ob (jqV u4 u1 r))))
def jqW (u4:zY) (u1:List (List NC)) (r:ByteArray × List (List NC) × Int) (h:ze (y5 u4 u1) some=some r):jaR Tryz.f37 ((sp_80 (sp_91 sp0))) (fun gs id st=>match id with
 |0=>some ⟨(Int × List Int × List (List NC)) × Nat,fun z=>⟨[(2,.w (.c (.p 1 0 1 0))),(6,.w (.c (.p 2 0 1 0))),(7,.w (.c (.o 3))),(34,.w (.c (.o 4))),(35,.w (.c (.d (.i .i64 ((↑(zb (val (jay u4 u1))):Int)))))),(36,.w (.c (.d (.i .i64 z.1.1))))],[(1,.box 24 [.d (.s (qA #[])),.d (.v (qd none (0:Nat) (0:Nat)))]),(2,.box 24 [.d (.s ((val (ja1 u4 u1)).1)),.o 5]),(3,.row 3 (.ints .i64 z.1.2.1)),(4,.row 3 (.ints .i64 (val (jay u4 u1)))),(5,.mrow 118 zE (XC.st zS z.1.2.2) none)],6⟩,fun z=>(y169 u4 u1 r).inv z,fun z=>z.2⟩
 |2=>some ⟨(Int × List Int × List (List NC)) × Nat × (Int × Int) × Nat,fun z=>⟨[(2,.w (.c (.p 1 0 1 0))),(6,.w (.c (.p 2 0 1 0))),(7,.w (.c (.o 3))),(9,.w (.c (.d (.i .i64 (za (val (jay u4 u1)) z.1.1.toNat (0:Int)))))),(10,.w (.c (.p 4 (zf (za (val (jay u4 u1)) z.1.1.toNat (0:Int))) 8 (0:Nat)))),(11,.w (.c (.d (.i .i64 z.2.2.1.1)))),(34,.w (.c (.o 5))),(35,.w (.c (.d (.i .i64 ((↑(zb (val (jay u4 u1))):Int)))))),(36,.w (.c (.d (.i .i64 (z.1.1))))),(47,.w (.c (.o 6))),(48,.w (.c (.d (.i .i64 ((↑(zb (nL z.1.2.2 (zf (za (val (jay u4 u1)) z.1.1.toNat (0:Int))) (2:Nat))):Int)))))),(49,.w (.c (.d (.i .i64 z.2.2.1.2))))],[(1,.box 24 [.d (.s (qA #[])),.d (.v (qd none (0:Nat) (0:Nat)))]),(2,.box 24 [.d (.s ((val (ja1 u4 u1)).1)),.o 4]),(3,.row 3 (.ints .i64 (z.1.2.1))),(4,.mrow 118 zE (XC.st zS z.1.2.2) none),(5,.row 3 (.ints .i64 (val (jay u4 u1)))),(6,.sub 4 (zf (za (val (jay u4 u1)) z.1.1.toNat (0:Int))) 8 2 3 (.ints .i64 (nL z.1.2.2 (zf (za (val (jay u4 u1)) z.1.1.toNat (0:Int))) (2:Nat))))],7⟩,fun z=>(jhG u4 u1 r (gs.getD 0 0)).inv z,fun z=>z.2.2.2⟩
 |4=>some ⟨(Int × List Int × List (List NC)) × Nat × Int × (Int × List (List NC)) × Nat,fun z=>⟨[(2,.w (.c (.p 1 0 1 0))),(6,.w (.c (.p 2 0 1 0))),(7,.w (.c (.o 3))),(9,.w (.c (.d (.i .i64 (za (val (jay u4 u1)) z.1.1.toNat (0:Int)))))),(10,.w (.c (.p 4 (zf (za (val (jay u4 u1)) z.1.1.toNat (0:Int))) 8 (0:Nat)))),(11,.w (.c (.d (.i .i64 z.2.2.1)))),(34,.w (.c (.o 5))),(35,.w (.c (.d (.i .i64 ((↑(zb (val (jay u4 u1))):Int)))))),(36,.w (.c (.d (.i .i64 (z.1.1))))),(72,.w (.c (.o 6))),(73,.w (.c (.d (.i .i64 ((↑(zb (nL z.1.2.2 (zf (za (val (jay u4 u1)) z.1.1.toNat (0:Int))) (2:Nat))):Int)))))),(74,.w (.c (.d (.i .i64 z.2.2.2.1.1))))],[(1,.box 24 [.d (.s (qA #[])),.d (.v (qd none (0:Nat) (0:Nat)))]),(2,.box 24 [.d (.s ((val (ja1 u4 u1)).1)),.o 4]),(3,.row 3 (.ints .i64 (z.1.2.1))),(4,.mrow 118 zE (XC.st zS z.2.2.2.1.2) none),(5,.row 3 (.ints .i64 (val (jay u4 u1)))),(6,.sub 4 (zf (za (val (jay u4 u1)) z.1.1.toNat (0:Int))) 8 2 3 (.ints .i64 (nL z.1.2.2 (zf (za (val (jay u4 u1)) z.1.1.toNat (0:Int))) (2:Nat))))],7⟩,fun z=>(jhH u4 u1 r (gs.getD 0 0)).inv z,fun z=>z.2.2.2.2⟩
 |_=>none) (jaK y268 [.d (.s u4),.x (.st zS u1)]) [.s [.d (.s r.1),.m 118 zE (.st (zS) r.2.1)],.c (.d (.i .i64 r.2.2))] :=
 Sk.vc (jsI u4 u1 r) (by kernel_rfl) h
def jqX:jaf Tryz.prog 37 true (jah y268 y269):=by
 refine jan (sp:=(sp_80 (sp_91 sp0))) (fn:=Tryz.f37) (body:=bodyOf Tryz.f37) mixed (sp_80_ok (sp_91_ok jaj)) Tryz.func37 (by kernel_rfl) (by kernel_rfl) fun ls t h ho b hb=>?_;unfold y269 at h;split at h
 ·rename_i u4 u1;cases h;obtain rfl:=jav hb;exact⟨zh (by kernel_rfl),_,_,jqW u4 u1 _ (jai ho)⟩
 ·cases h
def sp_37_ok {sp:jaa} (h:jab Tryz.prog sp):jab Tryz.prog (sp_37 sp):=jag jqX h
end Go.Sh
end

section
namespace Go.Sh
open Go Go.Proofs Go.RowKit Go.Sx
open Go.IntKind (wrap)
def jcy (x0:Int × List Int × List (List NC)) (r1:List Int × Bool) (x1:(Int × Int)):Option ((Int × Int) ⊕ Int) :=
 if x1.2<(↑(zb (nL x0.2.2 (zf (za r1.1 x0.1.toNat (0:Int))) (2:Nat))):Int)then if 0<=x1.2∧x1.2<(↑(zb (nL x0.2.2 (zf (za r1.1 x0.1.toNat (0:Int))) (2:Nat))):Int)then
  if zf x1.2<zb (nL x0.2.2 (zf (za r1.1 x0.1.toNat (0:Int))) (2:Nat))then if 0<=za (nL x0.2.2 (zf (za r1.1 x0.1.toNat (0:Int))) (2:Nat)) x1.2.toNat (0:Int)∧za (nL x0.2.2 (zf (za r1.1 x0.1.toNat (0:Int))) (2:Nat)) x1.2.toNat 0<(↑x0.2.1.length:Int)then
   if zf (za (nL x0.2.2 (zf (za r1.1 x0.1.toNat (0:Int))) (2:Nat)) x1.2.toNat (0:Int))<zb x0.2.1 then if 0<=x1.2∧x1.2<(↑(zb (nL x0.2.2 (zf (za r1.1 x0.1.toNat (0:Int))) (3:Nat))):Int)then
    if zf x1.2<zb (nL x0.2.2 (zf (za r1.1 x0.1.toNat (0:Int))) (3:Nat))then some (.inl ((if wrap .i64 (za x0.2.1 (zf (za (nL x0.2.2 (zf (za r1.1 x0.1.toNat (0:Int))) (2:Nat)) x1.2.toNat (0:Int))) 0+za (nL x0.2.2 (zf (za r1.1 x0.1.toNat (0:Int))) (3:Nat)) x1.2.toNat (0:Int))>x1.1 then wrap .i64 (za x0.2.1 (zf (za (nL x0.2.2 (zf (za r1.1 x0.1.toNat (0:Int))) (2:Nat)) x1.2.toNat (0:Int))) 0+za (nL x0.2.2 (zf (za r1.1 x0.1.toNat (0:Int))) (3:Nat)) x1.2.toNat (0:Int))else x1.1,wrap .i64 (x1.2+1))))
    else none
    else none
   else none
   else none
  else none
  else none
 else some (.inr x1.1)
def jbS (x0:Int × List Int × List (List NC)) (u19:Int) (r1:List Int × Bool) (x2:(Int × List (List NC) × List Int)):Option ((Int × List (List NC) × List Int) ⊕ (Unit ⊕ (List (List NC) × List Int))) :=
 if x2.1<(↑(zb (nL x0.2.2 (zf (za r1.1 x0.1.toNat (0:Int))) (2:Nat))):Int)then if 0<=x2.1∧x2.1<(↑(zb (nL x0.2.2 (zf (za r1.1 x0.1.toNat (0:Int))) (2:Nat))):Int)then
  if zf x2.1<zb (nL x0.2.2 (zf (za r1.1 x0.1.toNat (0:Int))) (2:Nat))then if 0<=za (nL x0.2.2 (zf (za r1.1 x0.1.toNat (0:Int))) (2:Nat)) x2.1.toNat (0:Int)∧za (nL x0.2.2 (zf (za r1.1 x0.1.toNat (0:Int))) (2:Nat)) x2.1.toNat 0<(↑x0.2.1.length:Int)then
   if zf (za (nL x0.2.2 (zf (za r1.1 x0.1.toNat (0:Int))) (2:Nat)) x2.1.toNat (0:Int))<zb x0.2.1 then if 0<=x2.1∧x2.1<(↑x2.2.2.length:Int)then
    if zf x2.1<zb x2.2.2 then if 0<=x2.1∧x2.1<(↑(zb (qv x2.2.2 x2.1.toNat (wrap .i64 (u19-za x0.2.1 (zf (za (nL x0.2.2 (zf (za r1.1 x0.1.toNat (0:Int))) (2:Nat)) x2.1.toNat (0:Int))) (0:Int))))):Int)then
     if zf x2.1<zb (qv x2.2.2 x2.1.toNat (wrap .i64 (u19-za x0.2.1 (zf (za (nL x0.2.2 (zf (za r1.1 x0.1.toNat (0:Int))) (2:Nat)) x2.1.toNat (0:Int))) (0:Int))))then if za (qv x2.2.2 x2.1.toNat (wrap .i64 (u19-za x0.2.1 (zf (za (nL x0.2.2 (zf (za r1.1 x0.1.toNat (0:Int))) (2:Nat)) x2.1.toNat (0:Int))) (0:Int)))) x2.1.toNat (0:Int)>64 then some (.inr ((.inl ())))
      else
      some (.inl ((wrap .i64 (x2.1+1),qv x2.2.1 (zf (za r1.1 x0.1.toNat (0:Int))) (jdU zS (za x2.2.1 (zf (za r1.1 x0.1.toNat (0:Int))) []) (3:Nat) (NC.r (Cont.ints .i64 (qv x2.2.2 x2.1.toNat (wrap .i64 (u19-za x0.2.1 (zf (za (nL x0.2.2 (zf (za r1.1 x0.1.toNat (0:Int))) (2:Nat)) x2.1.toNat (0:Int))) (0:Int))))))),qv x2.2.2 x2.1.toNat (wrap .i64 (u19-za x0.2.1 (zf (za (nL x0.2.2 (zf (za r1.1 x0.1.toNat (0:Int))) (2:Nat)) x2.1.toNat (0:Int))) (0:Int))))))
     else none
     else none
    else none
    else none
   else none
   else none
  else none
  else none
 else some (.inr ((.inr (x2.2.1,x2.2.2))))
def jlh (x0:Int × List Int × List (List NC)) (u19:Int) (r1:List Int × Bool) (u44:Unit):Option ((Int × List Int × List (List NC)) ⊕ (Unit ⊕ (List (List NC)))) :=some (.inr ((.inl ())))
def jc4 (x0:Int × List Int × List (List NC)) (u19:Int) (r1:List Int × Bool) (u54:List (List NC) × List Int):Option ((Int × List Int × List (List NC)) ⊕ (Unit ⊕ (List (List NC)))) :=
 if 0<=x0.1∧x0.1<(↑r1.1.length:Int)then if zf x0.1<zb r1.1 then
  if 0<=za r1.1 x0.1.toNat (0:Int)∧za r1.1 x0.1.toNat 0<(↑x0.2.1.length:Int)then if zf (za r1.1 x0.1.toNat (0:Int))<zb x0.2.1 then some (.inl ((wrap .i64 (x0.1+1),qv x0.2.1 (zf (za r1.1 x0.1.toNat (0:Int))) (wrap .i64 (u19+nI x0.2.2 (zf (za r1.1 x0.1.toNat (0:Int))) (5:Nat))),u54.1)))
   else none
  else none
  else none
 else none
def jfL (x0:Int × List Int × List (List NC)) (u19:Int) (r1:List Int × Bool):(Unit ⊕ (List (List NC) × List Int))->Option ((Int × List Int × List (List NC)) ⊕ (Unit ⊕ (List (List NC)))) :=(qz (jlh x0 u19 r1) (jc4 x0 u19 r1))
def jfM (x0:Int × List Int × List (List NC)) (r1:List Int × Bool) (u19:Int):Option ((Int × List Int × List (List NC)) ⊕ (Unit ⊕ (List (List NC)))) :=ze (jae (jbS x0 u19 r1) big (((0:Int),x0.2.2,nL x0.2.2 (zf (za r1.1 x0.1.toNat (0:Int))) (3:Nat)))) (jfL x0 u19 r1)
def ja9 (r1:List Int × Bool) (x0:(Int × List Int × List (List NC))):Option ((Int × List Int × List (List NC)) ⊕ (Unit ⊕ (List (List NC)))) :=
 if x0.1<(↑r1.1.length:Int)then if 0<=x0.1∧x0.1<(↑r1.1.length:Int)then
  if zf x0.1<zb r1.1 then if 0<=za r1.1 x0.1.toNat (0:Int)∧za r1.1 x0.1.toNat 0<(↑x0.2.2.length:Int)then
   if zf (za r1.1 x0.1.toNat (0:Int))<zb x0.2.2 then ze (jae (jcy x0 r1) big (((0:Int),0))) (jfM x0 r1)
   else none
   else none
  else none
  else none
 else some (.inr (.inr x0.2.2))
def jli (r0:ByteArray × List (List NC)) (u5:Unit):Option (ByteArray × List (List NC) × Int) :=some ((qA #[],[],8))
def jlj (r0:ByteArray × List (List NC)) (u10:List (List NC)):Option (ByteArray × List (List NC) × Int) :=some ((r0.1,u10,0))
def jfN (r0:ByteArray × List (List NC)):(Unit ⊕ (List (List NC)))->Option (ByteArray × List (List NC) × Int) :=(qz (jli r0) (jlj r0))
def jdi (u4:zY) (u1:List (List NC)):Option (ByteArray × List (List NC) × Int) :=
 ze (y4 u4 u1) fun r0 =>
 ze (jiJ u4 u1) fun r1 =>
 if 0<=(↑u1.length:Int)∧(↑u1.length:Int)=(↑u1.length:Int)∧(↑(8:Nat):Int)*(↑u1.length:Int)<=281474976710656∧(↑u1.length:Int)<=9223372036854775807 then ze (jae (ja9 r1) big (((0:Int),zi (zf (↑u1.length:Int)) (0:Int),r0.2))) (jfN r0)
 else none
end Go.Sh
end

section
namespace Go.Sh
open Go Go.Proofs Go.RowKit Go.Sx
variable {g:List (List NC)} {l:List Int}
def mK (F a T:List Int):Nat->Int|0=>0|k+1=>if T.getD (F.getD k 0).toNat 0+a.getD k 0>mK F a T k then T.getD (F.getD k 0).toNat 0+a.getD k 0 else mK F a T k
def alK (F a T:List Int) (M:Int):Nat->List Int|0=>a|k+1=>(alK F a T M k).set k (M-T.getD (F.getD k 0).toNat 0)
def jgM (F a T:List Int) (M:Int):∀k,(alK F a T M k).length=a.length
 |0=>rfl
 |k+1=>by rw[alK,jE,jgM F a T M k]
def jow {F a T:List Int} {M:Int} {q:Nat} (hq:q<a.length):∀k,(alK F a T M k).getD q 0=if q<k then M-T.getD (F.getD q 0).toNat 0 else a.getD q 0
 |0=>by rw[alK,if_neg (by omega)]
 |k+1=>by
  rw[alK]
  by_cases hk:k=q
  ·subst hk;rw[jaL _ _ _ _ _ (by rw[jgM];exact hq),if_pos rfl,if_pos (by omega)]
  ·have:((alK F a T M k).set k (M-T.getD (F.getD k 0).toNat 0)).getD q 0=(alK F a T M k).getD q 0:=by
    simp only[za];rw[List.getElem?_set_ne hk]
   rw[this,jow hq k]
   by_cases h:q<k
   ·rw[if_pos h,if_pos (by omega)]
   ·rw[if_neg h,if_neg (by omega)]
structure RdC (n:Nat) (F a T:List Int) (B:Int):Prop where
 t:T.length=n
 la:a.length=F.length
 ln:F.length<100
 b:B<=1000000000
 b0:0<=B
 f:∀k,k<F.length->0<=F.getD k 0∧F.getD k 0<(n:Int)∧0<=T.getD (F.getD k 0).toNat 0∧T.getD (F.getD k 0).toNat 0<=B
 a:∀k,k<F.length->0<=a.getD k 0∧a.getD k 0<=64
variable {n:Nat} {F a T:List Int} {B:Int}
def RdC.m (h:RdC n F a T B):∀k,k<=F.length->0<=mK F a T k∧mK F a T k<=B+64∧∀q,q<k->T.getD (F.getD q 0).toNat 0+a.getD q 0<=mK F a T k
 |0,_=>⟨yl _,by have:=h.b0;show(0:Int)<=_;omega,fun q hq=>absurd hq (by omega)⟩
 |k+1,hk=>by
  obtain⟨h1,h2,h3⟩:=h.m k (by omega);have hf:=h.f k hk;have ha:=h.a k hk;simp only[mK];split
  ·rename_i hgt;refine⟨by omega,by omega,fun q hq=>?_⟩
   by_cases e:q=k
   ·subst e;omega
   ·have:=h3 q (by omega);omega
  ·rename_i hgt;refine⟨h1,h2,fun q hq=>?_⟩
   by_cases e:q=k
   ·subst e;omega
   ·exact h3 q (by omega)
section
variable {f:Nat->List Int} {i j:Nat}
def maxE (hi:i<g.length) (hj:l.getD j 0=(i:Int)) (h:RdC g.length (nL g i 2) (f i) T B):jae (jyq ((j:Int),T,wA g f) l) big ((0:Int),(0:Int))=some (mK (nL g i 2) (f i) T (nL g i 2).length):=by
 have hb:=h.b;refine jaD (fun k=>(mK (nL g i 2) (f i) T k,(k:Int))) (k:=(nL g i 2).length) (fun k hk=>?_) ?_ (by have:=h.ln;omega)
 ·obtain⟨f1,f2,f3,f4⟩:=h.f k hk;have ha:=h.a k hk;have hl:=h.la;have ht:=h.t;have hn:=h.ln;unfold jyq;simp only[zN,zg,hj,(jbg f hi).1,(jbg f hi).2.1,jaU];rw[if_pos (by omega),if_pos (by omega),if_pos hk,if_pos (by omega),if_pos (by omega),if_pos hi,if_pos (by omega),if_pos (by omega),jam (by omega),jam (by omega)];rfl
 ·unfold jyq;simp only[zN,zg,hj,(jbg f hi).1];rw[if_neg (by omega)]
def maxR (hi:i<g.length) (hj:l.getD j 0=(i:Int)) (h:RdC g.length (nL g i 2) (f i) T B):jae (jcy ((j:Int),T,wA g f) (l,true)) big ((0:Int),(0:Int))=some (mK (nL g i 2) (f i) T (nL g i 2).length):=by
 have hb:=h.b;refine jaD (fun k=>(mK (nL g i 2) (f i) T k,(k:Int))) (k:=(nL g i 2).length) (fun k hk=>?_) ?_ (by have:=h.ln;omega)
 ·obtain⟨f1,f2,f3,f4⟩:=h.f k hk;have ha:=h.a k hk;have hl:=h.la;have ht:=h.t;have hn:=h.ln;unfold jcy;simp only[zN,zg,hj,(jbg f hi).1,(jbg f hi).2.1];rw[if_pos (by omega),if_pos (by omega),if_pos hk,if_pos (by omega),if_pos (by omega),if_pos (by omega),if_pos (by omega),jam (by omega),jam (by omega)];rfl
 ·unfold jcy;simp only[zN,zg,hj,(jbg f hi).1];rw[if_neg (by omega)]
abbrev gK (g:List (List NC)) (f:Nat->List Int) (i:Nat) (T:List Int) (M:Int) (k:Nat):List (List NC):=wA g (jdK f i (alK (nL g i 2) (f i) T M k))
def jDU (hi:i<g.length) (hj:l.getD j 0=(i:Int)) (h:RdC g.length (nL g i 2) (f i) T B) {M:Int} (hM:0<=M∧M<=B+64) :
  ∃y y',jae (juh ((j:Int),T,wA g f) M l) big ((0:Int),wA g f)=some y∧jae (jbS ((j:Int),T,wA g f) M (l,true)) big ((0:Int),wA g f,f i)=some y' ∧
   ((y=.inl ()∧y'=.inl ()∧∃q,q<(nL g i 2).length∧M-T.getD ((nL g i 2).getD q 0).toNat 0>64)∨(y=.inr (gK g f i T M (nL g i 2).length)∧y'=.inr (gK g f i T M (nL g i 2).length,alK (nL g i 2) (f i) T M (nL g i 2).length)∧∀q,q<(nL g i 2).length->M-T.getD ((nL g i 2).getD q 0).toNat 0<=64)):=by
 have hb:=h.b;have hl:=h.la;have ht:=h.t;have hn:=h.ln
 have e0:gK g f i T M 0=wA g f:=jDS fun k hk=>by
  unfold jdK;split
  ·rename_i e;subst e;rfl
  ·rfl
 refine jhE (fun m x x'=>∃k,k<=(nL g i 2).length∧m=(nL g i 2).length-k∧x=((k:Int),gK g f i T M k)∧x'=((k:Int),gK g f i T M k,alK (nL g i 2) (f i) T M k)∧∀q,q<k->M-T.getD ((nL g i 2).getD q 0).toNat 0<=64) _ ?_ (nL g i 2).length _ _ big big (by show _<18446744073709551616;omega) (by show _<18446744073709551616;omega) ⟨0,xh _,rfl,by rw[e0];rfl,by rw[e0];rfl,fun q hq=>absurd hq (by omega)⟩;rintro m x x' ⟨k,hk,rfl,rfl,rfl,hq⟩
 by_cases hlt:k<(nL g i 2).length
 ·obtain⟨f1,f2,f3,f4⟩:=h.f k hlt;have hset:=jIw (jdK f i (alK (nL g i 2) (f i) T M k)) hi ((alK (nL g i 2) (f i) T M k).set k (M-T.getD ((nL g i 2).getD k 0).toNat 0))
  have hupd:wA g (jdK (jdK f i (alK (nL g i 2) (f i) T M k)) i ((alK (nL g i 2) (f i) T M k).set k (M-T.getD ((nL g i 2).getD k 0).toNat 0)))=gK g f i T M (k+1):=jDS fun q hq=>by
   unfold jdK;split
   ·rfl
   ·rfl
  rw[hupd]at hset
  have e3:nL (gK g f i T M k) i 3=alK (nL g i 2) (f i) T M k:=by
   rw[(jbg _ hi).2.1];unfold jdK;rw[if_pos rfl]
  have e3':nL (gK g f i T M (k+1)) i 3=alK (nL g i 2) (f i) T M (k+1):=by
   rw[(jbg _ hi).2.1];unfold jdK;rw[if_pos rfl]
  have hw:=jam (x:=M-T.getD ((nL g i 2).getD k 0).toNat 0) (by omega)
  have hg:(alK (nL g i 2) (f i) T M (k+1)).getD k 0=M-T.getD ((nL g i 2).getD k 0).toNat 0:=by
   rw[jow (by omega),if_pos (by omega)]
  have hla:=jgM (nL g i 2) (f i) T M k;have hla':=jgM (nL g i 2) (f i) T M (k+1);have hstep:alK (nL g i 2) (f i) T M (k+1)=(alK (nL g i 2) (f i) T M k).set k (M-T.getD ((nL g i 2).getD k 0).toNat 0):=rfl
  have hE:juh ((j:Int),T,wA g f) M l ((k:Int),gK g f i T M k)=if M-T.getD ((nL g i 2).getD k 0).toNat 0>64 then some (.inr (.inl ()))else some (.inl (((k+1:Nat):Int),gK g f i T M (k+1))):=by
   unfold juh;simp only[zN,zg,hj,(jbg f hi).1,e3,jaU,hw,show(zS:List NK)=shV from rfl,hset,e3',hg];rw[if_pos (by omega),if_pos (by omega),if_pos hlt,if_pos hi,if_pos (by omega),if_pos (by omega),if_pos (by omega),if_pos (by omega),if_pos hi,if_pos (by omega),if_pos (by omega),jam (by omega)];rfl
  have hR:jbS ((j:Int),T,wA g f) M (l,true) ((k:Int),gK g f i T M k,alK (nL g i 2) (f i) T M k)=if M-T.getD ((nL g i 2).getD k 0).toNat 0>64 then some (.inr (.inl ()))else some (.inl (((k+1:Nat):Int),gK g f i T M (k+1),alK (nL g i 2) (f i) T M (k+1))):=by
   unfold jbS;simp only[zN,zg,hj,(jbg f hi).1,hw,show(zS:List NK)=shV from rfl,<-hstep];rw[hstep,hset,<-hstep,hg];rw[if_pos (by omega),if_pos (by omega),if_pos hlt,if_pos (by omega),if_pos (by omega),if_pos (by omega),if_pos (by omega),if_pos (by omega),if_pos (by omega),jam (by omega)];rfl
  by_cases hgt:M-T.getD ((nL g i 2).getD k 0).toNat 0>64
  ·rw[if_pos hgt]at hE hR;exact .inl ⟨_,_,hE,hR,.inl ⟨rfl,rfl,k,hlt,hgt⟩⟩
  ·rw[if_neg hgt]at hE hR;refine .inr ⟨(nL g i 2).length-(k+1),_,_,by omega,hE,hR,k+1,hlt,rfl,rfl,rfl,fun q hq'=>?_⟩
   by_cases e:q=k
   ·subst e;omega
   ·exact hq q (by omega)
 ·obtain rfl:k=(nL g i 2).length:=by omega
  refine .inl ⟨_,_,?_,?_,.inr ⟨rfl,rfl,hq⟩⟩
  ·unfold juh;simp only[zN,zg,hj,(jbg f hi).1];rw[if_neg (by omega)]
  ·unfold jbS;simp only[zN,zg,hj,(jbg f hi).1];rw[if_neg (by omega)]
end
end Go.Sh
end

section
namespace Go.Sh
open Go Go.Proofs Go.RowKit Go.Sx
variable {g:List (List NC)} {l:List Int} {T:List Int} {f:Nat->List Int} {i j:Nat} {B:Int}
def jIx (hi:i<g.length) (hjl:j<l.length) (hl:l.length<1000) (hj:l.getD j 0=(i:Int)) (h:RdC g.length (nL g i 2) (f i) T B) (hd:0<=nI g i 5∧nI g i 5<=64) {M:Int} (hM:M=mK (nL g i 2) (f i) T (nL g i 2).length) :
  (y31 l ((j:Int),T,wA g f)=some (.inr (.inl ()))∧ja9 (l,true) ((j:Int),T,wA g f)=some (.inr (.inl ()))∧∃q,q<(nL g i 2).length∧M-T.getD ((nL g i 2).getD q 0).toNat 0>64) ∨
  (y31 l ((j:Int),T,wA g f)=some (.inl (((j+1:Nat):Int),T.set i (M+nI g i 5),gK g f i T M (nL g i 2).length))∧ja9 (l,true) ((j:Int),T,wA g f)=some (.inl (((j+1:Nat):Int),T.set i (M+nI g i 5),gK g f i T M (nL g i 2).length))∧∀q,q<(nL g i 2).length->M-T.getD ((nL g i 2).getD q 0).toNat 0<=64):=by
 have hm:=h.m _ (zq _);have hb:=h.b;have ht:=h.t;rw[<-hM]at hm;obtain⟨y,y',h1,h2,h3⟩:=jDU hi hj h (M:=M) ⟨hm.1,hm.2.1⟩
 have hE:y31 l ((j:Int),T,wA g f)=y249 ((j:Int),T,wA g f) M l y:=by
  unfold y31;simp only[zN,zg,hj,jaU];rw[if_pos (by omega),if_pos (by omega),if_pos hjl,if_pos (by omega),if_pos hi,maxE hi hj h,jac,<-hM];unfold y250;simp only[zN,zg,hj,jaU];rw[if_pos hi,h1,jac]
 have hR:ja9 (l,true) ((j:Int),T,wA g f)=jfL ((j:Int),T,wA g f) M (l,true) y':=by
  unfold ja9;simp only[zN,zg,hj,jaU];rw[if_pos (by omega),if_pos (by omega),if_pos hjl,if_pos (by omega),if_pos hi,maxR hi hj h,jac,<-hM];unfold jfM;simp only[zN,zg,hj,(jbg f hi).2.1];rw[h2,jac]
 rcases h3 with ⟨rfl,rfl,h4⟩|⟨rfl,rfl,h4⟩
 ·exact .inl ⟨hE,hR,h4⟩
 ·refine .inr ⟨hE.trans ?_,hR.trans ?_,h4⟩
  ·show y212 _ _ _ _=_
   unfold y212;simp only[zN,zg,hj,jaU,(jd5 _ hi).2.1];rw[if_pos hi,if_pos (by omega),if_pos (by omega),jam (by omega),jam (by omega)];rfl
  ·show jc4 _ _ _ _=_
   unfold jc4;simp only[zN,zg,hj,jaU,(jd5 _ hi).2.1];rw[if_pos (by omega),if_pos hjl,if_pos (by omega),if_pos (by omega),jam (by omega),jam (by omega)];rfl
structure CInv (g:List (List NC)) (l:List Int) (j:Nat) (T:List Int) (f:Nat->List Int):Prop where
 t:T.length=g.length
 lf:∀i,i<g.length->(f i).length=(nL g i 3).length
 al:∀i,i<g.length->∀k,k<(f i).length->0<=(f i).getD k 0∧(f i).getD k 0<=64
 tb:∀p u:Nat,p<j->l.getD p 0=(u:Int)->0<=T.getD u 0∧T.getD u 0<=128*(j:Int)
 con:∀p u:Nat,p<j->l.getD p 0=(u:Int)->(∀k v:Nat,k<(nL g u 2).length->(nL g u 2).getD k 0=(v:Int)->T.getD v 0+((f u).getD k 0+nI g u 5)=T.getD u 0)∧((nL g u 2).length=0->T.getD u 0=nI g u 5)
def CInv.rd (hc:CInv g l j T f) (h:Rg g l) (hj:j<g.length) (hi:i<g.length) (e:l.getD j 0=(i:Int)):RdC g.length (nL g i 2) (f i) T (128*(j:Int)):=by
 have hn:=h.n;have hs:=(jfk (h.ok i hi)).1;have hlf:=hc.lf i hi;refine⟨hc.t,by omega,h.fw.fr i hi,by omega,by omega,fun k hk=>?_,fun k hk=>hc.al i hi k (by omega)⟩;obtain⟨j',u,h1,h2,h3,h4⟩:=h.from hj e hi hk;rw[h3,zg];have:=hc.tb j' u h1 h4;omega
def CInv.step (hc:CInv g l j T f) (h:Rg g l) (hj:j<g.length) (hi:i<g.length) (e:l.getD j 0=(i:Int)) {M:Int} (hM:M=mK (nL g i 2) (f i) T (nL g i 2).length) (hq:∀q,q<(nL g i 2).length->M-T.getD ((nL g i 2).getD q 0).toNat 0<=64) :
  CInv g l (j+1) (T.set i (M+nI g i 5)) (jdK f i (alK (nL g i 2) (f i) T M (nL g i 2).length)):=by
 have hr:=hc.rd h hj hi e;have hm:=hr.m _ (zq _);rw[<-hM]at hm;have hd:=(jn5 (h.ok i hi)).2;have hT:=hc.t;have hs:=(jfk (h.ok i hi)).1;have hlf:=hc.lf i hi;have hne:∀p u:Nat,p<j->l.getD p 0=(u:Int)->¬i=u:=fun p u hp hu hiu=>h.lt_ne hj hp (by rw[hu,e,hiu]);have hget:∀u:Nat,(T.set i (M+nI g i 5)).getD u 0=if i=u then M+nI g i 5 else T.getD u 0:=fun u=>jaL _ _ _ _ _ (by omega)
 refine⟨by rw[jE];exact hT,fun u hu=>?_,fun u hu k hk=>?_,fun p u hp hu=>?_,fun p u hp hu=>?_⟩
 ·unfold jdK;split
  ·rename_i hui;subst hui;rw[jgM];exact hlf
  ·exact hc.lf u hu
 ·unfold jdK at hk ⊢;split
  ·rename_i hui;subst hui;rw[if_pos rfl,jgM]at hk;have hk2:k<(nL g u 2).length:=by omega
   rw[jow hk,if_pos hk2];have h1:=hq k hk2;have h2:=hm.2.2 k hk2;have h3:=hr.a k hk2;omega
  ·rename_i hui;rw[if_neg hui]at hk;exact hc.al u hu k hk
 ·rw[hget]
  by_cases hpj:p=j
  ·subst hpj;have:(i:Int)=u:=e.symm.trans hu;rw[if_pos (by omega)];omega
  ·have hp:p<j:=by omega
   rw[if_neg (hne p u hp hu)];have:=hc.tb p u hp hu;omega
 ·have hv:∀p u,p<=j->u<g.length->l.getD p 0=(u:Int)->p<g.length->∀k v:Nat,k<(nL g u 2).length->(nL g u 2).getD k 0=(v:Int)->(T.set i (M+nI g i 5)).getD v 0=T.getD v 0:=fun p u hp hu e2 hpn k v hk hkv=>by
   obtain⟨j',u',h1,h2,h3,h4⟩:=h.from hpn e2 hu hk;have:(u':Int)=v:=h3.symm.trans hkv;have huv:u'=v:=by omega
   rw[hget,if_neg (hne j' v (by omega) (by rw[h4,huv]))]
  by_cases hpj:p=j
  ·subst hpj;have hiu:(i:Int)=u:=e.symm.trans hu;obtain rfl:i=u:=by omega
   rw[hget,if_pos rfl];refine⟨fun k v hk hkv=>?_,fun h0=>?_⟩
   ·rw[hv p i (zq _) hi e hj k v hk hkv];unfold jdK;rw[if_pos rfl,jow (by omega),if_pos hk,hkv,zg];omega
   ·rw[h0]at hM;have:M=0:=hM;omega
  ·have hp:p<j:=by omega
   have hun:u<g.length:=by
    obtain⟨i',h1,h2,_⟩:=h.at (j:=p) (by omega);have:(i':Int)=u:=h2.symm.trans hu;omega
   obtain⟨c1,c2⟩:=hc.con p u hp hu;have hnu:=hne p u hp hu;rw[hget,if_neg hnu];refine⟨fun k v hk hkv=>?_,c2⟩;rw[hv p u (by omega) hun hu (by omega) k v hk hkv];unfold jdK;rw[if_neg (fun hh=>hnu hh.symm)];exact c1 k v hk hkv
def jGi (h:Rg g l):∃y y',jae (y31 l) big ((0:Int),zi g.length 0,cpU g)=some y∧jae (ja9 (l,true)) big ((0:Int),zi g.length 0,cpU g)=some y' ∧
  ((y=.inl ()∧y'=.inl ())∨∃T f,y=.inr (wA g f)∧y'=.inr (wA g f)∧CInv g l g.length T f):=by
 have hn:=h.n;have hl:=h.len;refine jhE (fun m x x'=>∃j T f,j<=g.length∧m=g.length-j∧x=((j:Int),T,wA g f)∧x'=((j:Int),T,wA g f)∧CInv g l j T f) _ ?_ g.length _ _ big big (by show _<18446744073709551616;omega) (by show _<18446744073709551616;omega) ⟨0,_,_,xh _,rfl,rfl,rfl,?_⟩
 ·rintro m x x' ⟨j,T,f,hj,rfl,rfl,rfl,hc⟩
  by_cases hlt:j<g.length
  ·obtain⟨i,hi,e,_⟩:=h.at hlt;have hd:=(jn5 (h.ok i hi)).2;rcases jIx hi (by omega) (by omega) e (hc.rd h hlt hi e) hd rfl with ⟨h1,h2,_⟩|⟨h1,h2,h3⟩
   ·exact .inl ⟨_,_,h1,h2,.inl ⟨rfl,rfl⟩⟩
   ·exact .inr ⟨g.length-(j+1),_,_,by omega,h1,h2,j+1,_,_,hlt,rfl,rfl,rfl,hc.step h hlt hi e rfl h3⟩
  ·obtain rfl:j=g.length:=by omega
   refine .inl ⟨_,_,?_,?_,.inr ⟨T,f,rfl,rfl,hc⟩⟩
   ·unfold y31;rw[if_neg (by show ¬(g.length:Int)<(l.length:Int);omega)]
   ·unfold ja9;rw[if_neg (by show ¬(g.length:Int)<(l.length:Int);omega)]
 ·exact⟨by simp,fun i hi=>rfl,fun i hi k hk=>(jn5 (h.ok i hi)).1 k hk,fun p u hp=>absurd hp (by omega),fun p u hp=>absurd hp (by omega)⟩
end Go.Sh
end

section
namespace Go.Sh
open Go Go.Proofs Go.RowKit Go.Sx
variable {g:List (List NC)} {l:List Int} {T:List Int} {f:Nat->List Int} {i j:Nat} {B:Int}
def jGj (hw:Fw g) {f:Nat->List Int} (hf:∀i,i<g.length->(f i).length<100) {nm:ByteArray} (h1:jbI nm (wA g f)=none) (h2:jbx nm (wA g f)=some (nm,l,0)) {y:Unit ⊕ List (List NC)}
  (hy:jae (y31 l) big ((0:Int),zi g.length 0,wA g f)=some y):y5 nm (wA g f)=y168 (nm,wA g f) y:=by
 have hn:=hw.n;unfold y5 jgx jcx jay;rw[h1,h2,if_neg (by simp),qn,jac,jDT hw nm f hf,jac,jaU,if_pos (by omega),zg,hy,jac]
def jCc (h:Rg g l) {nm:ByteArray} (hs:nm.size<1000) (h0:(cg nm g).2=0) :
  (y5 nm (cpU g)=some (qA #[],[],8)∧jdi nm g=some (qA #[],[],8)) ∨
  ∃T f,y5 nm (cpU g)=some (nm,wA g f,0)∧jdi nm g=some (nm,wA g f,0)∧CInv g l g.length T f:=by
 have hn:=h.n;obtain⟨y,y',h1,h2,h3⟩:=jGi h;obtain⟨o1,o2⟩:=jlf h.cp hs (by rw[cp_cg];exact h0);have hE:=jGj h.fw (f:=fun i=>nL g i 3) (fun i hi=>h.fw.al i hi) (nm:=nm) o1 o2 h1
 have hR:jdi nm g=jfN (nm,cpU g) y':=by
  unfold jdi;rw[joq h.fw,jac,jnH h.fw,h.ord,jac,if_pos (by omega),zg,h2,jac]
 rcases h3 with ⟨rfl,rfl⟩|⟨T,f,rfl,rfl,hc⟩
 ·exact .inl ⟨hE,hR⟩
 ·exact .inr ⟨T,f,hE,hR,hc⟩
def CInv.rg (hc:CInv g l g.length T f) (h:Rg g l):Rg (wA g f) l:=wA_rg h f hc.lf hc.al
def jqY (hc:CInv g l g.length T f) (h:Rg g l) {w:List Int} {n:Int} {i:Nat} (hw:WayTo (wA g f) w n i):T.getD i 0=n∧i<g.length:=by
 induction hw with
 | @one i hi hk =>
  rw[jaU]at hi;rw[(jd5 f hi).1]at hk;obtain⟨p,hp,e⟩:=h.surj hi;have h0:=((jfk (h.ok i hi)).2).2 hk;have h1:=(jfK (h.ok i hi)).2.1;unfold jbQ at h1;simp only[zm]at h1;have h2:=h1.2;rw[hk]at h2;have:nI g i 5=0:=by simpa using h2
  exact⟨by rw[(hc.con p i hp e).2 h0,this],hi⟩
 | @on w n u i k hu hi hk he ih =>
  rw[jaU]at hi;rw[(jbg f hi).1]at hk he;obtain⟨p,hp,e⟩:=h.surj hi;refine⟨?_,hi⟩;rw[(jbg f hi).2.1,(jd5 f hi).2.1,<-(hc.con p i hp e).1 k u hk he,ih.1]
end Go.Sh
end

section
namespace Go.Sh
open Go Go.Proofs Go.RowKit Go.Sx
def ji9:List SV:=[]
def jfO:Option (ByteArray × List (List NC)) :=some ((qA #[(112:UInt8)],[[NC.d (D.s (qA #[(109:UInt8),(105:UInt8),(99:UInt8)])),NC.d (D.i .i64 0),NC.r (Cont.ints .i64 []),NC.r (Cont.ints .i64 []),NC.r (Cont.ints .i64 []),NC.d (D.i .i64 0),NC.r (Cont.recs (5:Nat) []),NC.d (D.i .i64 (-1:Int))],[NC.d (D.s (qA #[(100:UInt8)])),NC.d (D.i .i64 2),NC.r (Cont.ints .i64 [(0:Int)]),NC.r (Cont.ints .i64 [(0:Int)]),NC.r (Cont.ints .i64 []),NC.d (D.i .i64 3),NC.r (Cont.recs (5:Nat) []),NC.d (D.i .i64 (-1:Int))],[NC.d (D.s (qA #[(109:UInt8),(105:UInt8),(120:UInt8)])),NC.d (D.i .i64 1),NC.r (Cont.ints .i64 [(0:Int),1]),NC.r (Cont.ints .i64 [(0:Int),0]),NC.r (Cont.ints .i64 [(500:Int),1000]),NC.d (D.i .i64 0),NC.r (Cont.recs (5:Nat) []),NC.d (D.i .i64 (-1:Int))],[NC.d (D.s (qA #[(111:UInt8),(117:UInt8),(116:UInt8)])),NC.d (D.i .i64 4),NC.r (Cont.ints .i64 [(2:Int)]),NC.r (Cont.ints .i64 [(0:Int)]),NC.r (Cont.ints .i64 []),NC.d (D.i .i64 0),NC.r (Cont.recs (5:Nat) []),NC.d (D.i .i64 (-1:Int))]]))
def jzE (r:ByteArray × List (List NC)):Sk (top r) (jfO) :=.obT (.rc)
def jyr (r:ByteArray × List (List NC)) (h:ze (jfO) some=some r):jaR Tryz.f75 (sp0) (fun _ _ _=>none) (jaK ji9 []) [.s [.d (.s r.1),.x 118 (.st (zS) r.2)]] :=Sk.vc (jzE r) (by kernel_rfl) h
attribute [irreducible] jfO
def jgi:List SV:=[.c (.d)]
def y79 (n:Int):Option (List Nat) :=some (jeB (32:Nat) zO (0:Nat) (qE .f32 (if(if n<32767 then n else(32767:Int))>(-32767:Int)then if n<32767 then n else(32767:Int)else(-32767:Int))))
def jgj:List Lf->Option GT|[.d (.i .i64 n)]=>some (.leaf (ok (y79 n)) [.b 32 (.f .f32 ((val (y79 n))))])|_=>none
abbrev sp_74:jaa->jaa:=jap 74 true (jah jgi jgj)
def jvS (n:Int) (r:List Nat):Sk (top r) (y79 n) :=.obT (.obC ((0:Int)<=0∧(0:Int)<32) (by decide) (.obC ((0:Nat)<32) (by decide) (.obT (.obT (.obT (.ret (fun r=>(Ob (r=jeB (32:Nat) zO (0:Nat) (qE .f32 (if(if n<32767 then n else(32767:Int))>(-32767:Int)then if n<32767 then n else(32767:Int)else(-32767:Int)))) ∧ True)) ⟨⟨rfl⟩,trivial⟩))))))
def jui (n:Int) (r:List Nat) (h:ze (y79 n) some=some r):jaR Tryz.f74 (sp0) (fun _ _ _=>none) (jaK jgi [.d (.i .i64 n)]) [.b 32 (.f .f32 r)] :=Sk.vc (jvS n r) (by kernel_rfl) h
def juj:jaf Tryz.prog 74 true (jah jgi jgj):=by
 refine jan (sp:=sp0) (fn:=Tryz.f74) (body:=bodyOf Tryz.f74) mixed jaj Tryz.func74 (by kernel_rfl) (by kernel_rfl) fun ls t h ho b hb=>?_;unfold jgj at h;split at h
 ·rename_i n;cases h;obtain rfl:=jav hb;exact⟨zh (by kernel_rfl),_,_,jui n _ (jai ho)⟩
 ·cases h
def sp_74_ok {sp:jaa} (h:jab Tryz.prog sp):jab Tryz.prog (sp_74 sp):=jag juj h
attribute [irreducible] y79
end Go.Sh
end

section
namespace Go.Sh
open Go Go.Proofs Go.RowKit Go.Sx
def jox:ByteArray:=(val jfO).1
def joy:List (List NC):=(val jfO).2
def jCd (fr:zY) (fs:List (List NC)):List Lf->Option GT|[]=>some (.leaf True [.s [.d (.s fr),.x 118 (.st (zS) fs)]])|_=>none
abbrev sp_75v (fr:zY) (fs:List (List NC)):jaa->jaa:=jap 75 true (jah ji9 (jCd fr fs))
def jvT:jaf Tryz.prog 75 true (jah ji9 (jCd jox joy)):=by
 refine jan (sp:=sp0) (fn:=Tryz.f75) (body:=bodyOf Tryz.f75) mixed jaj Tryz.func75 (by kernel_rfl) (by kernel_rfl) fun ls t h ho b hb=>?_;unfold jCd at h;split at h
 ·cases h;obtain rfl:=jav hb;exact⟨zh (by kernel_rfl),_,_,jyr (jox,joy) (by kernel_rfl)⟩
 ·cases h
def sp_75v_ok {sp:jaa} (h:jab Tryz.prog sp):jab Tryz.prog (sp_75v jox joy sp):=jag jvT h
def jpJ:List (Option Cont):=[]
def jik (fr:zY) (fs:List (List NC)):Option Bool :=
 ze (jgK fr fs) fun r0 =>
 ze (jca fr fs (xt (fun r=>NC.toFrs (qg r (NC.d (D.v zX)))) [[NC.r (Cont.frs .f32 (32:Nat) [val (y79 (101:Int))])]]) []) fun r1 =>
 if(r0.2==0)=true then
  ze (jmL r0.1 [(0:Int),1,2,3]) fun r2 =>
  if(r2)=true then
  if(r1.2.2==0)=true then if(r1.2.1==0)=true then
   if((↑r1.1.length:Int)==1)=true then if(0:Int)<=0∧0<(↑r1.1.length:Int)then
    if 0<zb r1.1 then if((↑(zb (za r1.1 0 [])):Int)==1)=true then
     if(0:Int)<=0∧0<(↑r1.1.length:Int)then if 0<zb r1.1 then
      if(0:Int)<=0∧0<(↑(zb (za r1.1 0 [])):Int)then if 0<zb (za r1.1 0 [])∧(0:Nat)<32 then some (qo (FloatKind.format .f32) (za (za (za r1.1 (0:Nat) []) 0 []) (0:Nat) (0:Nat)) (1112276992:Nat)==some Ordering.eq)
       else none
      else none
      else none
     else none
     else
     some false
    else none
    else none
   else some false
   else
   some false
  else some false
  else
  some false
 else some false
def jzF (fr:zY) (fs:List (List NC)) (r:Bool):Sk (top r) (jik fr fs) :=.obT (.call (.obT (.obC (ok (y79 (101:Int))) (show(y79 101).isSome=true by kernel_rfl) (.call (.brB
 (.call (.brB
 (.brB
 (.brB
 (.brB
 (.ob (.ob (.brB
 (.ob (.ob (.ob (.obC ((0:Int)<=0∧(0:Int)<32) (by decide) (.ob (.obT (.rc)))))))
 (.obT (.rc)))))
 (.obT (.rc)))
 (.obT (.rc)))
 (.obT (.rc)))
 (.obT (.rc))))
 (.obT (.rc)))))))
def jys (fr:zY) (fs:List (List NC)) (r:Bool) (h:ze (jik fr fs) some=some r):ja4 Tryz.f72 ((sp_20 (sp_75v fr fs (sp_74 (sp_63 (sp_24 sp0)))))) (fun _ _ _=>none) [] [.d (.b r)] :=Sk.vc (jzF fr fs r) (by kernel_rfl) h
attribute [irreducible] jik
end Go.Sh
end

section
namespace Go.Sh
open Go Go.Proofs Go.RowKit Go.Sx
set_option maxRecDepth 100000
def jCe:jik jox joy=some true:=by kernel_rfl
def jn9:List A->Option (Prop × List RV)|[]=>some (True,[.d (.b true)])|_=>none
abbrev sp_72b:jaa->jaa:=jap 72 true (jat jpJ jn9)
def jzG:jaf Tryz.prog 72 true (jat jpJ jn9):=by
 refine jaA (sp:=(sp_20 (sp_75v jox joy (sp_74 (sp_63 (sp_24 sp0)))))) (fn:=Tryz.f72) (body:=bodyOf Tryz.f72) mixed (sp_20_ok (sp_75v_ok (sp_74_ok (sp_63_ok (sp_24_ok jaj))))) Tryz.func72 (by kernel_rfl) (by kernel_rfl) fun as_ ob rs h ho=>?_;unfold jn9 at h;split at h
 ·cases h;exact⟨zh rfl,_,_,jys jox joy true (by rw[jCe];rfl)⟩
 ·cases h
def sp_72b_ok {sp:jaa} (h:jab Tryz.prog sp):jab Tryz.prog (sp_72b sp):=jag jzG h
end Go.Sh
end

section
namespace Go.Sh
open Go Go.Proofs Go.RowKit Go.Sx
open Go.IntKind (wrap)
def jgk:List SV:=[.a [.d,.x (.st zS [])]]
def y27 (u1:List (List NC)):Option (List Int) :=
 ze (jk9 u1 (4:Int)) fun r0 =>
 some r0
def jgl:List Lf->Option GT|[.d (.s u4),.x (.st [.s,.i .i64,.ints .i64,.ints .i64,.ints .i64,.i .i64,.recs 5,.i .i64] u1)]=>some (.leaf (ok (y27 u1)) [.c (.row 3 (.ints .i64 ((val (y27 u1)))))])|_=>none
abbrev sp_70:jaa->jaa:=jap 70 true (jah jgk jgl)
def jvU (u4:zY) (u1:List (List NC)) (r:List Int):Sk (top r) (y27 u1) :=.call (.obT (.rc))
def juk (u4:zY) (u1:List (List NC)) (r:List Int) (h:ze (y27 u1) some=some r):jaR Tryz.f70 ((sp_121 sp0)) (fun _ _ _=>none) (jaK jgk [.d (.s u4),.x (.st zS u1)]) [.c (.row 3 (.ints .i64 r))] :=Sk.vc (jvU u4 u1 r) (by kernel_rfl) h
def jul:jaf Tryz.prog 70 true (jah jgk jgl):=by
 refine jan (sp:=(sp_121 sp0)) (fn:=Tryz.f70) (body:=bodyOf Tryz.f70) mixed (sp_121_ok jaj) Tryz.func70 (by kernel_rfl) (by kernel_rfl) fun ls t h ho b hb=>?_;unfold jgl at h;split at h
 ·rename_i u4 u1;cases h;obtain rfl:=jav hb;exact⟨zh (by kernel_rfl),_,_,juk u4 u1 _ (jai ho)⟩
 ·cases h
def sp_70_ok {sp:jaa} (h:jab Tryz.prog sp):jab Tryz.prog (sp_70 sp):=jag jul h
attribute [irreducible] y27
def y288:List SV:=[.a [.d,.x (.st zS [])],.c (.d)]
def y41 (u1:List (List NC)) (x0:Int):Option (Int ⊕ (Unit ⊕ Unit)) :=
 if x0<(↑u1.length:Int)then if 0<=x0∧x0<(↑u1.length:Int)then
  if zf x0<zb u1 then if(nI u1 x0.toNat (1:Nat)==3)=true then some (.inr ((.inl ())))
   else
   some (.inl (wrap .i64 (x0+1)))
  else none
  else none
 else some (.inr ((.inr ())))
def jja (u4:zY) (u1:List (List NC)) (u32:Int) (u5:Unit):Option Bool :=some true
def y42 (u32:Int) (r6:List Int) (x1:(Int × List (List (List Nat)))):Option ((Int × List (List (List Nat))) ⊕ (List (List (List Nat)))) :=
 if x1.1<(↑r6.length:Int)then
  ze (y79 u32) fun r7 =>
  if(0:Int)<7∧(zb [r7]+zb (zi (7:Nat) zO))*128<=140737488355328∧zb [r7]+zb (zi (7:Nat) zO)<=9223372036854775807 then
  if(zb x1.2+zb (xt (fun r=>NC.toFrs (qg r (NC.d (D.v zX)))) [[NC.r (Cont.frs .f32 (32:Nat) ([r7]++zi (7:Nat) zO))]]))*24<=140737488355328∧zb x1.2+zb (xt (fun r=>NC.toFrs (qg r (NC.d (D.v zX)))) [[NC.r (Cont.frs .f32 (32:Nat) ([r7]++zi (7:Nat) zO))]])<=9223372036854775807 then some (.inl ((wrap .i64 (x1.1+1),x1.2++xt (fun r=>NC.toFrs (qg r (NC.d (D.v zX)))) [[NC.r (Cont.frs .f32 (32:Nat) ([r7]++zi (7:Nat) zO))]])))
  else none
  else none
 else some (.inr x1.2)
def y63 (x2 x3:Int) (r5:List Int × Int) (r10:List (List (List Nat)) × Int × Int) (r11:List Int) (x4:Int):Option (Int ⊕ (Unit ⊕ Unit)) :=
 if x4<32 then if 0<=x2∧x2<(↑r11.length:Int)then
  if zf x2<zb r11 then if 0<=za r11 x2.toNat (0:Int)∧za r11 x2.toNat 0<(↑r5.1.length:Int)then
   if zf (za r11 x2.toNat (0:Int))<zb r5.1 then if(wrap .i64 (wrap .i64 (x3*32)+x4)!=za r5.1 (zf (za r11 x2.toNat (0:Int))) (0:Int))=true then
    if 0<=x2∧x2<(↑r10.1.length:Int)then if zf x2<zb r10.1 then
     if 0<=x3∧x3<(↑(zb (za r10.1 x2.toNat [])):Int)then if 0<=x4∧x4<(↑(32:Nat):Int)then
      if zf x3<zb (za r10.1 x2.toNat [])∧0+zf x4*1<32 then if(qo (FloatKind.format .f32) (za (za (za r10.1 x2.toNat []) x3.toNat []) (0+zf x4*1) (0:Nat)) (0:Nat)!=some Ordering.eq)=true then some (.inr ((.inl ())))
       else
       some (.inl (wrap .i64 (x4+1)))
      else none
      else none
     else none
     else none
    else none
    else
    some (.inl (wrap .i64 (x4+1)))
   else none
   else none
  else none
  else none
 else some (.inr ((.inr ())))
def jjb (x3:Int) (u89:Unit):Option (Int ⊕ (Unit ⊕ Unit)) :=some (.inr ((.inl ())))
def jjc (x3:Int) (u90:Unit):Option (Int ⊕ (Unit ⊕ Unit)) :=some (.inl (wrap .i64 (x3+1)))
def y270 (x3:Int):(Unit ⊕ Unit)->Option (Int ⊕ (Unit ⊕ Unit)) :=(qz (jjb x3) (jjc x3))
def y64 (x2:Int) (r5:List Int × Int) (r10:List (List (List Nat)) × Int × Int) (r11:List Int) (x3:Int):Option (Int ⊕ (Unit ⊕ Unit)) :=
 if 0<=x2∧x2<(↑r10.1.length:Int)then if zf x2<zb r10.1 then
  if x3<(↑(zb (za r10.1 x2.toNat [])):Int)then ze (jae (y63 x2 x3 r5 r10 r11) big (0:Int)) (y270 x3)
  else some (.inr ((.inr ())))
  else none
 else none
def jjd (x2:Int) (u88:Unit):Option (Int ⊕ (Unit ⊕ Unit)) :=some (.inr ((.inl ())))
def jje (x2:Int) (u91:Unit):Option (Int ⊕ (Unit ⊕ Unit)) :=some (.inl (wrap .i64 (x2+1)))
def y271 (x2:Int):(Unit ⊕ Unit)->Option (Int ⊕ (Unit ⊕ Unit)) :=(qz (jjd x2) (jje x2))
def y65 (r5:List Int × Int) (r10:List (List (List Nat)) × Int × Int) (r11:List Int) (x2:Int):Option (Int ⊕ (Unit ⊕ Unit)) :=
 if x2<(↑r10.1.length:Int)then ze (jae (y64 x2 r5 r10 r11) big (0:Int)) (y271 x2)
 else some (.inr ((.inr ())))
def jjf (u44:Unit):Option Bool :=some false
def jjg (u54:Unit):Option Bool :=some true
def y272:(Unit ⊕ Unit)->Option Bool :=(qz (jjf) (jjg))
def y133 (u1:List (List NC)) (r3:ByteArray × List (List NC) × Int) (r4:ByteArray × List (List NC)) (r5:List Int × Int) (u19:List (List (List Nat))):Option Bool :=
 ze (y4 r3.1 r3.2.1) fun r8 =>
 ze (y20 u19) fun r9 =>
 ze (jca r4.1 r4.2 r9 []) fun r10 =>
 ze (y27 u1) fun r11 =>
 if(r10.2.2 != 0)=true then some false
 else if((↑r10.1.length:Int)!=(↑r11.length:Int))=true then some false
  else
  ze (jae (y65 r5 r10 r11) big (0:Int)) (y272)
def y153 (u4:zY) (u1:List (List NC)) (u32:Int) (u10:Unit):Option Bool :=
 ze (y4 u4 u1) fun r2 =>
 ze (y5 r2.1 r2.2) fun r3 =>
 if(r3.2.2 != 0)=true then some (r3.2.2==8)
 else
  ze (y4 r3.1 r3.2.1) fun r4 =>
  ze (y12 r4.1 r4.2) fun r5 =>
  if(r5.2 != 0)=true then
  some false
  else
  if((↑r5.1.length:Int)!=(↑u1.length:Int))=true then some false
  else
   ze (y62 u1) fun r6 =>
   ze (jae (y42 u32 r6) big (((0:Int),[]))) (y133 u1 r3 r4 r5)
def y170 (u4:zY) (u1:List (List NC)) (u32:Int):(Unit ⊕ Unit)->Option Bool :=(qz (jja u4 u1 u32) (y153 u4 u1 u32))
def y45 (u4:zY) (u1:List (List NC)) (u32:Int):Option Bool :=
 ze (jeg u4 u1) fun r0 =>
 if(!r0)=true then some true
 else
  ze (jmW u4 u1) fun r1 =>
  if(r1 != 0)=true then
  some true
  else
  ze (jae (y41 u1) big (0:Int)) (y170 u4 u1 u32)
def y289:List Lf->Option GT|[.d (.s u4),.x (.st [.s,.i .i64,.ints .i64,.ints .i64,.ints .i64,.i .i64,.recs 5,.i .i64] u1),.d (.i .i64 u32)]=>some (.leaf (ok (y45 u4 u1 u32)) [.c (.d (.b ((val (y45 u4 u1 u32)))))])|_=>none
abbrev y273 (u4:zY) (u1:List (List NC)) (u32:Int) (r:Bool):Lp (Int × Nat) Int (Unit ⊕ Unit) Bool Bool :=⟨fun z=>z.1,fun z=>z.2,fun z x n=>(x,n),fun z=>y41 u1,fun z=>y170 u4 u1 u32,fun z=>top r,fun z=>0,[.c fun _=>u32,.c fun _=>0,.c fun vv=>vv.1,.c fun _=>u4,.c fun _=>u1]⟩
abbrev y274 (u4:zY) (u1:List (List NC)) (u32:Int) (r:Bool):Lp (Unit × (Int × List (List (List Nat))) × Nat) ((Int × List (List (List Nat)))) ((List (List (List Nat)))) Bool Bool :=⟨fun z=>z.2.1,fun z=>z.2.2,fun z x n=>((),x,n),fun z=>y42 u32 (val (y62 u1)),fun z=>y133 u1 (val (y5 (val (y4 u4 u1)).1 (val (y4 u4 u1)).2)) (val (y4 (val (y5 (val (y4 u4 u1)).1 (val (y4 u4 u1)).2)).1 (val (y5 (val (y4 u4 u1)).1 (val (y4 u4 u1)).2)).2.1)) (val (y12 (val (y4 (val (y5 (val (y4 u4 u1)).1 (val (y4 u4 u1)).2)).1 (val (y5 (val (y4 u4 u1)).1 (val (y4 u4 u1)).2)).2.1)).1 (val (y4 (val (y5 (val (y4 u4 u1)).1 (val (y4 u4 u1)).2)).1 (val (y5 (val (y4 u4 u1)).1 (val (y4 u4 u1)).2)).2.1)).2)),fun z=>top r,fun z=>0,[.c fun _=>u32,.c fun _=>0,.c fun _=>0,.c fun vv=>vv.2.1.1,.c fun _=>u4,.c fun _=>(val (y5 (val (y4 u4 u1)).1 (val (y4 u4 u1)).2)).1,.c fun _=>(val (y12 (val (y4 (val (y5 (val (y4 u4 u1)).1 (val (y4 u4 u1)).2)).1 (val (y5 (val (y4 u4 u1)).1 (val (y4 u4 u1)).2)).2.1)).1 (val (y4 (val (y5 (val (y4 u4 u1)).1 (val (y4 u4 u1)).2)).1 (val (y5 (val (y4 u4 u1)).1 (val (y4 u4 u1)).2)).2.1)).2)).1,.c fun vv=>vv.2.1.2,.c fun _=>val (y62 u1),.c fun _=>u1,.c fun _=>(val (y5 (val (y4 u4 u1)).1 (val (y4 u4 u1)).2)).2.1]⟩
abbrev y171 (u4:zY) (u1:List (List NC)) (u32:Int) (r:Bool):Lp (Unit × List (List (List Nat)) × Int × Nat) Int (Unit ⊕ Unit) Bool Bool :=⟨fun z=>z.2.2.1,fun z=>z.2.2.2,fun z x n=>((),z.2.1,x,n),fun z=>y65 (val (y12 (val (y4 (val (y5 (val (y4 u4 u1)).1 (val (y4 u4 u1)).2)).1 (val (y5 (val (y4 u4 u1)).1 (val (y4 u4 u1)).2)).2.1)).1 (val (y4 (val (y5 (val (y4 u4 u1)).1 (val (y4 u4 u1)).2)).1 (val (y5 (val (y4 u4 u1)).1 (val (y4 u4 u1)).2)).2.1)).2)) (val (jca (val (y4 (val (y5 (val (y4 u4 u1)).1 (val (y4 u4 u1)).2)).1 (val (y5 (val (y4 u4 u1)).1 (val (y4 u4 u1)).2)).2.1)).1 (val (y4 (val (y5 (val (y4 u4 u1)).1 (val (y4 u4 u1)).2)).1 (val (y5 (val (y4 u4 u1)).1 (val (y4 u4 u1)).2)).2.1)).2 (val (y20 z.2.1)) [])) (val (y27 u1)),fun z=>y272,fun z=>top r,fun z=>0,[.c fun vv=>vv.2.2.1,.c fun _=>(val (y12 (val (y4 (val (y5 (val (y4 u4 u1)).1 (val (y4 u4 u1)).2)).1 (val (y5 (val (y4 u4 u1)).1 (val (y4 u4 u1)).2)).2.1)).1 (val (y4 (val (y5 (val (y4 u4 u1)).1 (val (y4 u4 u1)).2)).1 (val (y5 (val (y4 u4 u1)).1 (val (y4 u4 u1)).2)).2.1)).2)).1,.c fun vv=>(val (jca (val (y4 (val (y5 (val (y4 u4 u1)).1 (val (y4 u4 u1)).2)).1 (val (y5 (val (y4 u4 u1)).1 (val (y4 u4 u1)).2)).2.1)).1 (val (y4 (val (y5 (val (y4 u4 u1)).1 (val (y4 u4 u1)).2)).1 (val (y5 (val (y4 u4 u1)).1 (val (y4 u4 u1)).2)).2.1)).2 (val (y20 vv.2.1)) [])).1,.c fun _=>val (y27 u1)]⟩
abbrev y172 (u4:zY) (u1:List (List NC)) (u32:Int) (r:Bool) (m1:Nat):Lp (Unit × List (List (List Nat)) × Int × Nat × Int × Nat) Int (Unit ⊕ Unit) ((Int ⊕ (Unit ⊕ Unit))) Bool :=⟨fun z=>z.2.2.2.2.1,fun z=>z.2.2.2.2.2,fun z x n=>((),z.2.1,z.2.2.1,z.2.2.2.1,x,n),fun z=>y64 z.2.2.1 (val (y12 (val (y4 (val (y5 (val (y4 u4 u1)).1 (val (y4 u4 u1)).2)).1 (val (y5 (val (y4 u4 u1)).1 (val (y4 u4 u1)).2)).2.1)).1 (val (y4 (val (y5 (val (y4 u4 u1)).1 (val (y4 u4 u1)).2)).1 (val (y5 (val (y4 u4 u1)).1 (val (y4 u4 u1)).2)).2.1)).2)) (val (jca (val (y4 (val (y5 (val (y4 u4 u1)).1 (val (y4 u4 u1)).2)).1 (val (y5 (val (y4 u4 u1)).1 (val (y4 u4 u1)).2)).2.1)).1 (val (y4 (val (y5 (val (y4 u4 u1)).1 (val (y4 u4 u1)).2)).1 (val (y5 (val (y4 u4 u1)).1 (val (y4 u4 u1)).2)).2.1)).2 (val (y20 z.2.1)) [])) (val (y27 u1)),fun z=>y271 z.2.2.1,fun z=>(y171 u4 u1 u32 r).cx (((),z.2.1,z.2.2.1,m1)),fun z=>z.2.2.2.1,[.c fun vv=>vv.2.2.1,.c fun vv=>vv.2.2.2.2.1,.c fun _=>(val (y12 (val (y4 (val (y5 (val (y4 u4 u1)).1 (val (y4 u4 u1)).2)).1 (val (y5 (val (y4 u4 u1)).1 (val (y4 u4 u1)).2)).2.1)).1 (val (y4 (val (y5 (val (y4 u4 u1)).1 (val (y4 u4 u1)).2)).1 (val (y5 (val (y4 u4 u1)).1 (val (y4 u4 u1)).2)).2.1)).2)).1,.c fun vv=>(val (jca (val (y4 (val (y5 (val (y4 u4 u1)).1 (val (y4 u4 u1)).2)).1 (val (y5 (val (y4 u4 u1)).1 (val (y4 u4 u1)).2)).2.1)).1 (val (y4 (val (y5 (val (y4 u4 u1)).1 (val (y4 u4 u1)).2)).1 (val (y5 (val (y4 u4 u1)).1 (val (y4 u4 u1)).2)).2.1)).2 (val (y20 vv.2.1)) [])).1,.c fun _=>val (y27 u1)]⟩
abbrev y275 (u4:zY) (u1:List (List NC)) (u32:Int) (r:Bool) (m1 m2:Nat):Lp (Unit × List (List (List Nat)) × Int × Nat × Int × Nat × Int × Nat) Int (Unit ⊕ Unit) ((Int ⊕ (Unit ⊕ Unit))) Bool :=⟨fun z=>z.2.2.2.2.2.2.1,fun z=>z.2.2.2.2.2.2.2,fun z x n=>((),z.2.1,z.2.2.1,z.2.2.2.1,z.2.2.2.2.1,z.2.2.2.2.2.1,x,n),fun z=>y63 z.2.2.1 z.2.2.2.2.1 (val (y12 (val (y4 (val (y5 (val (y4 u4 u1)).1 (val (y4 u4 u1)).2)).1 (val (y5 (val (y4 u4 u1)).1 (val (y4 u4 u1)).2)).2.1)).1 (val (y4 (val (y5 (val (y4 u4 u1)).1 (val (y4 u4 u1)).2)).1 (val (y5 (val (y4 u4 u1)).1 (val (y4 u4 u1)).2)).2.1)).2)) (val (jca (val (y4 (val (y5 (val (y4 u4 u1)).1 (val (y4 u4 u1)).2)).1 (val (y5 (val (y4 u4 u1)).1 (val (y4 u4 u1)).2)).2.1)).1 (val (y4 (val (y5 (val (y4 u4 u1)).1 (val (y4 u4 u1)).2)).1 (val (y5 (val (y4 u4 u1)).1 (val (y4 u4 u1)).2)).2.1)).2 (val (y20 z.2.1)) [])) (val (y27 u1)),fun z=>y270 z.2.2.2.2.1,fun z=>(y172 u4 u1 u32 r m2).cx (((),z.2.1,z.2.2.1,z.2.2.2.1,z.2.2.2.2.1,m1)),fun z=>z.2.2.2.2.2.1,[.c fun vv=>vv.2.2.1,.c fun vv=>vv.2.2.2.2.1,.c fun vv=>vv.2.2.2.2.2.2.1,.c fun _=>(val (y12 (val (y4 (val (y5 (val (y4 u4 u1)).1 (val (y4 u4 u1)).2)).1 (val (y5 (val (y4 u4 u1)).1 (val (y4 u4 u1)).2)).2.1)).1 (val (y4 (val (y5 (val (y4 u4 u1)).1 (val (y4 u4 u1)).2)).1 (val (y5 (val (y4 u4 u1)).1 (val (y4 u4 u1)).2)).2.1)).2)).1,.c fun vv=>(val (jca (val (y4 (val (y5 (val (y4 u4 u1)).1 (val (y4 u4 u1)).2)).1 (val (y5 (val (y4 u4 u1)).1 (val (y4 u4 u1)).2)).2.1)).1 (val (y4 (val (y5 (val (y4 u4 u1)).1 (val (y4 u4 u1)).2)).1 (val (y5 (val (y4 u4 u1)).1 (val (y4 u4 u1)).2)).2.1)).2 (val (y20 vv.2.1)) [])).1,.c fun _=>val (y27 u1)]⟩
def jlk (u4:zY) (u1:List (List NC)) (u32:Int) (r:Bool):Sk (top r) (ze (jae (y42 u32 (val (y62 u1))) big (((0:Int),[]))) (y133 u1 (val (y5 (val (y4 u4 u1)).1 (val (y4 u4 u1)).2)) (val (y4 (val (y5 (val (y4 u4 u1)).1 (val (y4 u4 u1)).2)).1 (val (y5 (val (y4 u4 u1)).1 (val (y4 u4 u1)).2)).2.1)) (val (y12 (val (y4 (val (y5 (val (y4 u4 u1)).1 (val (y4 u4 u1)).2)).1 (val (y5 (val (y4 u4 u1)).1 (val (y4 u4 u1)).2)).2.1)).1 (val (y4 (val (y5 (val (y4 u4 u1)).1 (val (y4 u4 u1)).2)).1 (val (y5 (val (y4 u4 u1)).1 (val (y4 u4 u1)).2)).2.1)).2)))) :=
 .loopQ (y274 u4 u1 u32 r) [.c fun _=>u32,.c fun _=>0,.c fun _=>0,.c fun vv=>vv.2.1.1,.c fun _=>u4,.c fun _=>(val (y5 (val (y4 u4 u1)).1 (val (y4 u4 u1)).2)).1,.c fun _=>(val (y12 (val (y4 (val (y5 (val (y4 u4 u1)).1 (val (y4 u4 u1)).2)).1 (val (y5 (val (y4 u4 u1)).1 (val (y4 u4 u1)).2)).2.1)).1 (val (y4 (val (y5 (val (y4 u4 u1)).1 (val (y4 u4 u1)).2)).1 (val (y5 (val (y4 u4 u1)).1 (val (y4 u4 u1)).2)).2.1)).2)).1,.p fun vv=>zb vv.2.1.2=(0:Nat),.c fun _=>val (y62 u1),.c fun _=>u1,.c fun _=>(val (y5 (val (y4 u4 u1)).1 (val (y4 u4 u1)).2)).2.1] (fun kk=>((),((0:Int),[]),big)) (fun z0 =>
 .br
 (.call (.ob (.ob (.next))))
 (.exit (.call (.call (.call (.call (.brB
 (.obT (.rc))
 (.brB
 (.obT (.rc))
 (.loop (y171 u4 u1 u32 r) (fun kk=>((),z0.2.1.2,0,big)) fun z0 =>
 .br
 (.loop (y172 u4 u1 u32 r z0.2.2.2) (fun kk=>((),z0.2.1,z0.2.2.1,kk,0,big)) fun z1 =>
 .ob (.ob (.br
 (.loop (y275 u4 u1 u32 r z1.2.2.2.2.2 z0.2.2.2) (fun kk=>((),z1.2.1,z1.2.2.1,z1.2.2.2.1,z1.2.2.2.2.1,kk,0,big)) fun z2 =>
 .br
 (.ob (.ob (.ob (.ob (.brB
 (.ob (.ob (.ob (.ob (.ob (.brB
 (.exit (.exit (.exit (.obT (.rc)))))
 (.next)))))))
 (.next))))))
 (.exit (.next)))
 (.exit (.next)))))
 (.exit (.obT (.rc)))))))))))) (fun _=>⟨rfl,trivial⟩)
def jll (u4:zY) (u1:List (List NC)) (u32:Int) (r:Bool):Sk (top r) (ze (jae (y41 u1) big (0:Int)) (y170 u4 u1 u32)) :=
 .loop (y273 u4 u1 u32 r) (fun kk=>((0:Int),big)) fun z0 =>
 .br
 (.ob (.ob (.brB
 (.exit (.obT (.rc)))
 (.next))))
 (.exit (.call (.call (.brB
 (.obT (.rc))
 (.call (.call (.brB
 (.obT (.rc))
 (.brB
 (.obT (.rc))
 (.call (jlk u4 u1 u32 r))))))))))
def jl5 (u4:zY) (u1:List (List NC)) (u32:Int) (r:Bool):Sk (top r) (y45 u4 u1 u32) :=.obT (.call (.brB
 (.obT (.rc))
 (.call (.brB
 (.obT (.rc))
 (jll u4 u1 u32 r)))))
def jlm (u4:zY) (u1:List (List NC)) (u32:Int) (r:Bool) (h:ze (y45 u4 u1 u32) some=some r):jaR Tryz.f15 ((sp_72b (sp_17 (sp_22 (sp_37 (sp_31 (sp_73 (sp_74 (sp_19 (sp_64 (sp_63 (sp_70 sp0)))))))))))) (fun gs id st=>match id with
 |0=>some ⟨Int × Nat,fun z=>⟨[(1,.w (.c (.d (.i .i64 u32)))),(2,.w (.c (.p 1 0 1 0))),(5,.w (.c (.d (.i .i64 z.1))))],[(1,.box 24 [.d (.s u4),.o 0]),(0,.xext (XC.st zS u1))],2⟩,fun z=>(y273 u4 u1 u32 r).inv z,fun z=>z.2⟩
 |2=>some ⟨Unit × (Int × List (List (List Nat))) × Nat,fun z=>⟨[(1,.w (.c (.d (.i .i64 u32)))),(2,.w (.c (.p 1 0 1 0))),(6,.w (.c (.p 2 0 1 0))),(8,.w (.c (.o 3))),(10,.w (.c (.o 4))),(11,.w (.c (.o 5))),(12,.w (.c (.d (.i .i64 z.2.1.1))))],[(1,.box 24 [.d (.s u4),.o 0]),(2,.box 24 [.d (.s ((val (y5 (val (y4 u4 u1)).1 (val (y4 u4 u1)).2)).1)),.o 6]),(3,.row 3 (.ints .i64 ((val (y12 (val (y4 (val (y5 (val (y4 u4 u1)).1 (val (y4 u4 u1)).2)).1 (val (y5 (val (y4 u4 u1)).1 (val (y4 u4 u1)).2)).2.1)).1 (val (y4 (val (y5 (val (y4 u4 u1)).1 (val (y4 u4 u1)).2)).1 (val (y5 (val (y4 u4 u1)).1 (val (y4 u4 u1)).2)).2.1)).2)).1))),(4,.mrow 79 [(110:Nat)] (XC.bb .f32 (32:Nat) z.2.1.2) none),(5,.row 3 (.ints .i64 (val (y62 u1)))),(0,.xext (XC.st zS u1)),(6,.mrow 118 zE (XC.st zS (val (y5 (val (y4 u4 u1)).1 (val (y4 u4 u1)).2)).2.1) none)],7⟩,fun z=>(y274 u4 u1 u32 r).inv z,fun z=>z.2.2⟩
 |4=>some ⟨Unit × List (List (List Nat)) × Int × Nat,fun z=>⟨[(8,.w (.c (.o 1))),(13,.w (.c (.o 2))),(16,.w (.c (.o 3))),(17,.w (.c (.d (.i .i64 z.2.2.1))))],[(1,.row 3 (.ints .i64 ((val (y12 (val (y4 (val (y5 (val (y4 u4 u1)).1 (val (y4 u4 u1)).2)).1 (val (y5 (val (y4 u4 u1)).1 (val (y4 u4 u1)).2)).2.1)).1 (val (y4 (val (y5 (val (y4 u4 u1)).1 (val (y4 u4 u1)).2)).1 (val (y5 (val (y4 u4 u1)).1 (val (y4 u4 u1)).2)).2.1)).2)).1))),(2,.mrow 79 [(110:Nat)] (XC.bb .f32 (32:Nat) (val (jca (val (y4 (val (y5 (val (y4 u4 u1)).1 (val (y4 u4 u1)).2)).1 (val (y5 (val (y4 u4 u1)).1 (val (y4 u4 u1)).2)).2.1)).1 (val (y4 (val (y5 (val (y4 u4 u1)).1 (val (y4 u4 u1)).2)).1 (val (y5 (val (y4 u4 u1)).1 (val (y4 u4 u1)).2)).2.1)).2 (val (y20 z.2.1)) [])).1) none),(3,.row 3 (.ints .i64 (val (y27 u1))))],4⟩,fun z=>(y171 u4 u1 u32 r).inv z,fun z=>z.2.2.2⟩
 |6=>some ⟨Unit × List (List (List Nat)) × Int × Nat × Int × Nat,fun z=>⟨[(8,.w (.c (.o 1))),(13,.w (.c (.o 2))),(16,.w (.c (.o 3))),(17,.w (.c (.d (.i .i64 z.2.2.1)))),(18,.w (.c (.d (.i .i64 z.2.2.2.2.1))))],[(1,.row 3 (.ints .i64 ((val (y12 (val (y4 (val (y5 (val (y4 u4 u1)).1 (val (y4 u4 u1)).2)).1 (val (y5 (val (y4 u4 u1)).1 (val (y4 u4 u1)).2)).2.1)).1 (val (y4 (val (y5 (val (y4 u4 u1)).1 (val (y4 u4 u1)).2)).1 (val (y5 (val (y4 u4 u1)).1 (val (y4 u4 u1)).2)).2.1)).2)).1))),(2,.mrow 79 [(110:Nat)] (XC.bb .f32 (32:Nat) (val (jca (val (y4 (val (y5 (val (y4 u4 u1)).1 (val (y4 u4 u1)).2)).1 (val (y5 (val (y4 u4 u1)).1 (val (y4 u4 u1)).2)).2.1)).1 (val (y4 (val (y5 (val (y4 u4 u1)).1 (val (y4 u4 u1)).2)).1 (val (y5 (val (y4 u4 u1)).1 (val (y4 u4 u1)).2)).2.1)).2 (val (y20 z.2.1)) [])).1) none),(3,.row 3 (.ints .i64 (val (y27 u1))))],4⟩,fun z=>(y172 u4 u1 u32 r (gs.getD 0 0)).inv z,fun z=>z.2.2.2.2.2⟩
 |8=>some ⟨Unit × List (List (List Nat)) × Int × Nat × Int × Nat × Int × Nat,fun z=>⟨[(8,.w (.c (.o 1))),(13,.w (.c (.o 2))),(16,.w (.c (.o 3))),(17,.w (.c (.d (.i .i64 z.2.2.1)))),(18,.w (.c (.d (.i .i64 z.2.2.2.2.1)))),(19,.w (.c (.d (.i .i64 z.2.2.2.2.2.2.1))))],[(1,.row 3 (.ints .i64 ((val (y12 (val (y4 (val (y5 (val (y4 u4 u1)).1 (val (y4 u4 u1)).2)).1 (val (y5 (val (y4 u4 u1)).1 (val (y4 u4 u1)).2)).2.1)).1 (val (y4 (val (y5 (val (y4 u4 u1)).1 (val (y4 u4 u1)).2)).1 (val (y5 (val (y4 u4 u1)).1 (val (y4 u4 u1)).2)).2.1)).2)).1))),(2,.mrow 79 [(110:Nat)] (XC.bb .f32 (32:Nat) (val (jca (val (y4 (val (y5 (val (y4 u4 u1)).1 (val (y4 u4 u1)).2)).1 (val (y5 (val (y4 u4 u1)).1 (val (y4 u4 u1)).2)).2.1)).1 (val (y4 (val (y5 (val (y4 u4 u1)).1 (val (y4 u4 u1)).2)).1 (val (y5 (val (y4 u4 u1)).1 (val (y4 u4 u1)).2)).2.1)).2 (val (y20 z.2.1)) [])).1) none),(3,.row 3 (.ints .i64 (val (y27 u1))))],4⟩,fun z=>(y275 u4 u1 u32 r (gs.getD 0 0) (gs.getD 1 0)).inv z,fun z=>z.2.2.2.2.2.2.2⟩
 |_=>none) (jaK y288 [.d (.s u4),.x (.st zS u1),.d (.i .i64 u32)]) [.c (.d (.b r))] :=
 Sk.vc (jl5 u4 u1 u32 r) (by kernel_rfl) h
def jln:jaf Tryz.prog 15 true (jah y288 y289):=by
 refine jan (sp:=(sp_72b (sp_17 (sp_22 (sp_37 (sp_31 (sp_73 (sp_74 (sp_19 (sp_64 (sp_63 (sp_70 sp0)))))))))))) (fn:=Tryz.f15) (body:=bodyOf Tryz.f15) mixed (sp_72b_ok (sp_17_ok (sp_22_ok (sp_37_ok (sp_31_ok (sp_73_ok (sp_74_ok (sp_19_ok (sp_64_ok (sp_63_ok (sp_70_ok jaj))))))))))) Tryz.func15 (by kernel_rfl) (by kernel_rfl) fun ls t h ho b hb=>?_;unfold y289 at h;split at h
 ·rename_i u4 u1 u32;cases h;obtain rfl:=jav hb;exact⟨zh (by kernel_rfl),_,_,jlm u4 u1 u32 _ (jai ho)⟩
 ·cases h
attribute [irreducible] y45
end Go.Sh
end

section
namespace Go.Sh
open Go Go.Proofs Go.RowKit Go.Sx Go.Sx06
open Go.IntKind (wrap)
variable {g:List (List NC)} {l:List Int} {T:List Int} {f:Nat->List Int}
def lat_T (hc:CInv g l g.length T f) (h:Rg g l) {nm:ByteArray} (hs:nm.size<1000) (h0:(cg nm (wA g f)).2=0):∃O,y12 nm (wA g f)=some (O,0)∧O.length=g.length∧∀u,u<g.length->O.getD u 0=T.getD u 0:=by
 have hX:=hc.rg h;rcases jB3 hX hs h0 nm with ⟨_,hR⟩|⟨O,hE,hR,hO⟩
 ·exfalso;rcases jle hX nm nm with ⟨d,_,_,i,w1,w2,hne,_⟩|⟨A,O,_,hR2,_⟩
  ·exact hne ((jqY hc h w1).1.symm.trans (jqY hc h w2).1)
  ·rw[hR]at hR2;cases hR2
 ·rcases jle hX nm nm with ⟨d,_,e2,_⟩|⟨A,O',e1,e2,hI⟩
  ·rw[hR]at e2;cases e2
  ·rw[hR]at e2;cases e2;refine⟨O,hE,by rw[hO,jaU],fun u hu=>?_⟩;obtain⟨p,hp,e⟩:=hX.surj (i:=u) (by rw[jaU];exact hu);obtain⟨g1,g2,_⟩:=hI.don p u hp e;rw[<-g1,(jqY hc h g2).1]
def jIG (hc:CInv g l g.length T f) (h:Rg g l) (hk:∀i,i<g.length->nI g i 1≠3):LtR (wA g f) T:=by
 refine⟨fun i hi=>?_,fun i hi h0=>?_,fun i k v hi hk2 he=>?_⟩
 ·rw[jaU]at hi;rw[(jd5 f hi).1];exact hk i hi
 ·rw[jaU]at hi;rw[(jd5 f hi).1]at h0;obtain⟨p,hp,e⟩:=h.surj hi;rw[(hc.con p i hp e).2 (((jfk (h.ok i hi)).2).2 h0)];exact(h.unit hi).de0 (by omega)
 ·rw[jaU]at hi;rw[(jbg f hi).1]at hk2 he;rw[(jbg f hi).2.1,(jd5 f hi).2.1];obtain⟨p,hp,e⟩:=h.surj hi;exact(hc.con p i hp e).1 k v hk2 he
def jAr (f:Nat->List Int) (kind:Int):jaB (wA g f) kind=jaB g kind:=by
 unfold jaB jhx;rw[jaU]
 congr 1
 exact List.filter_congr fun i hi=>by rw[(jd5 f (qG.1 hi)).1]
def impI (n:Int):Int:=max (-32767) (min 32767 n)
def jhI (n:Int):List Nat:=nf (impI n)::zi 31 0
def jCh (n:Int):y79 n=some (jhI n):=by
 unfold y79;rw[jqF];rfl
def jAs (n:Int):(jhI n).length=32:=by simp[jhI]
def jIH (n:Int):∀j,j<32->se ((jhI n).getD j 0)=0:=fun j hj=>by
 cases j with
 |zero =>
  have hr:inR (impI n):=by unfold inR impI;omega
  show se (nf (impI n))=0
  rw[jv1 (jk4 hr),if_pos hr]
 |succ j =>
  show se ((zi 31 0).getD j 0)=0
  rw[jou];exact jtX
def jII (n:Int):∀j,fi ((jhI n).getD j 0)≠0->j=0:=fun j h=>by
 cases j with
 |zero=>rfl
 |succ j =>
  exfalso;apply h
  show fi ((zi 31 0).getD j 0)=0
  rw[jou,jue]
def jbJ (g:List (List NC)) (n:Int):List (List (List Nat)):=(jaB g 0).map fun _=>jhI n::zi 7 Z32
def jhJ {n:Int} {c:Nat} (hc:c<(jbJ g n).length):(jbJ g n).getD c []=jhI n::zi 7 Z32:=by
 have hc:c<(jaB g 0).length:=by simpa [jbJ]using hc
 exact jeh (fun _:Int=>jhI n::zi 7 Z32) 0 hc
def jAt (n:Int) (k:Nat) (hk:k<8):(jhI n::zi 7 Z32).getD k []=if k=0 then jhI n else Z32:=by
 cases k with
 |zero=>rfl
 |succ k =>
  rw[if_neg (by omega)]
  show(zi 7 Z32).getD k []=Z32
  exact jdz (by omega)
def jIJ:∀j,j<32->se (Z32.getD j 0)=0:=fun j hj=>by rw[jDx,jou];exact jtX
def jyt {n:Int}:((jbJ g n).getD 0 []).length<=8:=by
 by_cases h:0<(jbJ g n).length
 ·rw[jhJ h];simp
 ·have:jbJ g n=[]:=z4 (by omega);rw[this];simp
def jHq (n:Int):TR g (jbJ g n):=by
 have h8:=jyt (g:=g) (n:=n);refine⟨by simp[jbJ],fun c hc=>?_,by omega,fun c k hc hk=>?_⟩
 ·rw[jhJ hc,jhJ (show 0<(jbJ g n).length by omega)]
 ·rw[jhJ hc,jAt n k (by omega)];split
  ·exact⟨jAs n,jIH n⟩
  ·exact⟨rfl,jIJ⟩
def jHr (n:Int):T32 (jbJ g n):=fun r hr b hb=>by
 obtain⟨c,hc,rfl⟩:=qm.1 hr;rcases qu.1 hb with rfl|hb
 ·exact jAs n
 ·rw[xA hb];rfl
def jHs (n:Int):∀k,k<((jbJ g n).getD 0 []).length->BI (32*(k:Int)) (inK (jbJ g n) k):=fun k hk c hc t ht hne=>by
 have h8:=jyt (g:=g) (n:=n);have hc:c<(jbJ g n).length:=by simpa [inK]using hc
 have e:(inK (jbJ g n) k).getD c []=((jbJ g n).getD c []).getD k []:=jeh (fun r:List (List Nat)=>r.getD k []) [] hc;rw[e,jhJ hc,jAt n k (by omega)]at hne;split at hne
 ·rename_i hk0;have:=jII n t hne;omega
 ·exfalso;apply hne;rw[jDx,jou,jue]
def jHt (hn:g.length<1000) (n:Int):jae (y42 n (jaB g 0)) big (0,[])=some (jbJ g n):=by
 have hrec:∀(m:Nat) (x:List (List Nat)),xt (fun r=>NC.toFrs (qg r (NC.d (D.v zX)))) [[NC.r (Cont.frs FloatKind.f32 m x)]]=[x]:=fun m x=>rfl;have hl:=jdy g 0 g.length;have hlen:(jaB g 0).length<1000:=by unfold jaB;omega
 exact jkZ (jaB g 0) 0 (fun _=>jhI n::zi 7 Z32) (body:=y42 n (jaB g 0)) (by omega) (fun i hi o ho=>by
  unfold y42;simp only[hrec];rw[if_pos (by omega),jCh,jac,if_pos (by simp only[zC,qa,yD];omega),if_pos (by simp only[zC,qa];omega),jam (by omega)];rfl) (fun o=>by
  unfold y42;dsimp only;rw[if_neg (by omega)])
def jGo {t:List (List (List Nat))} (hl:t.length<1000) (hr:∀r∈t,r.length<=18):y20 t=some t:=by
 have hrec:∀(n:Nat) (x:List (List Nat)),xt (fun r=>NC.toFrs (qg r (NC.d (D.v zX)))) [[NC.r (Cont.frs FloatKind.f32 n x)]]=[x]:=fun n x=>rfl
 have hit:jae (y96 t) big (0,[])=some t:=by
  have:=jkZ t [] (fun r=>r) (body:=y96 t) (by omega) (fun i hi o ho=>by
   have h1:=hr (t.getD i []) (by rw[jaC hi];exact qi hi);unfold y96;simp only[hrec,zg,List.nil_append];rw[if_pos (by omega),if_pos (by omega),if_pos hi,if_pos (by omega),if_pos (by simp only[zC,qa];omega),jam (by omega)]) (fun o=>by
   unfold y96;dsimp only;rw[if_neg (by omega)])
  rw[List.map_id']at this;exact this
 unfold y20;rw[hit];rfl
def jDV (k:Int) (n:Nat):jbm (jcE [] k n)=fun _=>false:=by
 funext u;rw[jnN];simp[jv2]
def jHu {O:List Int} {outs:List (List (List Nat))} (hn:g.length<1000) (hO:O.length=g.length) (hlo:outs.length=(jaB g 4).length) {m:Nat} (hm:m<=8) (hr:∀c,c<(jaB g 4).length->(outs.getD c []).length=m)
  (h:∀c,c<(jaB g 4).length->∀j,j<m->OI O ((jaB g 4).getD c 0).toNat (32*(j:Int)) ((outs.getD c []).getD j [])) (e1 c1 e2:Int) :
  jae (y65 (O,e1) (outs,c1,e2) (jaB g 4)) big 0=some (.inr ()):=by
 have hl:=jdy g 4 g.length;have hlen:(jaB g 4).length<1000:=by unfold jaB;omega
 have s4:∀c j:Nat,c<(jaB g 4).length->j<m->jae (y63 (c:Int) (j:Int) (O,e1) (outs,c1,e2) (jaB g 4)) big 0=some (.inr ()):=fun c j hc hj=>by
  refine jaD (body:=y63 (c:Int) (j:Int) (O,e1) (outs,c1,e2) (jaB g 4)) (fun t=>(t:Int)) (k:=32) (fun t ht=>?_) ?_ (by omega)
  ·obtain⟨u,hu,hue,_⟩:=jot hc;have hrc:=hr c hc;unfold y63;simp only[zg];rw[if_pos (by omega),if_pos (by omega),if_pos hc,hue,if_pos (by omega),zg,if_pos (by omega),jam (x:=(j:Int)*32) (by omega),jam (x:=(j:Int)*32+(t:Int)) (by omega),jam (x:=(t:Int)+1) (by omega)]
   by_cases hat:(j:Int)*32+(t:Int)=O.getD u 0
   ·rw[if_neg (by rw[hat];simp)];rfl
   ·rw[if_pos (by simpa using hat),if_pos (by omega),if_pos (by omega),if_pos (by omega),if_pos (by omega),if_pos ⟨by omega,by omega⟩];obtain⟨n,hx,hne⟩:=h c hc j hj t ht;rw[hue,zg]at hne
    have hn0:n=0:=yE fun hh=>by
     have:=hne hh;omega
    subst hn0;have ei:(0:Nat)+t*(1:Nat)=t:=by omega
    rw[if_neg (by rw[ei,hx];decide)];rfl
  ·unfold y63;rw[if_neg (by omega)]
 have s3:∀c:Nat,c<(jaB g 4).length->jae (y64 (c:Int) (O,e1) (outs,c1,e2) (jaB g 4)) big 0=some (.inr ()):=fun c hc=>by
  have hrc:=hr c hc;refine jaD (body:=y64 (c:Int) (O,e1) (outs,c1,e2) (jaB g 4)) (fun j=>(j:Int)) (k:=m) (fun j hj=>?_) ?_ (by omega)
  ·unfold y64;simp only[zg];rw[if_pos (by omega),if_pos (by omega),if_pos (by omega),s4 c j hc hj,jac]
   show some (Sum.inl (wrap .i64 ((j:Int)+1)))=_
   rw[jam (by omega)];rfl
  ·unfold y64;simp only[zg];rw[if_pos (by omega),if_pos (by omega),if_neg (by omega)]
 refine jaD (body:=y65 (O,e1) (outs,c1,e2) (jaB g 4)) (fun c=>(c:Int)) (k:=outs.length) (fun c hc=>?_) ?_ (by omega)
 ·unfold y65;dsimp only;rw[if_pos (by omega),s3 c (by omega),jac]
  show some (Sum.inl (wrap .i64 ((c:Int)+1)))=_
  rw[jam (by omega)];rfl
 ·unfold y65;dsimp only;rw[if_neg (by omega)]
def jlo (nm:ByteArray) (g:List (List NC)) (n:Int):y45 nm g n=some true:=by
 unfold y45;rcases jDh nm g with h|⟨h,hw,hs⟩
 ·rw[h];rfl
 ·rw[h,jac,if_neg (by simp),jzs hw hs,jac];have hn:=hw.n
  by_cases h0:(cg nm g).2=0
  ·rw[if_neg (show ¬(cg nm g).2≠0 by omega)];cases ho:jdJ (jbn g) g.length []with
   |none=>rfl
   |some l =>
    have hr:=rg_of hw h0 ho;dsimp only
    rw[if_neg (by simp),ji6 g.length (fun i=>nI g i 1==3) (body:=y41 g) (fun _=>.inl ()) (.inr ()) (by omega) (fun i hi hp=>by
     unfold y41;rw[if_pos (by omega),if_pos (by omega),zg,if_pos hi,if_pos hp]) (fun i hi hp=>by
     unfold y41;rw[if_pos (by omega),if_pos (by omega),zg,if_pos hi,if_neg (by rw[hp];simp),jam (by omega)]) (by
     unfold y41;rw[if_neg (by omega)]),jac]
    cases hf:(zo g.length).findIdx? (fun i=>nI g i 1==3)with
    |some i=>rfl
    |none =>
     have hk3:∀i,i<g.length->nI g i 1≠3:=fun i hi=>by
      rw[qk]at hf;have:=hf i (qG.2 hi);simpa using this
     show y153 nm g n ()=_
     unfold y153;rw[joq hw,jac];dsimp only;rcases jCc hr hs h0 with ⟨hE,_⟩|⟨T,f,hE,_,hi⟩
     ·rw[hE];rfl
     ·have hX:=hi.rg hr
      have h0X:(cg nm (wA g f)).2=0:=by
       rw[jnE,jaU,juQ _ _ _ _ fun i hi=>by rw[hX.ok i (by rw[jaU];exact hi),<-hr.ok i hi],<-jnE];exact h0
      obtain⟨O,hO,hOl,hOT⟩:=lat_T hi hr hs h0X;rw[hE,jac];dsimp only;rw[if_neg (by simp),joq hX.fw,jac,wA_cp];dsimp only;rw[hO,jac];dsimp only;rw[if_neg (by simp),if_neg (by rw[hOl];simp)];unfold y62;rw[juZ hn,jac,jac,jHt hn,jac];unfold y133;dsimp only
      have htl:(jbJ g n).length<1000:=by
       have:=jdy g 0 g.length;have e:(jbJ g n).length=(jaB g 0).length:=by simp[jbJ]
       rw[e];unfold jaB;omega
      have htr:∀r∈jbJ g n,r.length<=18:=fun r hr=>by
       obtain⟨c,_,rfl⟩:=qm.1 hr;simp
      have hTR:TR (wA g f) (jbJ g n):=by
       have:=jHq (g:=g) n;exact⟨by rw[jAr];exact this.len,this.row,this.sht,this.blk⟩
      rw[joq hX.fw,jac,jGo htl htr,jac,jHk hX hs h0X (by omega) (jHr n),jIp hTR,show(cf (wA g f).length []).2=0 from rfl,jac];have hfn:(fun k:Nat=>jbm (jcE [] (k:Int) (wA g f).length))=fun _ _=>false:=by funext k;exact jDV _ _
      simp only[ne_eq,not_true,if_false];rw[hfn];unfold y27;rw[juZ hn,jac,jac];obtain⟨_,_,p3,p4,_⟩:=jv3 hX (fun _ _=>false) hTR ((jbJ g n).getD 0 []).length (zq _);obtain⟨_,p5⟩:=jDO hX (jIG hi hr hk3) hTR (jHs n) ((jbJ g n).getD 0 []).length (zq _);rw[jAr]at p3 p4 p5;have h8:=jyt (g:=g) (n:=n)
      generalize (plI (wA g f) l (fun _ _=>false) (jbJ g n) ((jbJ g n).getD 0 []).length).2.2.1=outs at *
      generalize (plI (wA g f) l (fun _ _=>false) (jbJ g n) ((jbJ g n).getD 0 []).length).2.2.2=cuts at *
      rw[if_neg (by simp),if_neg (by rw[p3];simp),jHu hn hOl p3 h8 p4 (fun c hc j hj t ht=>by
       obtain⟨x,q1,q2⟩:=p5 c hc j hj t ht;refine⟨x,q1,fun hx=>?_⟩;obtain⟨u,hu,hue,_⟩:=jot hc;have:=q2 hx;rw[hue,zg]at this ⊢;rw[hOT u hu];exact this)]
      rfl
  ·rw[if_pos h0,if_pos (by simpa using h0)]
end Go.Sh
end

section
namespace Go.Sx
open Go.RowKit Go.ChangeShapes Go.WideShapes
inductive K where
 |i (k:IntKind)|b|f (k:FloatKind)|s
def K.fits:K->D->Prop| .i k,.i k' n=>k'=k∧(Lit.int k n).wf=true| .b,.b _=>True| .f k,.f k' n=>k'=k∧(Lit.float k n).wf=true| .s,.s x=>x.size<=maxLen|_,_=>False
def jbj:List K->List D->Prop|[],[]=>True|k::ks,d::ds=>k.fits d∧jbj ks ds|_,_=>False
def jfl:∀{ks:List K} {ds:List D} {ks':List K} {ds':List D},jbj ks ds->jbj ks' ds'->jbj (ks++ks') (ds++ds')|[],[],_,_,_,h=>h|_::_,_::_,_,_,h,h'=>⟨h.1,jfl h.2 h'⟩|[],_::_,_,_,h,_=>h.elim|_::_,[],_,_,h,_=>h.elim
def jfm:∀{ks:List K} {ds:List D},jbj ks ds->ds.length=ks.length
 |[],[],_=>rfl
 |_::_,_::_,h=>by simp[jfm h.2]
 |[],_::_,h=>h.elim
 |_::_,[],h=>h.elim
def jgN (g:qI->Option (List K)) (P:zQ):Nat->List Field->Option (List K)|_,[]=>some []|n,f::fs=>match g f.type with|none=>none|some ks=>if f.offset=n∧P.cellsOf f.type=ks.length then(jgN g P (n+ks.length) fs).map (ks ++ ·)else none
def jil (P:zQ):Nat->qI->Option (List K)|0,_=>none|d+1,t=>match P.underlying t with|some .bool=>some [.b]|some (.int k)=>some [.i k]|some (.float k)=>some [.f k]|some .string=>some [.s]|some (.struct fs)=>(match jgN (jil P d) P 0 fs.toList with|some ks=>if P.cellsOf t=ks.length then some ks else none|none=>none)|some (.array n e)=>(match jil P d e with|some ks=>if P.cellsOf t=n*ks.length∧P.cellsOf e=ks.length then some (zi n ks).flatten else none|none=>none)|_=>none
section
variable {H:Type} {enc:qI × zt->H} {P:zQ} {w:zs} {base:Nat} {spare:Nat->Bool} {held:Bool}
def jpK {ks:List K} {e:qI} {m:Nat} (ih:∀cs x,xB enc P w base spare held m e cs=some x->∃ds:List D,cs=ds.map D.val∧jbj ks ds) :
  ∀(n:Nat) (cs:List zt),cs.length=n*ks.length->(∀i,i<n->∃x,xB enc P w base spare held m e ((cs.drop (i*ks.length)).take ks.length)=some x)->∃ds:List D,cs=ds.map D.val∧jbj (zi n ks).flatten ds
 |0,cs,hl,_=>⟨[],by simpa using hl,trivial⟩
 |n+1,cs,hl,h=>by
  obtain⟨x,hx⟩:=h 0 (by omega);obtain⟨ds0,h0,h1⟩:=ih _ x hx
  obtain⟨ds1,h2,h3⟩:=jpK ih n (cs.drop ks.length) (by rw[List.length_drop,hl,qy];omega) (fun i hi=>by
   obtain⟨y,hy⟩:=h (i+1) (by omega);refine⟨y,?_⟩;rw[jV];rw[show ks.length+i*ks.length=(i+1)*ks.length by rw[qy];omega];exact hy)
  refine⟨ds0++ds1,?_,jfl h1 h3⟩;rw[qO,<-h0,<-h2];simp
def joa {g:qI->Option (List K)} {m:Nat} (ih:∀t ks cs x,g t=some ks->xB enc P w base spare held m t cs=some x->∃ds:List D,cs=ds.map D.val∧jbj ks ds) :
  ∀(fs:List Field) (n:Nat) (ks:List K) (cs:List zt),jgN g P n fs=some ks->cs.length=n+ks.length->(∀f∈fs,∃x,xB enc P w base spare held m f.type ((cs.drop f.offset).take (P.cellsOf f.type))=some x) -> ∃ds:List D,cs.drop n=ds.map D.val∧jbj ks ds
 |[],n,ks,cs,hk,hl,_=>by
  simp only[jgN,zk]at hk;subst hk;refine⟨[],?_,trivial⟩;simp at hl;simp[hl]
 |f::fs,n,ks,cs,hk,hl,h=>by
  simp only[jgN]at hk;split at hk
  ·cases hk
  ·rename_i kf hg;split at hk
   ·rename_i hc;cases hr:jgN g P (n+kf.length) fs with
    |none=>simp[hr]at hk
    |some kr =>
     simp only[hr,qn,zk]at hk;subst hk;obtain⟨x,hx⟩:=h f zy;rw[hc.1,hc.2]at hx;obtain⟨ds0,h0,h1⟩:=ih f.type kf _ x hg hx;obtain⟨ds1,h2,h3⟩:=joa ih fs (n+kf.length) kr cs hr (by rw[hl,z9];omega) (fun f' hf'=>h f' (zw _ hf'));refine⟨ds0++ds1,?_,jfl h1 h3⟩;rw[qO,<-h0,<-h2,<-jV];exact(List.take_append_drop _ _).symm
   ·cases hk
def jgD:∀(d:Nat) (t:qI) (ks:List K) (fuel:Nat) (cs:List zt) (x:DataW H × List gc),jil P d t=some ks->xB enc P w base spare held fuel t cs=some x -> ∃ds:List D,cs=ds.map D.val∧jbj ks ds
 |0,_,_,_,_,_,h,_=>by cases h
 |d+1,t,ks,fuel,cs,x,hk,hx=>by
  unfold jil at hk;split at hk
  ·rename_i ht;cases hk;obtain⟨b,rfl,_⟩:=DataW.trod_bool ht hx;exact⟨[.b b],rfl,trivial,trivial⟩
  ·rename_i k ht;cases hk;obtain⟨n,rfl,_,hw⟩:=DataW.trod_int ht hx;exact⟨[.i k n],rfl,⟨rfl,hw⟩,trivial⟩
  ·rename_i k ht;cases hk;cases fuel with
   |zero=>simp[xB]at hx
   |succ n =>
    rcases cs with _|⟨v,_|⟨v',r⟩⟩
    ·simp[xB,ht]at hx
    ·cases v with
     |float k2 n2 =>
      simp only[xB,ht]at hx;split at hx
      ·rename_i hh;exact⟨[.f k2 n2],rfl,⟨hh.1,hh.2⟩,trivial⟩
      ·cases hx
     |_=>simp[xB,ht]at hx
    ·simp[xB,ht]at hx
  ·rename_i ht;cases hk;obtain⟨z,rfl,_,hw⟩:=DataW.trod_string ht hx;exact⟨[.s z],rfl,hw,trivial⟩
  ·rename_i fs ht;split at hk
   ·rename_i ks' hks;split at hk
    ·rename_i hc;cases hk;obtain⟨xs,n,rfl,_,hl,hxl,hf⟩:=DataW.trod_struct ht hx
     have:=joa (enc:=enc) (w:=w) (base:=base) (spare:=spare) (held:=held) (g:=jil P d) (m:=n) (fun t ks cs x h1 h2=>jgD d t ks n cs x h1 h2) fs.toList 0 ks cs hks (by rw[hl,hc];omega) (fun f hfm=>by
      obtain⟨i,hi,hfi⟩:=xj.1 hfm;have hi':i<fs.size:=by simpa using hi
      have h1:=hf i f (by rw[Array.getElem?_eq_getElem hi'];simpa using hfi);exact⟨xs[i]'(by omega),by rw[h1,zG]⟩)
     simpa using this
    ·cases hk
   ·cases hk
  ·rename_i n e ht;split at hk
   ·rename_i ks' hks;split at hk
    ·rename_i hc;cases hk;obtain⟨xs,m,rfl,_,hl,hxl,hf⟩:=DataW.trod_array ht hx
     exact jpK (fun cs x h=>jgD d e ks' m cs x hks h) n cs (by rw[hl,hc.1]) (fun i hi=>by
      have h1:=hf i hi;rw[hc.2]at h1;exact⟨xs[i]'(by omega),by rw[h1,zG]⟩)
    ·cases hk
   ·cases hk
  ·cases hk
def jDW {t e:qI} {ks:List K} {d fuel:Nat} {cs:List zt} {x:DataW H × List gc} (ht:P.underlying t=some (.slice e)) (hk:jil P d e=some ks) (hc:P.cellsOf e=ks.length) (h0:0<ks.length)
  (hx:xB enc P w base spare held fuel t cs=some x) :
  ∃(v:zt) (rows:List (List D)),cs=[v]∧(∀r∈rows,jbj ks r)∧jaQ w v (.lits ks.length rows)∧(x.1=.nil∧rows=[]∨∃el sp,x.1=.slice el sp∧el.length=rows.length):=by
 rcases DataW.trod_slice ht hx with ⟨rfl,rfl⟩|⟨a,len,cap,elems,rest,n,rfl,rfl,rfl,hb,hl,hm,hel,hi,_,_⟩
 ·exact⟨_,[],rfl,(fun _ h=>by cases h),⟨none,0,rfl,⟨by simp[Cont.n],fun _=>rfl⟩,fun h=>absurd h (by simp[Cont.n])⟩,.inl ⟨rfl,rfl⟩⟩
 ·-- each element's cells
  have hget:∀i,i<len->∃ds:List D,jbj ks ds∧∀j,j<ks.length->w.cell? ((a.add (i*ks.length)).add j)=(ds[j]?).map D.val:=fun i hil=>by
   have h1:=hi i hil;rw[hc]at h1;have h2:elems[i]?=some (elems[i]'(by omega)):=zG (by omega);rw[h2]at h1;obtain⟨cs',hcs,htr⟩:=Option.bind_eq_some_iff.1 h1;obtain⟨ds,hds,hfit⟩:=jgD d e ks n cs' _ hk htr;obtain⟨_,hcl,hat⟩:=World.cells?_some hcs;refine⟨ds,hfit,fun j hj=>?_⟩;rw[hat j hj,hds,List.getElem?_map]
  let R:Nat->List D:=fun i=>if h:i<len then jr (hget i h)else[]
  have hR:∀i (h:i<len),jbj ks (R i)∧∀j,j<ks.length->w.cell? ((a.add (i*ks.length)).add j)=((R i)[j]?).map D.val:=fun i h=>by
   show jbj ks (if h:i<len then _ else _)∧_
   simp only[R,dif_pos h];exact jW (hget i h)
  refine⟨_,(zo len).map R,rfl,fun r hr=>?_,?_,.inr ⟨_,_,rfl,by simp[hel]⟩⟩
  ·obtain⟨i,hi',rfl⟩:=qm.1 hr;exact(hR i (by simpa using hi')).1
  ·refine⟨some a,cap,by simp[Cont.n],⟨by simpa [Cont.n]using hl,fun h=>by cases h⟩,fun hn=>?_⟩;have hn:0<len:=by simpa [Cont.n]using hn
   have hsp:a.spot=none:=by
    have h1:=(hR 0 hn).2 0 h0;have hfl:=jfm (hR 0 hn).1;rw[zG (by omega)]at h1;simp[Addr.add]at h1;cases hs:a.spot with
    |none=>rfl
    |some s =>
     exfalso;unfold World.cell? at h1;simp only[hs]at h1;split at h1
     ·simp at h1
     ·cases h1
   obtain⟨b,off,sp⟩:=a;simp only at hsp;subst hsp;refine⟨b,off,rfl,fun j y hj=>?_⟩;have hne:0<ks.length:=h0;have hjl:j<(Cont.lits ks.length ((zo len).map R)).flat.length:=(zA.1 hj).1;rw[Cont.flat_length]at hjl;simp only[Cont.n,Cont.e,qr,yq]at hjl;have hq:j/ks.length<len:=ym (by rw[xN];exact hjl);have hr:j%ks.length<ks.length:=x9 _ hne;have hg:=Cont.flat_get (.lits ks.length ((zo len).map R)) (i:=j/ks.length) (j:=j%ks.length) (by simpa [Cont.n]using hq) hr;have ej:j/ks.length*ks.length+j%ks.length=j:=by rw[xN];exact yG j _
   simp only[Cont.e]at hg;rw[ej,hj]at hg;have hcell:=(hR (j/ks.length) hq).2 (j%ks.length) hr;have hfl:=jfm (hR (j/ks.length) hq).1;rw[jaX,jaX,Nat.add_assoc,ej,zG (by omega)]at hcell;rw[hcell];simp only[zk]at hg;simp[hg,Cont.cell,za,hq,zG (show j%ks.length<(R (j/ks.length)).length by omega)]
def jyu {v:zt} {c c':Cont} (h:jaQ w v c) (hn:c'.n=c.n) (hf:c'.flat=c.flat):jaQ w v c':=by
 obtain⟨a,cap,hv,hc,hcell⟩:=h
 exact⟨a,cap,by rw[hn];exact hv,by rw[hn];exact hc,fun h=>by
  obtain⟨b,off,e,hx⟩:=hcell (by rw[<-hn];exact h);exact⟨b,off,e,by rw[hf];exact hx⟩⟩
def jAu:∀{n:Nat} {r:List D},jbj (zi n (.i .i64)) r->∃l:List Int,r=l.map (D.i .i64)∧l.length=n∧∀x∈l,inI x
 |0,[],_=>⟨[],rfl,rfl,fun _ h=>by cases h⟩
 |n+1,.i k x::r,h=>by
  obtain⟨l,h1,h2,h3⟩:=jAu (n:=n) h.2;obtain⟨rfl,hw⟩:=h.1;refine⟨x::l,by rw[h1];rfl,by simp[h2],fun y hy=>?_⟩;rcases qu.1 hy with rfl|hy
  ·unfold inI;simpa [Lit.wf,fV,fW,gp,gW]using hw
  ·exact h3 y hy
 |0,_::_,h=>h.elim
 |_+1,[],h=>h.elim
 |_+1,.b _::_,h=>h.1.elim
 |_+1,.f _ _::_,h=>h.1.elim
 |_+1,.s _::_,h=>h.1.elim
 |_+1,.v _::_,h=>h.1.elim
def jDX {n:Nat} {rows:List (List D)} (h:∀r∈rows,jbj (zi n (.i .i64)) r):∃l:List (List Int),rows=l.map (fun r=>r.map (D.i .i64))∧l.length=rows.length∧∀r∈l,r.length=n∧∀x∈r,inI x:=by
 induction rows with
 |nil=>exact⟨[],rfl,rfl,fun _ h=>by cases h⟩
 |cons r rows ih =>
  obtain⟨l,h1,h2,h3⟩:=ih fun r hr=>h r (zw _ hr);obtain⟨x,h4,h5,h6⟩:=jAu (h r zy);refine⟨x::l,by rw[h1,h4];rfl,by simp[h2],fun y hy=>?_⟩;rcases qu.1 hy with rfl|hy
  ·exact⟨h5,h6⟩
  ·exact h3 y hy
def jDY {n:Nat} {l:List (List Int)} (h:∀r∈l,r.length=n):(Cont.recs n l).flat=(Cont.lits n (l.map fun r=>r.map (D.i .i64))).flat:=by
 simp only[Cont.flat]
 induction l with
 |nil=>rfl
 |cons r l ih =>
  rw[xH,zJ,xH,ih fun r hr=>h r (zw _ hr)]
  congr 1
  have hr:=h r zy;subst hr;rw[jmf];exact(litD_self' (r.map (D.i .i64)) (by simp)).symm
 where
 litD_self' {n:Nat} (r:List D) (h:r.length=n):jjY n r=r:=by subst h;exact jmg r
end
inductive ArgIs (w:zs):zt->A->Prop where
 |d (x:D):ArgIs w x.val (.d x)
 |s (l:List D):ArgIs w (.agg (l.map D.val).toArray) (.s l)
 |r (v:zt) (c:Cont) (he:0<c.e) (h:jaQ w v c):ArgIs w v (.r c)
section
variable [Globs] {P:zQ} {w:zs}
end
section
variable {H:Type} {enc:qI × zt->H} {P:zQ}
def jyv {sp:Nat->Bool} (hl:laidOutB P=true) {W W':zs} (hb:x8 W.heap.size W W'):∀(ts:List qI) (vs:List zt) (ds:List (DataW H)) (ps:List gc),(∀t∈ts,P.readableRec t=true∧t<P.types.size) -> gG enc P W 0 (fun _=>true) true ts vs ds ps->(∀p∈ps,p.block<W.heap.size)->(∀p∈ps,sp p.block=true)->gG enc P W' 0 sp true ts vs ds ps
 |[],[],[],_,_,h,_,_=>h
 |t::ts,v::vs,d::ds,ps,ht,h,hlt,hs=>by
  obtain⟨p,q,h1,h2,rfl⟩:=h;have htt:=ht t zy
  exact⟨p,q,WideElems.Trod_stays hl htt.1 htt.2 h1 (fun x hx=>hb.same (hlt x (yn _ hx))) (fun x hx=>hs x (yn _ hx)),jyv hl hb ts vs ds q (fun t ht'=>ht t (zw _ ht')) h2 (fun x hx=>hlt x (yg _ hx)) (fun x hx=>hs x (yg _ hx)),rfl⟩
 |[],_::_,_,_,_,h,_,_=>h.elim
 |_::_,[],_,_,_,h,_,_=>h.elim
 |[],[],_::_,_,_,h,_,_=>h.elim
 |_::_,_::_,[],_,_,h,_,_=>h.elim
def jGp {f:Func} {s:ChangeSpec} {apart fresh handsOn again:Bool} {W W':zs} {args:Array zt} {ds gs:List (DataW H)} {before:List gc} {tb:qI} (hvars:s.vars=[]) (hrt:f.resultTypes=#[tb]) (htb:P.underlying tb=some .bool)
  (hres:(s.fn H (ds++gs)).results=[.lit (.bool true)]) (hargs:(s.fn H (ds++gs)).args=ds) (hsv:(s.fn H (ds++gs)).vars=[]) (hl:laidOutB P=true) (hread:∀t∈f.params.toList,P.readableRec t=true∧t<P.types.size)
  (hW:DataW.Whole enc P f.params.toList s.vars apart W args.toList ds gs before) (hb:x8 W.heap.size W W'):s.post enc P f apart fresh handsOn again W args (.bool true) W':=by
 have hlt:∀p∈before,p.block<W.heap.size:=fun p hp=>hW.lt p hp;have hW':=hW;obtain⟨p,q,h1,h2,rfl,hfz,hnd⟩:=hW';rw[hvars]at h2
 have hq:q=[]:=by
  cases gs with
  |nil=>exact h2
  |cons _ _=>exact h2.elim
 subst hq;rw[List.append_nil]at hlt hfz hnd;have hA:∀sp:Nat->Bool,(∀x∈p,sp x.block=true)->gG enc P W' 0 sp true f.params.toList args.toList ds p:=fun sp hs=>jyv hl hb _ _ _ _ hread h1 hlt hs;have hR:∀(b:Nat) (sp:Nat->Bool) (hd:Bool),gG enc P W' b sp hd [tb] [.bool true] [.lit (.bool true)] []:=fun b sp hd=>⟨[],[],⟨1,by simp[xB,htb,fS]⟩,rfl,rfl⟩
 have hrl:(Value.bool true).resultList f.resultTypes.size=[.bool true]:=by rw[hrt];rfl
 have hrt':f.resultTypes.toList=[tb]:=by rw[hrt]
 refine⟨ds,gs,p++[],[],p,[],hW,?_,?_,?_,World.keptBut_mono (fun x hx=>⟨hx,.inr (.inl (by simpa using hx))⟩) (hb.frame (·∈ p++[])),fun _=>⟨fun j t r hj hr=>?_,?_⟩⟩
 ·rw[hrl,hrt',hres];exact hR _ _ _
 ·rw[hargs];exact hA _ (fun x hx=>by simpa using hlt x hx)
 ·rw[hvars,hsv];rfl
 ·rw[hrt]at hj;rw[hrl]at hr;cases j with
  |zero =>
   simp at hj hr;subst hj;subst hr;exact okWide_bool_mk htb _
  |succ j=>simp at hj
 ·refine⟨[.lit (.bool true)]++ds,[],p,⟨p,[],?_,by rw[hvars];rfl,by simp,?_,?_⟩,fun x hx _=>by simpa using hx⟩
  ·rw[hrl,hrt'];exact⟨[],p,⟨1,by simp[xB,htb,fS]⟩,hA _ (fun _ _=>rfl),rfl⟩
  ·intro b off hp;rw[hb.frozen (hlt _ hp)];exact hfz b off hp
  ·exact hnd
end
section
variable {H:Type} {enc:qI × zt->H} {P:zQ} {w:zs} {base:Nat} {spare:Nat->Bool} {held:Bool} {r:Reach} {b0:Nat}
def jHv {t:qI} {v:zt} {x:DataW H} {p:List gc} (ht:P.underlying t=some (.int .i64)) (hval:Value.okWide P w r b0 t v) (h:DataW.Trod enc P w base spare held t v x p) :
  ∃n:Int,ArgIs w v (.d (.i .i64 n))∧inI n:=by
 obtain⟨n,rfl,_,_,hw⟩:=open_int ht hval h;refine⟨n,.d (.i .i64 n),?_⟩;unfold inI;simpa [Lit.wf,fV,fW,gp,gW]using hw
end
end Go.Sx
end
