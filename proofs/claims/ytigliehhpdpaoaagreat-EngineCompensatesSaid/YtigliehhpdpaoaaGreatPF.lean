/- Part 6 of the proof of EngineCompensates: the executor, the mirrors of the functions, the plain facts. -/
import Derived.Test.YtigliehhpdpaoaaGreatPE
import Derived.RangeFuncNested
import Derived.RangeFuncBound
import Derived.RangeFuncCalls
import Derived.RangeFuncLeaves
import Derived.OwnWalkIn
import Derived.TacticsInMore
import Derived.OrdersIn
import Derived.OrdersHeld
import Derived.Carry
import Derived.ChangeArms
import Derived.OpenShut
import Derived.ChangeShapes
import Derived.ChangeSame
import Derived.SizedLaws
import Derived.WideShapes
set_option maxRecDepth 100000
set_option linter.unusedSectionVars false
set_option linter.unusedSimpArgs false
set_option linter.unusedVariables false
set_option linter.defProp false
open Array renaming getElem?_eq_getElem->qE,replicate->xe
open Bool renaming and_eq_true->zk,not_eq_true'->xK
open ByteArray renaming empty->xB,mk->qi
open Classical renaming choose->jr,choose_spec->jT
open Eq renaming mp->jJ
open Go renaming Code->yb,Deferred->x7,Exit->jP,MemPlace->gq,Oper->zX,Operand->zH,Program->zy,TypeId->qf,Value->zF,World->zx,execOp->qr,undef->qe,wp_mono->xG,wp_seq->gP
open Go.Act renaming put->yW
open Go.Addr renaming add->j7
open Go.DataW renaming TrodAll->gE,trod->xz,trod_array->fR,trod_slice->fT,trod_struct->gy
open Go.FloatKind renaming nearest->jI
open Go.IntKind renaming bits->kG,i64->xF,max->kN,min->kM,signed->ku
open Go.Oper renaming upon->fh,wp->jv
open Go.Region renaming ready->yi,wanted->xy
open Go.Result renaming andThen_ok->zh
open Go.RowKit renaming Below->xA
open Go.RowKit.Below renaming refl->qO
open Go.Sem renaming run_bind->zn,run_pure->zp
open Go.Value renaming cells->fZ,okWide->kH,slice->qc
open Go.World renaming block_lt_of_cell?->qj,cell?->fc,cell?_of_block->qp,cells?_some->fG
open Int renaming toNat->zf,toNat_natCast->zm
open List renaming all_eq_true->zq,any_cons->jb,any_eq_false->xL,drop_drop->jf,drop_eq_nil_of_le->yV,eq_nil_of_length_eq_zero->qk,ext_getElem->yw,flatMap_cons->xp,getD->za,getElem?_eq_getElem->zJ,getElem?_eq_none->z9,getElem?_eq_some_iff->zB,getElem?_set_ne->fd,headD->kt,length->zg,length_append->qb,length_cons->z4,length_drop->xf,length_nil->qD,length_set->hC,map->ko,map_append->xb,map_congr_left->z8,map_cons->zM,map_nil->qR,mem_append->qq,mem_append_left->yk,mem_append_right->x6,mem_cons->qv,mem_cons_of_mem->zR,mem_cons_self->zV,mem_iff_getElem->yl,mem_map->qu,mem_range->xw,mem_singleton->zY,range->zG,replicate->zr,set->xM,take_append_drop->xi
open Nat renaming add_assoc->qU,add_mul->qo,beq->zt,div_add_mod->yC,div_lt_of_lt_mul->xW,eq_of_beq_eq_true->zb,le_of_ble_eq_true->zj,le_refl->zu,le_succ->qt,le_trans->qx,lt_of_lt_of_le->zC,lt_succ_self->zo,mod_lt->ya,mul_comm->xJ,not_lt_zero->xZ,zero_le->qI,zero_mul->qQ
open Option renaming bind->ze,bind_eq_some_iff->zD,map_some->zQ
open Option.some renaming inj->xT,injEq->zi
open Sum renaming elim->qZ
noncomputable section
section
namespace Go.Sh
open Go Go.Proofs Go.RowKit Go.Sx
open Go.IntKind (wrap)
variable {g:List (List NC)} {l:List Int}
def jhg {X Y X' Y':Type} {body:X->Option (X ⊕ Y)} {body':X'->Option (X' ⊕ Y')} (Rel:Nat->X->X'->Prop) (post:Y->Y'->Prop)
  (h:∀m x x',Rel m x x'->(∃y y',body x=some (.inr y)∧body' x'=some (.inr y')∧post y y')∨(∃m' x1 x1',m=m' + 1∧body x=some (.inl x1)∧body' x'=some (.inl x1')∧Rel m' x1 x1')) :
  ∀(m:Nat) (x:X) (x':X') (N N':Nat),m<N->m<N'->Rel m x x'->∃y y',jag body N x=some y∧jag body' N' x'=some y'∧post y y'
 |m,x,x',0,_,hN,_,_=>absurd hN (by omega)
 |m,x,x',_+1,0,_,hN,_=>absurd hN (by omega)
 |m,x,x',N+1,N' + 1,h1,h2,hr=>by
  unfold jag;rcases h m x x' hr with ⟨y,y',e,e',hp⟩|⟨m',x1,x1',rfl,e,e',hr'⟩
  ·rw[e,e'];exact⟨y,y',rfl,rfl,hp⟩
  ·rw[e,e'];exact jhg Rel post h m' x1 x1' N N' (by omega) (by omega) hr'
def jfZ {i:Nat} (h:jbg g i=0):jfi (nI g i 1) (nL g i 2).length (nL g i 3).length (nL g i 4).length=true∧jcj (nI g i 1) (nL g i 3) (nL g i 4) (nI g i 5)=true∧jg6 (nL g i 2)=false∧inB (nI g i 1) 0 4=true:=by
 unfold jbg at h
 repeat' (split at h)
 all_goals first|omega|skip
 all_goals
  rename_i h1 h2 h3 h4 h5 h6 h7 h8 h9 h10;simp at *
 all_goals simp_all
def jfm {i:Nat} (h:jbg g i=0):(nL g i 3).length=(nL g i 2).length∧((nL g i 2).length=0<->nI g i 1=0):=by
 have h1:=(jfZ h).1;unfold jfi at h1;split at h1
 ·rename_i hk;simp only[inB,zk,decide_eq_true_eq,beq_iff_eq]at h1 hk;omega
 ·rename_i hk;split at h1
  all_goals
   simp only[inB,zk,decide_eq_true_eq,beq_iff_eq]at h1 hk;omega
def ji0 {i:Nat} (h:jbg g i=0):(∀k,k<(nL g i 3).length->0<=(nL g i 3).getD k 0∧(nL g i 3).getD k 0<=64)∧0<=nI g i 5∧nI g i 5<=64:=by
 have h1:=(jfZ h).2.1;unfold jcj at h1;rw[zk,zk,zk]at h1;obtain⟨⟨⟨ha,_⟩,hd⟩,_⟩:=h1;simp only[inB,zk,decide_eq_true_eq]at hd;refine⟨fun k hk=>?_,hd⟩;rw[xK,xL]at ha;have:=ha ((nL g i 3).getD k 0) (by simp[za,hk])
 generalize (nL g i 3).getD k 0=c at *
 simp only[inB,Bool.not_eq_true,Bool.not_eq_false',zk,decide_eq_true_eq]at this;exact this
inductive WayTo (g:List (List NC)):List Int->Int->Nat->Prop where
 |one {i:Nat} (hi:i<g.length) (h:nI g i 1=0):WayTo g [(i:Int)] 0 i
 |on {w:List Int} {n:Int} {u i k:Nat} (h:WayTo g w n u) (hi:i<g.length) (hk:k<(nL g i 2).length) (he:(nL g i 2).getD k 0=(u:Int)):WayTo g (w++[(i:Int)]) (n+((nL g i 3).getD k 0+nI g i 5)) i
def WayTo.bound (hall:∀i,i<g.length->jbg g i=0) {w:List Int} {n:Int} {i:Nat} (h:WayTo g w n i):0<=n∧n<=128*(w.length:Int)∧i<g.length∧1<=w.length:=by
 induction h with
 |one hi h=>simp;omega
 | @on w n u i k h hi hk he ih =>
  obtain⟨h1,h2,h3⟩:=ji0 (hall i hi);have:=h1 k (by have:=(jfm (hall i hi)).1;omega);simp only[qb,z4,qD];omega
def jqw (w:List Int) (n:Int):List NC:=[.r (.ints .i64 w),.d (.i .i64 n)]
def jpk (A:List (List NC)) (i u:Nat) (w:List Int) (n:Int) (hi:i<A.length):nI (A.set i (jqw w n)) u 1=if i=u then n else nI A u 1:=by
 unfold nI;rw[jaT _ _ _ _ _ hi];split<;>rfl
def jpl (A:List (List NC)) (i u:Nat) (w:List Int) (n:Int) (hi:i<A.length):nL (A.set i (jqw w n)) u 0=if i=u then w else nL A u 0:=by
 unfold nL;rw[jaT _ _ _ _ _ hi];split<;>rfl
def jcX (g A:List (List NC)) (O:List Int) (u p:Nat):Prop:=nI A u 1=O.getD u 0∧WayTo g (nL A u 0) (nI A u 1) u∧(nL A u 0).length<=p+1
def jnQ (g:List (List NC)) (O:List Int) (i m:Nat):Prop:=∀k v:Nat,k<m->(nL g i 2).getD k 0=(v:Int)->O.getD v 0+((nL g i 3).getD k 0+nI g i 5)=O.getD i 0
structure InvW (g:List (List NC)) (l:List Int) (j:Nat) (A:List (List NC)) (O:List Int):Prop where
 la:A.length=g.length
 lo:O.length=g.length
 don:∀p u:Nat,p<j->l.getD p 0=(u:Int)->jcX g A O u p
 new:∀p u:Nat,j<=p->p<g.length->l.getD p 0=(u:Int)->O.getD u 0=0
 con:∀p u:Nat,p<j->l.getD p 0=(u:Int)->jnQ g O u (nL g u 2).length∧((nL g u 2).length=0->O.getD u 0=0)
def jty (g:List (List NC)) (y:Int × Int × List Int × List Int):Prop:=∃i:Nat,WayTo g y.2.2.1 y.1 i∧WayTo g y.2.2.2 y.2.1 i∧y.1≠y.2.1∧y.2.2.1.length<=g.length∧y.2.2.2.length<=g.length
def toE {w:List Int} {n b:Int} {i:Nat} (hw:w.length<100000) (hn:-1000000000<=n+b∧n+b<=1000000000):y48 w n (i:Int) b=some (w++[(i:Int)],n+b):=by
 unfold y48 jaI;rw[if_pos (by omega),jad,if_pos (by simp only[z4,qD];omega),jaF (by omega)]
def jCG (h:Rg g l) {j i:Nat} (hj:j<g.length) (hi:i<g.length) (e:l.getD j 0=(i:Int)) (X:List (List NC)) (X':List Int) (A0:List (List NC)) (O0:List Int)
  (hA:A0.length=g.length) (hO:O0.length=g.length) (hd:∀p u:Nat,p<j->l.getD p 0=(u:Int)->jcX g A0 O0 u p) (hn:∀p u:Nat,j<=p->p<g.length->l.getD p 0=(u:Int)->O0.getD u 0=0)
  (hz:(nL g i 2).length=0->jcX g A0 O0 i j) (hcon:∀p u:Nat,p<j->l.getD p 0=(u:Int)->jnQ g O0 u (nL g u 2).length∧((nL g u 2).length=0->O0.getD u 0=0)) :
  ∃y y',jag (y17 g l ((j:Int),X)) big ((0:Int),A0)=some y∧jag (jbt g ((j:Int),X') (l,true)) big ((0:Int),O0)=some y' ∧
   ((∃d,y=.inl d∧y'=.inl ()∧jty g d)∨(∃A O,y=.inr A∧y'=.inr O∧InvW g l (j+1) A O)):=by
 have hgn:=h.n;have hL:=h.len;have hfr:=h.fw.fr i hi;obtain⟨hal,_⟩:=jfm (h.ok i hi);obtain⟨ra,rd1,rd2⟩:=ji0 (h.ok i hi)
 refine jhg (fun m (x:Int × List (List NC)) (x':Int × List Int)=>∃k:Nat,k+m=(nL g i 2).length∧x.1=(k:Int)∧x'.1=(k:Int)∧x.2.length=g.length∧x'.2.length=g.length ∧
   (∀p u:Nat,p<j->l.getD p 0=(u:Int)->jcX g x.2 x'.2 u p)∧(∀p u:Nat,j+1<=p->p<g.length->l.getD p 0=(u:Int)->x'.2.getD u 0=0)∧(((nL g i 2).length=0∨0<k)->jcX g x.2 x'.2 i j) ∧
   (∀p u:Nat,p<j->l.getD p 0=(u:Int)->jnQ g x'.2 u (nL g u 2).length∧((nL g u 2).length=0->x'.2.getD u 0=0))∧jnQ g x'.2 i k∧((nL g i 2).length=0->x'.2.getD i 0=0)) _ (fun m x x' hr=>?_) (nL g i 2).length _ _ big big (by have:big=18446744073709551616:=rfl;omega) (by have:big=18446744073709551616:=rfl;omega)
   ⟨0,by omega,rfl,rfl,hA,hO,hd,fun p u h1 h2 h3=>hn p u (by omega) h2 h3,fun hh=>hz (by omega),hcon,fun k v hk=>absurd hk (by omega),fun _=>hn j i (zu _) hj e⟩
 obtain⟨a,A⟩:=x;obtain⟨a',O⟩:=x';obtain⟨k,hk,h1,h2,hA,hO,hd,hn,hg,hcn,hci,hcz⟩:=hr;obtain rfl:a=(k:Int):=h1;obtain rfl:a'=(k:Int):=h2;have hA:A.length=g.length:=hA;have hO:O.length=g.length:=hO
 by_cases hkn:k<(nL g i 2).length
 ·obtain⟨j',u,hj',hu,e2,e3⟩:=h.from hj e hi hkn;obtain⟨g1,g2,g3⟩:=hd j' u hj' e3;have g1:nI A u 1=O.getD u 0:=g1;have g2:WayTo g (nL A u 0) (nI A u 1) u:=g2;have g3:(nL A u 0).length<=j' + 1:=g3;obtain⟨b1,b2,b3,b4⟩:=g2.bound h.ok;have hak:=ra k (by omega);have hway:=WayTo.on g2 hi hkn e2
  generalize hc:(nL g i 3).getD k 0=c at *
  have hto:y48 (nL A u 0) (nI A u 1) (i:Int) (wrap xF (c+nI g i 5))=some (nL A u 0++[(i:Int)],nI A u 1+(c+nI g i 5)):=by
   rw[jaF (by omega),toE (by omega) (by omega)]
  have hlen2:(nL A u 0++[(i:Int)]).length<=j+1:=by
   simp only[qb,z4,qD];omega
  have hwr:wrap xF (wrap xF (O.getD u 0+c)+nI g i 5)=nI A u 1+(c+nI g i 5):=by
   rw[<-g1,jaF (x:=nI A u 1+c) (by omega),jaF (by omega)];omega
  have hne:∀p v:Nat,p<j->l.getD p 0=(v:Int)->i≠v:=fun p v hp hv=>jlE h hj hp e hv
  have hnext:∀(A':List (List NC)) (O':List Int),A'.length=g.length->O'.length=g.length->(∀v:Nat,i≠v->nI A' v 1=nI A v 1∧nL A' v 0=nL A v 0∧O'.getD v 0=O.getD v 0)->jcX g A' O' i j->jnQ g O' i (k+1) ->
    ∃k':Nat,k' + (m-1)=(nL g i 2).length∧(k:Int)+1=(k':Int)∧(k:Int)+1=(k':Int)∧A'.length=g.length∧O'.length=g.length ∧
     (∀p u:Nat,p<j->l.getD p 0=(u:Int)->jcX g A' O' u p)∧(∀p u:Nat,j+1<=p->p<g.length->l.getD p 0=(u:Int)->O'.getD u 0=0)∧(((nL g i 2).length=0∨0<k')->jcX g A' O' i j) ∧
     (∀p u:Nat,p<j->l.getD p 0=(u:Int)->jnQ g O' u (nL g u 2).length∧((nL g u 2).length=0->O'.getD u 0=0))∧jnQ g O' i k'∧((nL g i 2).length=0->O'.getD i 0=0):=by
   intro A' O' q1 q2 q3 q4 q5;refine⟨k+1,by omega,by omega,by omega,q1,q2,fun p v hp hv=>?_,fun p v hp hp2 hv=>?_,fun _=>q4,fun p v hp hv=>?_,q5,fun hh=>absurd hkn (by omega)⟩
   rotate_left 2
   ·have hvn:v<g.length:=by
     obtain⟨v',hv',ev,_⟩:=h.at (j:=p) (by omega);rw[hv]at ev;omega
    obtain⟨c1,c2⟩:=hcn p v hp hv;refine⟨fun k2 v2 hk2 hv2=>?_,fun hh=>by rw[(q3 v (hne p v hp hv)).2.2];exact c2 hh⟩;obtain⟨j3,u3,hj3,_,e5,e6⟩:=h.from (by omega) hv hvn hk2
    have hu3:u3=v2:=by
     rw[hv2]at e5;omega
    subst hu3;rw[(q3 v (hne p v hp hv)).2.2,(q3 u3 (hne j3 u3 (by omega) e6)).2.2];exact c1 k2 u3 hk2 hv2
   ·obtain⟨z1,z2,z3⟩:=q3 v (hne p v hp hv);obtain⟨w1,w2,w3⟩:=hd p v hp hv;exact⟨by rw[z1,z3];exact w1,by rw[z1,z2];exact w2,by rw[z2];exact w3⟩
   ·have:i≠v:=fun ev=>by
     have:=jlE h hp2 (j':=j) (by omega) hv e;omega
    rw[(q3 v this).2.2];exact hn p v hp hp2 hv
  by_cases hk0:k=0
  ·right;subst hk0
   have q:=hnext (A.set i (jqw (nL A u 0++[(i:Int)]) (nI A u 1+(c+nI g i 5)))) (O.set i (nI A u 1+(c+nI g i 5))) (by simp[hA]) (by simp[hO]) (fun v hv=>by
    rw[jpk _ _ _ _ _ (by omega),jpl _ _ _ _ _ (by omega),jaT _ _ _ _ _ (by omega),if_neg hv,if_neg hv,if_neg hv];exact⟨rfl,rfl,rfl⟩) (by
    unfold jcX;rw[jpk _ _ _ _ _ (by omega),jpl _ _ _ _ _ (by omega),jaT _ _ _ _ _ (by omega),if_pos rfl,if_pos rfl,if_pos rfl];exact⟨rfl,hway,hlen2⟩) (fun k2 v2 hk2 hv2=>by
    obtain rfl:k2=0:=by omega
    rw[e2]at hv2;obtain rfl:u=v2:=by omega
    have hiu:=hne j' u hj' e3;rw[jaT _ _ _ _ _ (by omega),jaT _ _ _ _ _ (by omega),if_neg hiu,if_pos rfl,hc,<-g1])
   refine⟨m-1,(_,A.set i (jqw (nL A u 0++[(i:Int)]) (nI A u 1+(c+nI g i 5)))),(_,O.set i (nI A u 1+(c+nI g i 5))),by omega,?_,?_,q⟩
   ·unfold y17;simp only[zm,e,e2,hc];rw[if_pos (by omega),if_pos (by omega),if_pos hkn,if_pos (by omega),if_pos (by omega),if_pos (by omega),if_pos (by omega),hto,jad,if_pos (by simp),if_pos (by omega),if_pos (by omega),jaF (by omega)];rfl
   ·unfold jbt;simp only[zm,e,e2,hc];rw[if_pos (by omega),if_pos (by omega),if_pos hkn,if_pos (by omega),if_pos (by omega),if_pos (by omega),if_pos (by omega),if_neg (by omega),if_pos (by omega),if_pos (by omega),if_pos (by omega),if_pos (by omega),hwr,jaF (by omega)]
  ·obtain⟨w1,w2,w3⟩:=hg (.inr (by omega));have w1:nI A i 1=O.getD i 0:=w1
   by_cases hcl:nI A u 1+(c+nI g i 5)=nI A i 1
   ·right
    have q:=hnext A (O.set i (nI A u 1+(c+nI g i 5))) hA (by simp[hO]) (fun v hv=>by
     rw[jaT _ _ _ _ _ (by omega),if_neg hv];exact⟨rfl,rfl,rfl⟩) (by
     unfold jcX;rw[jaT _ _ _ _ _ (by omega),if_pos rfl];exact⟨hcl.symm,w2,w3⟩) (fun k2 v2 hk2 hv2=>by
     obtain⟨j3,u3,hj3,_,e5,e6⟩:=h.from hj e hi (show k2<(nL g i 2).length by omega)
     have hu3:u3=v2:=by
      rw[hv2]at e5;omega
     subst hu3;have hiu:=hne j3 u3 hj3 e6;rw[jaT _ _ _ _ _ (by omega),jaT _ _ _ _ _ (by omega),if_neg hiu,if_pos rfl,hcl,w1]
     by_cases hk3:k2=k
     ·subst hk3;rw[e2]at hv2;obtain rfl:u=u3:=by omega
      rw[hc,<-g1,hcl,w1]
     ·exact hci k2 u3 (by omega) hv2)
    refine⟨m-1,(_,A),(_,O.set i (nI A u 1+(c+nI g i 5))),by omega,?_,?_,q⟩
    ·unfold y17;simp only[zm,e,e2,hc];rw[if_pos (by omega),if_pos (by omega),if_pos hkn,if_pos (by omega),if_pos (by omega),if_pos (by omega),if_pos (by omega),hto,jad,if_neg (by simp;omega),if_pos (by omega),if_pos (by omega),if_neg (by simp[hcl]),jaF (by omega)]
    ·unfold jbt;simp only[zm,e,e2,hc];rw[if_pos (by omega),if_pos (by omega),if_pos hkn,if_pos (by omega),if_pos (by omega),if_pos (by omega),if_pos (by omega),if_pos (by omega),if_pos (by omega),if_pos (by omega),if_pos (by omega),if_pos (by omega),hwr,if_neg (by rw[hcl,w1];simp),if_pos (by omega),if_pos (by omega),if_pos (by omega),if_pos (by omega),jaF (by omega)]
   ·left;refine⟨.inl (nI A i 1,nI A u 1+(c+nI g i 5),nL A i 0,nL A u 0++[(i:Int)]),.inl (),?_,?_,.inl ⟨_,rfl,rfl,i,w2,hway,fun hh=>hcl hh.symm,by show(nL A i 0).length<=_;have:(nL A i 0).length<=j+1:=w3;omega,by show(nL A u 0++[(i:Int)]).length<=_;omega⟩⟩
    ·unfold y17;simp only[zm,e,e2,hc];rw[if_pos (by omega),if_pos (by omega),if_pos hkn,if_pos (by omega),if_pos (by omega),if_pos (by omega),if_pos (by omega),hto,jad,if_neg (by simp;omega),if_pos (by omega),if_pos (by omega),if_pos (by simpa using hcl),if_pos (by omega),if_pos (by omega)]
    ·unfold jbt;simp only[zm,e,e2,hc];rw[if_pos (by omega),if_pos (by omega),if_pos hkn,if_pos (by omega),if_pos (by omega),if_pos (by omega),if_pos (by omega),if_pos (by omega),if_pos (by omega),if_pos (by omega),if_pos (by omega),if_pos (by omega),hwr,if_pos (by rw[<-w1];simpa using hcl)]
 ·left
  have hd':∀p u:Nat,p<j+1->l.getD p 0=(u:Int)->jcX g A O u p:=fun p u hp hu=>by
   by_cases hpj:p=j
   ·subst hpj;rw[e]at hu;obtain rfl:i=u:=by omega
    exact hg (by omega)
   ·exact hd p u (by omega) hu
  refine⟨.inr A,.inr O,?_,?_,.inr ⟨A,O,rfl,rfl,⟨hA,hO,hd',hn,fun p u hp hu=>by
   by_cases hpj:p=j
   ·subst hpj;rw[e]at hu;obtain rfl:i=u:=by omega
    obtain rfl:k=(nL g i 2).length:=by omega
    exact⟨hci,hcz⟩
   ·exact hcn p u (by omega) hu⟩⟩⟩
  ·unfold y17;simp only[zm,e];rw[if_neg (by omega)]
  ·unfold jbt;simp only[zm,e];rw[if_neg (by omega)]
def waysL (h:Rg g l):∃y y',jag (y18 g l) big ((0:Int),zr g.length (jqw [] 0))=some y∧jag (jck g (l,true)) big ((0:Int),zr g.length 0)=some y' ∧
   ((∃d,y=.inl d∧y'=.inl ()∧jty g d)∨(∃A O,y=.inr A∧y'=.inr O∧InvW g l g.length A O)):=by
 have hgn:=h.n;have hL:=h.len
 refine jhg (fun m (x:Int × List (List NC)) (x':Int × List Int)=>∃j:Nat,j+m=g.length∧x.1=(j:Int)∧x'.1=(j:Int)∧InvW g l j x.2 x'.2) _ (fun m x x' hr=>?_) g.length _ _ big big (by have:big=18446744073709551616:=rfl;omega) (by have:big=18446744073709551616:=rfl;omega)
   ⟨0,by omega,rfl,rfl,by simp,by simp,fun p u hp=>absurd hp (by omega),fun p u _ _ _=>by
    simp only[za,List.getElem?_replicate];split<;>rfl,fun p u hp=>absurd hp (by omega)⟩
 obtain⟨a,A⟩:=x;obtain⟨a',O⟩:=x';obtain⟨j,hj,h1,h2,hI⟩:=hr;obtain rfl:a=(j:Int):=h1;obtain rfl:a'=(j:Int):=h2;obtain⟨hA,hO,hd,hn,hcn⟩:=hI;have hA:A.length=g.length:=hA;have hO:O.length=g.length:=hO
 by_cases hjn:j<g.length
 ·obtain⟨i,hi,e,_⟩:=h.at hjn;obtain⟨_,hk0⟩:=jfm (h.ok i hi);have hne:∀p v:Nat,p<j->l.getD p 0=(v:Int)->i≠v:=fun p v hp hv=>jlE h hjn hp e hv
  have hstart:∃A0,(jag (y17 g l ((j:Int),A)) big ((0:Int),A0)).bind (y94 ((j:Int),A))=y18 g l ((j:Int),A)∧A0.length=g.length∧(∀p u:Nat,p<j->l.getD p 0=(u:Int)->jcX g A0 O u p)∧((nL g i 2).length=0->jcX g A0 O i j):=by
   by_cases hz:(nL g i 2).length=0
   ·refine⟨A.set i (jqw [(i:Int)] 0),?_,by simp[hA],fun p v hp hv=>?_,fun _=>?_⟩
    ·unfold y18;simp only[zm,e];rw[if_pos (by omega),if_pos (by omega),if_pos (by omega),if_pos (by omega),if_pos hi,if_pos (by simp[hz]),if_pos (by omega),if_pos (by omega)];rfl
    ·obtain⟨w1,w2,w3⟩:=hd p v hp hv;unfold jcX;rw[jpk _ _ _ _ _ (by omega),jpl _ _ _ _ _ (by omega),if_neg (hne p v hp hv),if_neg (hne p v hp hv)];exact⟨w1,w2,w3⟩
    ·unfold jcX;rw[jpk _ _ _ _ _ (by omega),jpl _ _ _ _ _ (by omega),if_pos rfl,if_pos rfl];exact⟨(hn j i (zu _) hjn e).symm,.one hi (hk0.1 hz),by simp⟩
   ·refine⟨A,?_,hA,hd,fun hz'=>absurd hz' hz⟩;unfold y18;simp only[zm,e];rw[if_pos (by omega),if_pos (by omega),if_pos (by omega),if_pos (by omega),if_pos hi,if_neg (by simp;intro hh;exact hz (by simp[hh]))]
  obtain⟨A0,hs1,hs2,hs3,hs4⟩:=hstart
  have hR:(jag (jbt g ((j:Int),O) (l,true)) big ((0:Int),O)).bind (jhf ((j:Int),O))=jck g (l,true) ((j:Int),O):=by
   unfold jck;simp only[zm,e];rw[if_pos (by omega),if_pos (by omega),if_pos (by omega),if_pos (by omega),if_pos hi]
  obtain⟨y,y',q1,q2,q3⟩:=jCG h hjn hi e A O A0 O hs2 hO hs3 hn hs4 hcn;rw[q1]at hs1;rw[q2]at hR;rcases q3 with ⟨d,rfl,rfl,hd'⟩|⟨A1,O1,rfl,rfl,hI1⟩
  ·left;exact⟨.inl d,.inl (),by rw[<-hs1];rfl,by rw[<-hR];rfl,.inl ⟨d,rfl,rfl,hd'⟩⟩
  ·right;refine⟨m-1,((j:Int)+1,A1),((j:Int)+1,O1),by omega,?_,?_,j+1,by omega,by simp,by simp,hI1⟩
   ·rw[<-hs1]
    show y114 _ _=_
    unfold y114;rw[jaF (by simp;omega)]
   ·rw[<-hR]
    show jdy _ _=_
    unfold jdy;rw[jaF (by simp;omega)]
 ·left;obtain rfl:j=g.length:=by omega
  refine⟨.inr A,.inr O,?_,?_,.inr ⟨A,O,rfl,rfl,⟨hA,hO,hd,hn,hcn⟩⟩⟩
  ·unfold y18;rw[if_neg (by show ¬(g.length:Int)<_;omega)]
  ·unfold jck;rw[if_neg (by show ¬(g.length:Int)<(l.length:Int);omega)]
def jpm (h:Rg g l) (nm nm':ByteArray) :
  (∃d,y2 nm g l=some ([],d.2.2.1,d.1,d.2.2.2,d.2.1,true)∧jc2 nm' g=some ([],false)∧jty g d) ∨
  (∃A O,y2 nm g l=some (A,[],0,[],0,false)∧jc2 nm' g=some (O,true)∧InvW g l g.length A O):=by
 have hn:=h.n;obtain⟨y,y',h1,h2,h3⟩:=waysL h;unfold y2 jc2;rw[jlB h.fw,h.ord,jad,if_pos (by omega),if_pos (by omega),zm,h2];have h1:jag (y18 g l) big ((0:Int),zr g.length [NC.r (Cont.ints xF []),NC.d (D.i xF (0:Int))])=some y:=h1;rw[h1];rcases h3 with ⟨d,rfl,rfl,hd⟩|⟨A,O,rfl,rfl,hI⟩
 ·exact .inl ⟨d,rfl,rfl,hd⟩
 ·exact .inr ⟨A,O,rfl,rfl,hI⟩
end Go.Sh
end

section
namespace Go.Sh
open Go Go.Proofs Go.RowKit Go.Sx
variable {g:List (List NC)} {l:List Int}
def jj2 (h:Rg g l) {nm:ByteArray} (hs:nm.size<1000) (h0:(cg nm g).2=0):jbc nm g=none∧jbI nm g=some (nm,l,0) :=
 ⟨by rw[jtn h.fw hs h0,h.ord],jAh h.fw hs h0 h.ord⟩
def jza {A:List (List NC)} {O:List Int} (hI:InvW g l g.length A O) (h:Rg g l):∀u:Nat,u<g.length->nI A u 1=O.getD u 0:=fun u hu=>by
 obtain⟨p,hp,e⟩:=h.surj hu;exact(hI.don p u hp e).1
def jBS {A:List (List NC)} {O:List Int} (hA:A.length=g.length) (hO:O.length=g.length) (hn:g.length<1000) (he:∀u:Nat,u<g.length->nI A u 1=O.getD u 0) :
  jag (y34 (A,[],0,[],0,false)) big ((0:Int),[])=some O:=by
 have key:=jcO (body:=y34 (A,[],0,[],0,false)) (fun m=>((m:Int),O.take m)) (y:=O) (k:=g.length) (fun m hm=>by
   unfold y34;simp only[zm];rw[if_pos (by omega),if_pos (by omega),if_pos (by omega),if_pos (by simp only[z4,qD,List.length_take];omega),jaF (by omega),he m hm,List.take_add_one,zJ (by omega)];simp[za,show m<O.length by omega]) (by
   unfold y34;rw[if_neg (by show ¬(g.length:Int)<(A.length:Int);omega),<-hO,List.take_length]) (by omega)
 exact key
def jxw (h:Rg g l) {nm:ByteArray} (hs:nm.size<1000) (h0:(cg nm g).2=0) (nm':ByteArray) :
  (y29 nm g=some ([],13)∧jc2 nm' g=some ([],false))∨∃O,y29 nm g=some (O,0)∧jc2 nm' g=some (O,true)∧O.length=g.length:=by
 obtain⟨h1,h2⟩:=jj2 h hs h0;unfold y29 jjS jdG jay;rw[h1,h2]
 show(ze (y2 nm g l) _=_∧_)∨∃O,ze (y2 nm g l) _=_∧_
 rcases jpm h nm nm' with ⟨d,e1,e2,_⟩|⟨A,O,e1,e2,hI⟩
 ·rw[e1,e2];exact .inl ⟨rfl,rfl⟩
 ·rw[e1,e2];refine .inr ⟨O,?_,rfl,hI.lo⟩
  show ze (jag (y34 (A,[],0,[],0,false)) big ((0:Int),[])) y109=_
  rw[jBS hI.la hI.lo h.n (jza hI h)];rfl
end Go.Sh
end

section
namespace Go.Sh
open Go Go.Proofs Go.RowKit Go.Sx Go.Sx09
abbrev shV:List NK:=zS
abbrev tsV:List Nat:=[0,0,3,3,3,0,148,0]
def cnB:yb:=Sx09.bodyOf Tryz.f135
def cnO (j:Nat):zX:=((jhN (Sx09.sub [1,1,0] cnB)).getD []).getD j default
def jpn:Op->Call
 | .call c=>c
 |_=>default
def jzb {P:zy} {o:zX} {a:Act} {w w':zx} {v:zF} {K:Act->zx->Prop} {Q:jP->Act->zx->Prop} (h:(qr a.eval o).run P w=.ok (.value v) w') (hK:K (a.put o.dst v) w'):o.wp P a w K Q:=by
 unfold jv;rw[h];exact hK
def jxx {P:zy} {w:zx} {o:zX} {ev:zH->zF} {x:zH} {v:zF} (h1:o.op=.assign x) (h2:ev x=v):(qr ev o).run P w=.ok (.value v) w:=by
 unfold qr;rw[h1];simp[h2]
def jvf {P:zy} {w w':zx} {o:zX} {c:Call} {ev:zH->zF} {s x:zH} {t:qf} {v xv v':zF} (hop:o.op=.call c) (hcal:c.callee=.builtin .append) (hargs:c.args=#[s,x]) (hts:c.argTypes=#[t,t])
  (h1:ev s=v) (h2:ev x=xv) (hrun:(Builtin.append_ #[t,t] o.type #[v,xv]).run P w=.ok v' w'):(qr ev o).run P w=.ok (.value v') w':=by
 unfold qr;simp only[hop,hcal,resolve,hargs,hts,List.map_toArray,zM,qR,zn,zp,zh,invoke,builtin,h1,h2,hrun]
abbrev cV (v:zF):V:=.w (.c (.d (.v v)))
def cnA (v:zF):St:=⟨[(3,cV v),(2,cV (.slice none 0 0)),(0,cV v)],[],0⟩
def cnD (v:zF):St:=⟨[(6,cV v),(5,.w (.c (.o 0))),(4,vb false),(3,cV v),(2,cV (.slice none 0 0)),(0,cV v)],[(0,.xrow 118 (.st shV []))],1⟩
abbrev jxy (c:yb) (st:St) (k:Ex->St->Prop):Prop:=sx Tryz.prog sp0 8 0 1 (fun _ _ _=>none) (jca Tryz.prog sp0 8) c 0 [] st k
def cn1 (v:zF):jxy (Sx09.sub [0] cnB) ⟨jbO 0 [cV v],[],0⟩ fun ex st=>ex=.normal∧jex Tryz.prog sp0 8 (cl1 Tryz.f135) st fun st=>st=cnA v:=by
 refine jJ (by kernel_rfl:(Ex.normal=Ex.normal∧cnA v=cnA v)=_) ⟨rfl,rfl⟩
def cn2 (v:zF):jxy (.seq (Sx09.sub [1,0,1] cnB) (Sx09.sub [1,1] cnB)) ((cnA v).put (some 4) ⟨True,vb true,[],0⟩) (jcm Tryz.prog Tryz.f135.results.toList fun v _ _=>v=cV (.slice none 0 0)):=by
 refine jJ (by kernel_rfl:(Ob True∧cV (.slice none 0 0)=cV (.slice none 0 0))=_) ⟨⟨trivial⟩,rfl⟩
def cn3 (v:zF):jxy (Sx09.sub [1,0,1] cnB) ((cnA v).put (some 4) ⟨True,vb false,[],0⟩) fun ex st=>ex=.normal∧jex Tryz.prog sp0 8 (cnO 0) st fun st=>jex Tryz.prog sp0 8 (cnO 1) st fun st=>st=cnD v:=by
 refine jJ (by kernel_rfl:(Ex.normal=Ex.normal∧cnD v=cnD v)=_) ⟨rfl,rfl⟩
set_option maxHeartbeats 2000000 in
def jAB {w:zx} {v0:zF} {aa:Option Addr} {m cap:Nat} (hv:v0=.slice aa m cap) (us:List zF) (hus:us.length=m*8) (hone:∀u∈us,u.oneCell'=true) (hnil:aa=none->m=0)
  (hcell:∀ad,aa=some ad->∀j u,us[j]?=some u->w.cell? (ad.add j)=some u) (hb:m*136<=140737488355328) :
  Calls Tryz.prog 135 #[v0] w fun e w'=>∃v',e=.returned v'∧w'.ownsRow 0 118 8 v' m us∧xA w.heap.size w w'∧∀k,v'.ownBlock=some k->w.heap.size<=k:=by
 refine calls_of_wp (c:=cnB) Tryz.func135 (by kernel_rfl) ?_;have hB:cnB=.seq (Sx09.sub [0] cnB) (.seq (.seq (Sx09.sub [1,0,0] cnB) (Sx09.sub [1,0,1] cnB)) (.seq (Sx09.sub [1,1,0] cnB) .ret)):=by kernel_rfl
 have hD:Sx09.sub [1,1] cnB=.seq (Sx09.sub [1,1,0] cnB) .ret:=by kernel_rfl
 obtain⟨U,hU⟩:∃U:Env,U=fun _=>qe:=⟨_,rfl⟩
 have hh:HRel U (kd fun k=>k<w.heap.size) [] 0 w:=⟨fun h o hf=>(by cases hf),fun h o h' o' k hf=>(by cases hf),jfB⟩
 have hr:=jep (n0:=0) (N:=8) (args:=[cV v0]) (zj rfl) (fun x hx=>by simp only[zY]at hx;subst hx;trivial) (zu _) U w hh (fun k hk=>jbe.1 hk);have hsp:jac Tryz.prog sp0:=jau;have hdr:=fun(U:Env) (w:zx)=>jbG (N:=8) (n0:=0) (B:=kd fun k=>k<w.heap.size) (U0:=U) (w0:=w) mixed hsp;have hres:Tryz.f135.results=#[.tmp 2]:=by kernel_rfl
 have run:∀(tmps:Array zF) (W:zx),(results Tryz.f135 tmps).run Tryz.prog W=.ok (tmps.getD 2 qe) W:=fun tmps W=>by
  unfold results;rw[hres];simp
 rw[hB];refine gP (xG (jba hsp (hdr U w) (Sx09.sub [0] cnB) 0 [] _ _ U _ w (cn1 v0) hr (jae.refl _ _) (Bel.refl _ _)) ?_);rintro e a1 w1 ⟨ex,U1,st1,rfl,⟨rfl,hdo⟩,hr1,hag1,hbl1⟩;have hR2:jhN (Sx09.sub [1,0,0] cnB)=some [cl1 Tryz.f135,cl2 Tryz.f135]:=by kernel_rfl
 refine gP (gP (jnN hR2 (jcP (by kernel_rfl) (jcz hsp hr1 hag1 hbl1 hdo fun U2 st2 a2 w2 hr2 hag2 hbl2 hk=>?_))));subst hk;have hop:(cl2 Tryz.f135).op=.binOp .eql 22 (.tmp 3) (.const (.slice none 0 0)) 22:=by kernel_rfl
 have hdst:(cl2 Tryz.f135).dst=some 4:=by kernel_rfl
 refine jcP (by kernel_rfl) (jy8 (N:=8) (u:=cV v0) (aa:=aa) (n:=m) (cap:=cap) hop (by rw[hdst];rfl) (by kernel_rfl) (by kernel_rfl) hv hr2 fun hr3=>?_);rw[hdst]at hr3 ⊢;unfold wpList;cases aa with
 |none =>
  have hm0:=hnil rfl;subst hm0;obtain rfl:us=[]:=qk (by omega);have key:=jtx (cur:=0) (gs:=[]) hsp (hdr U w) (cn2 v0) hr3 hag2 hbl2;rw[hD]at key
  have fin:∀e a4 w4,Qx [] U (kd fun k=>k<w.heap.size) 8 0 w (jcm Tryz.prog Tryz.f135.results.toList fun v _ _=>v=cV (.slice none 0 0)) e a4 w4->bodyPost Tryz.prog Tryz.f135 (fun e w'=>∃v',e=.returned v'∧w'.ownsRow 0 118 8 v' 0 []∧xA w.heap.size w w'∧∀k,v'.ownBlock=some k->w.heap.size<=k) e a4 w4:=by
   rintro e a4 w4 ⟨x,U4,st4,rfl,hk,hr4,_,hbl4⟩
   have done:jcm Tryz.prog Tryz.f135.results.toList (fun v _ _=>v=cV (.slice none 0 0)) .ret st4->a4.defers=[]∧∃v,(results Tryz.f135 a4.tmps).run Tryz.prog w4=.ok v w4∧∃v',Ending.returned v=.returned v'∧w4.ownsRow 0 118 8 v' 0 []∧xA w.heap.size w w4∧∀k,v'.ownBlock=some k->w.heap.size<=k:=fun h=>by
    rw[hres]at h;unfold jcm at h;dsimp only at h;split at h
    ·rename_i l hl;simp only[jdO,jiA]at hl;split at hl
     ·rename_i y l' hy hl';cases hl';cases hl;split at hy
      ·rename_i u2 h2;cases hy;have hu:V.w u2=cV (.slice none 0 0):=h.2;cases hu;have h3:=(hr4.tm 2 _ h2).2;exact⟨hr4.defers,_,run _ _,_,rfl,by rw[h3];exact World.ownsRow_nil w4 0 118 8,hbl4.below,fun k hk=>by rw[h3]at hk;cases hk⟩
      ·cases hy
     ·cases hl
    ·exact h.elim
   cases x with
   |normal=>exact done hk
   |ret=>exact done hk
   |exit j=>exact hk.elim
  refine xG key ?_;intro e a4 w4 hq;cases e with
  |normal=>exact xG hq fin
  |_=>exact fin _ _ _ hq
 |some ad =>
  refine xG (jba hsp (hdr U w) (Sx09.sub [1,0,1] cnB) 0 [] _ _ U2 _ w2 (cn3 v0) hr3 hag2 hbl2) ?_;rintro e a3 w3 ⟨ex,U3,st3,rfl,⟨rfl,hdo3⟩,hr4,hag3,hbl3⟩;have hR3:jhN (Sx09.sub [1,1,0] cnB)=some [cnO 0,cnO 1,cnO 2,cnO 3]:=by kernel_rfl
  refine gP (jnN hR3 (jcP (by kernel_rfl) (jcz hsp hr4 hag3 hbl3 hdo3 fun U4 st4 a4 w4 hr5 hag4 hbl4 hk4=>jcP (by kernel_rfl) (jcz hsp hr5 hag4 hbl4 hk4 fun U5 st5 a5 w5 hr6 hag5 hbl5 hk5=>?_))));subst hk5;obtain⟨B',gB,hh5⟩:=hr6.heap;obtain⟨us0,hown,_,hblk⟩:=(hh5.ok 0 _ rfl).2.2;have e5:=(hr6.tm 5 _ rfl).2;have e6:=(hr6.tm 6 _ rfl).2;have hsame:∀p:Addr,p.block<w.heap.size->w5.cell? p=w.cell? p:=fun p hp=>qp (w:=w) (hbl5.block p.block hp);have hsz:szT Tryz.prog 118=some 8:=by kernel_rfl
  have hby:jaQ Tryz.prog 118=some 136:=by kernel_rfl
  have hzl:(jaB Tryz.prog 118).map zg=some 8:=by kernel_rfl
  obtain⟨zl,hz,hzl⟩:=Option.map_eq_some_iff.1 hzl;cases hi:Tryz.prog.info? 118 with
  |none=>simp[szT,hi]at hsz
  |some i =>
   have hsz':i.size=7+1:=by simpa [szT,hi]using hsz
   have hby':i.bytes=136:=by simpa [jaQ,hi]using hby
   cases hzz:i.zero with
   |none=>simp[jaB,hi,hzz]at hz
   |some zv =>
    obtain⟨v1,hv1,hvc,_⟩:=jaW (P:=Tryz.prog) (w:=w) (U:=U) hz
    have hvz:v1=zv:=by
     simp[zeroValue,typeInfo,hi,hzz]at hv1;exact hv1.symm
    subst hvz;have hzs:v1.cells.size=7+1:=by rw[hvc];simp[hzl]
    have hown0:w5.ownsRow 0 118 8 (U5 0) 0 us0:=hown;obtain rfl:us0=[]:=qk (by rw[hown0.1,qQ])
    obtain⟨v',w6,hrun,hown',hgr,hwh⟩:=jdA (ty:=(cnO 2).type) (P:=Tryz.prog) (t:=22) (by kernel_rfl) hi hzz hsz' hby' hzs hown0 (xv:=v0) (news:=us) (m:=m) hus hone
     (.inr ⟨ad,cap,hv,fun j u hj=>(hsame _ (qj w _ (hcell ad rfl j u hj))).trans (hcell ad rfl j u hj)⟩) (by omega) (by omega)
    have hop2:(cnO 2).op=.call (jpn (cnO 2).op):=by kernel_rfl
    have hcal:(jpn (cnO 2).op).callee=.builtin .append:=by kernel_rfl
    have hargs:(jpn (cnO 2).op).args=#[.tmp 5,.tmp 6]:=by kernel_rfl
    have hts:(jpn (cnO 2).op).argTypes=#[22,22]:=by kernel_rfl
    have hd2:(cnO 2).dst=some 7:=by kernel_rfl
    have ev5:a5.eval (.tmp 5)=U5 0:=e5;have ev6:a5.eval (.tmp 6)=v0:=e6;refine jcP (by kernel_rfl) (jzb (v:=v') (w':=w6) ?_ (jcP (by kernel_rfl) (jzb (v:=v') (w':=w6) ?_ ?_)))
    ·exact jvf hop2 hcal hargs hts ev5 ev6 hrun
    ·have hop3:(cnO 3).op=.assign (.tmp 7):=by kernel_rfl
     have hs6:a5.tmps.size=8:=hr6.size
     have:(a5.put (cnO 2).dst v').eval (.tmp 7)=v':=by
      rw[hd2];simp[yW,Act.eval,hs6]
     exact jxx hop3 this
    ·unfold wpList;have hd3:(cnO 3).dst=some 2:=by kernel_rfl
     have hs6:a5.tmps.size=8:=hr6.size;refine wp_ret ?_;refine⟨by rw[jb9,jb9];exact hr6.defers,v',?_,v',rfl,by simpa using hown',?_,fun k hk=>?_⟩
     ·rw[run]
      congr 1
      rw[hd2,hd3];simp[yW,hs6]
     ·have hold5:∀k,(U5 0).ownBlock=some k->¬k<w.heap.size:=fun k hk hc=>hblk k hk (.inl (gB.le.kp k hc));exact hbl5.below.trans ⟨hgr.os,hgr.tape,hgr.output,hgr.size,fun k hk=>hgr.block k (zC hk hbl5.size) (fun e=>hold5 k e.symm hk)⟩
     ·rcases hwh k hk with h|h
      ·have:¬k<w.heap.size:=fun hc=>hblk k h (.inl (gB.le.kp k hc));omega
      ·have:=hbl5.size;omega
end Go.Sh
end

section
open Go.RowKit
namespace Go.Sh
open Go Go.Proofs Go.RowKit Go.Sx
def jtz:Sx.Spec:=fun vs hp nx=>match vs with
 |[.w (.c (.o h))]=>match find hp h with
  |some (.xext (.st sh l))=>match decide (sh=shV)with
   |true=>some (.leaf ⟨l.length*136<=140737488355328,.w (.c (.o nx)),(nx,.trow 118 tsV (.st sh l) 0)::hp,nx+1⟩)
   |false=>none
  |_=>none
 |_=>none
def jAC {B:Bd} {w:zx} {v:zF} {X:XC} (h:IsX B w v X):∃(aa:Option Addr) (cap:Nat) (us:List zF),v=.slice aa X.n cap∧us.length=X.n*X.e∧(aa=none->X.n=0)∧(∀ad,aa=some ad->∀j u,us[j]?=some u->w.cell? (ad.add j)=some u) ∧
  (∀u∈us,u.oneCell'=true)∧∀i j,i<X.n->j<X.e->∃u,us[i*X.e+j]?=some u∧(X.cell i j).at B w u:=by
 obtain⟨aa,cap,hv,⟨h1,h2⟩,h3⟩:=h;rcases Nat.eq_zero_or_pos X.n with h0|h0
 ·exact⟨aa,cap,[],hv,by rw[h0,qQ];rfl,fun _=>h0,(fun ad _ j u hj=>by simp at hj),(fun u hu=>by cases hu),fun i j hi=>by omega⟩
 ·obtain⟨b,off,rfl,hb,hx⟩:=h3 h0
  have key:∀q,q<X.n*X.e->∃u,w.cell? ⟨b,off+q,none⟩=some u∧u.oneCell'=true:=fun q hq=>by
   have he:0<X.e:=Nat.pos_of_ne_zero fun e=>by rw[e,Nat.mul_zero]at hq;omega
   obtain⟨u,hu,hux⟩:=hx (q/X.e) (q%X.e) (xW (by rw[xJ];exact hq)) (ya _ he);rw[show q/X.e*X.e+q%X.e=q by rw[xJ];exact yC q X.e]at hu;exact⟨u,hu,jsk hux⟩
  refine⟨_,cap,(zG (X.n*X.e)).map fun q=>(w.cell? ⟨b,off+q,none⟩).getD qe,hv,by simp,(fun h=>by cases h),fun ad had j u hj=>?_,fun u hu=>?_,fun i j hi hj=>?_⟩
  ·cases had;have hjl:j<X.n*X.e:=by have:=(zB.1 hj).1;simpa using this
   obtain⟨u',hu',_⟩:=key j hjl;have:((zG (X.n*X.e)).map fun q=>(w.cell? ⟨b,off+q,none⟩).getD qe)[j]?=some u':=by simp[hjl,hu']
   rw[this]at hj;cases hj;rw[jaL];exact hu'
  ·obtain⟨q,hq,rfl⟩:=qu.1 hu;obtain⟨u',hu',ho⟩:=key q (xw.1 hq);rw[hu'];exact ho
  ·obtain⟨u,hu,hux⟩:=hx i j hi hj
   have hjl:i*X.e+j<X.n*X.e:=by
    have:(i+1)*X.e<=X.n*X.e:=Nat.mul_le_mul_right _ hi;rw[qo]at this;omega
   exact⟨u,by simp[hjl,hu],hux⟩
def jxz:jaf Tryz.prog 135 true jtz:=by
 refine .inl ⟨jcD (body:=Sx09.bodyOf Tryz.f135) Tryz.func135 (by kernel_rfl) (by kernel_rfl),fun U B w args hp nx t h ho hl hh hB=>?_⟩;unfold jtz at h;split at h
 ·rename_i g;split at h
  ·rename_i sh l hf;split at h
   ·rename_i hsh;have hsh:=of_decide_eq_true hsh;subst hsh;cases h;have hb:l.length*136<=140737488355328:=ho;obtain⟨aa,cap,us,hv,hus,hnil,hcell,hone,hat⟩:=jAC (hh.ok g _ hf).2.2;have hargs:([V.w (.c (.o g))].map (V.val U)).toArray=#[U g]:=rfl;rw[hargs];refine(jAB (m:=l.length) hv us hus hone hnil hcell hb).mono ?_;rintro e w' ⟨v',rfl,hown,hbel,hfr⟩;have hbB:Bel B w w':=jbV hbel hB
    have hok:(O.trow 118 tsV (.st shV l) 0).ok (upd U nx v') B w' nx:=by
     unfold O.ok;simp only[upd_same];refine⟨us,hown,fun i j hi hj=>?_,fun i j i' j' u v k _ _ _ _ _ h0=>absurd h0 (xZ _),fun k hk hc=>?_⟩
     ·obtain⟨u,hu,hux⟩:=hat i j hi hj;exact⟨u,hu,fun h0=>absurd h0 (xZ _),fun _=>NC.at_bel hux hbB⟩
     ·have:=hB k hc;have:=hfr k hk;omega
    have h1:=hh.add (o:=.trow 118 tsV (.st shV l) 0) (U':=upd U nx v') hbel hB (jal _ _ _) trivial hok (fun k hk=>by
     rw[upd_same]at hk;exact hfr k hk)
    refine⟨upd U nx v',?_,jal _ _ _,zo nx,qt nx,⟨B,Grow.refl _ _ _ _,h1⟩,hbB,fun _=>hbel,fun _ h o k hn hf hk=>?_⟩
    ·simp[RT.sel,V.val,W.val,C.val,upd]
    ·have hf:find ((nx,O.trow 118 tsV (.st shV l) 0)::hp) h=some o:=hf
     by_cases e1:h=nx
     ·subst e1
      have:o=O.trow 118 tsV (.st shV l) 0:=by
       have:=hf;simp only[find,if_pos]at this;exact(xT this).symm
      subst this;rw[upd_same]at hk;exact hfr k hk
     ·simp only[find,if_neg (Ne.symm e1)]at hf;have:=(hh.ok h o hf).1;omega
   ·cases h
  ·cases h
 ·cases h
abbrev sp_135:jaa->jaa:=jaG 135 true jtz
def sp_135_ok {sp:jaa} (h:jac Tryz.prog sp):jac Tryz.prog (sp_135 sp):=jap jxz h
end Go.Sh
end

section
namespace Go.Sx09
open Go Go.Proofs Go.RowKit Go.Shelf Go.Sx
attribute [local go_sem] Oper.semAt_some
end Go.Sx09
end

section
open Go.RowKit
namespace Go.Sh
open Go Go.Proofs Go.RowKit Go.Sx
open Go.Sx09 (jtj)
end Go.Sh
end

section
open Go.RowKit
namespace Go.Sh
open Go Go.Proofs Go.RowKit Go.Sx
end Go.Sh
end

section
open Go.RowKit
namespace Go.Sx
section
variable {P:zy} {l n:Nat} {a:Act} {w:zx} {Q:jP->Act->zx->Prop}
end
section
variable [Globs] {P:zy} {sp:jaa} {B:Kd} {N n0:Nat} {U0:Env} {w0:zx} {ds:List x7}
end
def jpo:Nat->yb->yb
 |0,_=>.skip
 |n+1,.seq x y=>.seq x (jpo n y)
 |_+1,c=>c
def jpp:Nat->yb->yb
 |0,c=>c
 |n+1,.seq _ y=>jpp n y
 |_+1,_=>.skip
def jzc:Nat->yb->Bool
 |0,_=>true
 |n+1,.seq _ y=>jzc n y
 |_+1,_=>false
section
variable [Globs] {P:zy} {sp:jaa} {B:Kd} {N n0:Nat} {U0:Env} {w0:zx} {ds:List x7}
def jv0 {fuel:Nat} {loops:jfv} {drawn:Array zX->St->(St->Prop)->Prop} (hsp:jac P sp) (hdr:jeo P B N n0 U0 w0 drawn) {Q:jP->Act->zx->Prop} {k:Ex->St->Prop} :
  ∀(m:Nat) (c:yb) (cur:Nat) (gs:List Nat) (st:St) (U:Env) (a:Act) (w:zx),jzc m c=true->sx P sp N n0 fuel loops drawn (jpo m c) cur gs st k->RelD ds U B N n0 st a w->jae n0 U0 U->Bel B w0 w ->
   (∀U' st' a' w',k .normal st'->RelD ds U' B N n0 st' a' w'->jae n0 U0 U'->Bel B w0 w'->(jpp m c).wp P Q a' w') ->
   (∀ex U' st' a' w',ex≠.normal->k ex st'->RelD ds U' B N n0 st' a' w'->jae n0 U0 U'->Bel B w0 w'->Q ex.toExit a' w')->c.wp P Q a w
 |0,c,_,_,st,U,a,w,_,h,hr,hag,hbl,hn,_=>hn U st a w h hr hag hbl
 |m+1,.seq x y,cur,gs,st,U,a,w,hs,h,hr,hag,hbl,hn,he=>by
  simp only[jpo]at h;unfold sx at h;refine gP (xG (jba hsp hdr x cur gs st _ U a w h hr hag hbl) ?_);rintro e a' w' ⟨ex,U',st',rfl,hk,hr',hag',hbl'⟩;cases ex with
  |normal=>exact jv0 hsp hdr m y cur gs st' U' a' w' hs hk hr' hag' hbl' hn he
  |exit j=>exact he (.exit j) U' st' a' w' (by simp) hk hr' hag' hbl'
  |ret=>exact he .ret U' st' a' w' (by simp) hk hr' hag' hbl'
end
end Go.Sx
end

section
open Go.RowKit
namespace Go.Sh
open Go Go.Proofs Go.RowKit Go.Sx
def cdB:yb:=Sx09.bodyOf Tryz.f91
abbrev spC:jaa:=sp_135 (sp_136 (sp_137 sp0))
def jpq:jac Tryz.prog spC:=sp_135_ok (sp_136_ok (sp_137_ok jau))
def ptU (g:List (List NC)) (k j:Nat) (x:NC):List (List NC):=g.set k (jd2 shV (g.getD k []) j x)
def ptA (g:List (List NC)) (k:Nat):List (List NC):=ptU g k 2 (.r (.ints .i64 (val (jaI (nL g k 2)))))
def ptB (g:List (List NC)) (k:Nat):List (List NC):=ptU (ptA g k) k 3 (.r (.ints .i64 (val (jaI (nL g k 3)))))
def ptC (g:List (List NC)) (k:Nat):List (List NC):=ptU (ptB g k) k 4 (.r (.ints .i64 (val (jaI (nL g k 4)))))
def ptD (g:List (List NC)) (k:Nat):List (List NC):=ptU (ptC g k) k 6 (.r (.recs 5 (val (jbr (nR g k 6)))))
def cpK (g:List (List NC)):Nat->List (List NC)
 |0=>g
 |k+1=>ptD (cpK g k) k
def cpM:Nat->Nat
 |0=>0
 |k+1=>k*8+7
def jmo (g:List (List NC)) (k j:Nat) (x:NC):(ptU g k j x).length=g.length:=by simp[ptU]
def jBT (g:List (List NC)) (k:Nat):(ptD g k).length=g.length:=by simp[ptD,ptC,ptB,ptA,jmo]
def jqx (g:List (List NC)):∀k,(cpK g k).length=g.length
 |0=>rfl
 |k+1=>by rw[cpK,jBT,jqx g k]
def hpC (nm:ByteArray) (g0 g:List (List NC)) (m:Nat):Hp:=[(3,.trow 118 tsV (.st shV g) m),(1,.box 24 [.d (.s nm),.o 3]),(2,.box 24 [.d (.s xB),.d (.v (.slice none 0 0))]),(0,.xext (.st shV g0))]
def lpC (nm:ByteArray) (g:List (List NC)):jfv:=fun gs id _=>match id with
 |0=>some ⟨Nat,fun k=>⟨[(12,vi .i64 k),(11,vi .i64 (g.length:Int)),(2,.w (.c (.p 2 0 1 0))),(1,.w (.c (.p 1 0 1 0)))],hpC nm g (cpK g k) (cpM k),4⟩,fun k=>k<=g.length,fun k=>g.length-k⟩
 |_=>none
def stC (nm:ByteArray) (g0 g:List (List NC)):St:=⟨[(2,.w (.c (.p 2 0 1 0))),(1,.w (.c (.p 1 0 1 0)))],[(3,.mrow 118 tsV (.st shV g) none),(1,.box 24 [.d (.s nm),.o 3]),(2,.box 24 [.d (.s xB),.d (.v (.slice none 0 0))]),(0,.xext (.st shV g0))],4⟩
def jqy {j:Nat} (h:j=0∨j=1∨j=5∨j=7):(shV.getD j .b).isSl=false:=by
 rcases h with rfl|rfl|rfl|rfl<;>rfl
def okU (g:List (List NC)):Prop:=∀k,k<g.length->ok (jaI (nL (cpK g k) k 2))∧ok (jaI (nL (cpK g k) k 3))∧ok (jaI (nL (cpK g k) k 4))∧ok (jbr (nR (cpK g k) k 6))
abbrev jhO (m n:Nat):Prop:=∀i' j':Nat,j'<8->m<=i' * 8+j'->i' * 8+j'<n->(shV.getD j' .b).isSl=false
set_option maxHeartbeats 2000000 in
def cd_vc (nm:ByteArray) (g:List (List NC)) (h0:g.length*136<=140737488355328) (hok:okU g):sx Tryz.prog spC 53 1 0 (lpC nm g) (jca Tryz.prog spC 53) (jpo 3 cdB) 0 [] ⟨jbO 0 [.w (.a [.d (.s nm),.o 0])],[(0,.xext (.st shV g))],1⟩
  fun ex st'=>match ex with
   | .normal=>Le 1 st' (stC nm g (cpK g g.length))
   |_=>False:=by
 refine jJ (by kernel_rfl:(Ob (g.length*136<=140737488355328) ∧
  (∃x:Nat,Ob (x<=g.length)∧Ob ((0:Int)=(x:Int))∧Ob ((g.length:Int)=g.length)∧Ob ((0:Nat)=0)∧Ob ((0:Nat)=0)∧Ob (g=cpK g x)∧Ob (cpM x=0)∧Ob (nm=nm)∧Ob (xB=xB)∧Ob (qc none 0 0=qc none 0 0)∧Ob (g=g)∧True) ∧
  ∀x:Nat,x<=g.length->Br (decide ((x:Int)<(g.length:Int)))
   (Ob ((0:Int)<=x∧(x:Int)<((cpK g x).length:Int))∧Ob (x<(cpK g x).length∧cpM x<=x*8+2)∧Ob (ok (jaI (nL (cpK g x) x 2)))∧Ob (x<(cpK g x).length∧cpM x<=x*8+3)∧Ob (ok (jaI (nL (cpK g x) x 3)))∧Ob (x<(cpK g x).length∧cpM x<=x*8+4)∧Ob (ok (jaI (nL (cpK g x) x 4)))∧Ob (x<(cpK g x).length∧cpM x<=x*8+6)∧Ob (ok (jbr (nR (cpK g x) x 6))) ∧
    Ob (x<(cpK g x).length∧cpM x<=x*8+2∧jhO (cpM x) (x*8+2))∧Ob (x<(ptA (cpK g x) x).length∧x*8+2+1<=x*8+3∧jhO (x*8+2+1) (x*8+3))∧Ob (x<(ptB (cpK g x) x).length∧x*8+3+1<=x*8+4∧jhO (x*8+3+1) (x*8+4))∧Ob (x<(ptC (cpK g x) x).length∧x*8+4+1<=x*8+6∧jhO (x*8+4+1) (x*8+6)) ∧
    ∃x':Nat,Ob (x'<=g.length)∧Ob (g.length-x'<g.length-x)∧Ob (xF.wrap ((x:Int)+1)=x')∧Ob ((g.length:Int)=g.length)∧Ob ((0:Nat)=0)∧Ob ((0:Nat)=0)∧Ob (ptD (cpK g x) x=cpK g x')∧Ob (cpM x'=x*8+6+1)∧Ob (nm=nm)∧Ob (xB=xB)∧Ob (qc none 0 0=qc none 0 0)∧Ob (g=g)∧True)
   (Ob ((0:Nat)=0)∧Ob ((0:Nat)=0)∧Ob (cpK g x=cpK g g.length)∧Ob (∀i j:Nat,i<(cpK g x).length->j<8->cpM x<=i*8+j->(shV.getD j .b).isSl=false)∧Ob (nm=nm)∧Ob (xB=xB)∧Ob (qc none 0 0=qc none 0 0)∧Ob (g=g)∧True))=_) ?_
 refine⟨⟨h0⟩,⟨0,⟨qI _⟩,⟨rfl⟩,⟨rfl⟩,⟨rfl⟩,⟨rfl⟩,⟨rfl⟩,⟨rfl⟩,⟨rfl⟩,⟨rfl⟩,⟨rfl⟩,⟨rfl⟩,trivial⟩,fun x hx=>Br.intro (fun hlt=>?_) fun hlt=>?_⟩
 ·have hlt:x<g.length:=by have:=of_decide_eq_true hlt;omega
  have hl:=jqx g x
  have hm:cpM x<=x*8∧(x=0∨cpM x+1=x*8):=by
   cases x with
   |zero=>exact⟨zu _,.inl rfl⟩
   |succ n=>exact⟨by show n*8+7<=(n+1)*8;omega,.inr (by show n*8+7+1=(n+1)*8;omega)⟩
  obtain⟨o1,o2,o3,o4⟩:=hok x hlt;have f1:jhO (cpM x) (x*8+2):=fun i' j' hj h1 h2=>jqy (by omega);have f2:jhO (x*8+2+1) (x*8+3):=fun i' j' hj h1 h2=>by omega
  have f3:jhO (x*8+3+1) (x*8+4):=fun i' j' hj h1 h2=>by omega
  have f4:jhO (x*8+4+1) (x*8+6):=fun i' j' hj h1 h2=>jqy (by omega);have lA:(ptA (cpK g x) x).length=g.length:=by simp[ptA,jmo,hl]
  have lB:(ptB (cpK g x) x).length=g.length:=by simp[ptB,jmo,lA]
  have lC:(ptC (cpK g x) x).length=g.length:=by simp[ptC,jmo,lB]
  exact⟨⟨by omega⟩,⟨by omega⟩,⟨o1⟩,⟨by omega⟩,⟨o2⟩,⟨by omega⟩,⟨o3⟩,⟨by omega⟩,⟨o4⟩,⟨by omega,by omega,f1⟩,⟨by omega,by omega,f2⟩,⟨by omega,by omega,f3⟩,⟨by omega,by omega,f4⟩,x+1,⟨hlt⟩,⟨by omega⟩,⟨by rw[jaF (by omega)];rfl⟩,⟨rfl⟩,⟨rfl⟩,⟨rfl⟩,⟨rfl⟩,⟨rfl⟩,⟨rfl⟩,⟨rfl⟩,⟨rfl⟩,⟨rfl⟩,trivial⟩
 ·have hlt:=of_decide_eq_false hlt;obtain rfl:x=g.length:=by omega
  refine⟨⟨rfl⟩,⟨rfl⟩,⟨rfl⟩,⟨fun i j hi hj hq=>?_⟩,⟨rfl⟩,⟨rfl⟩,⟨rfl⟩,⟨rfl⟩,trivial⟩;rw[jqx]at hi;refine jqy ?_;cases hn:g.length with
  |zero=>omega
  |succ n=>rw[hn]at hq hi;simp only[cpM]at hq;omega
end Go.Sh
end

section
open Go.RowKit
namespace Go.Sh
open Go Go.Proofs Go.RowKit Go.Sx
def jCH (nm:ByteArray) (g l:List (List NC)):sx Tryz.prog spC 53 1 0 (lpC nm g) (jca Tryz.prog spC 53) (jpp 3 cdB) 0 [] (stC nm g l) (jcm Tryz.prog Tryz.f91.results.toList fun v hp _=>jf1 1 [.s [.d (.s nm),.m 118 [0,0,3,3,3,0,148,0] (.st zS l)]] v hp) :=
 jJ (by kernel_rfl:(Ob True∧Ob (nm=nm)∧Ob (l=l)∧True)=_) ⟨⟨trivial⟩,⟨rfl⟩,⟨rfl⟩,trivial⟩
def okUB (g:List (List NC)):Bool:=(zG g.length).all fun k=>(jaI (nL (cpK g k) k 2)).isSome&&(jaI (nL (cpK g k) k 3)).isSome&&(jaI (nL (cpK g k) k 4)).isSome&&(jbr (nR (cpK g k) k 6)).isSome
def jzd {g:List (List NC)} (h:okUB g=true):okU g:=fun k hk=>by
 have:=zq.1 h k (xw.2 hk);simp only[zk]at this;exact⟨this.1.1.1,this.1.1.2,this.1.2,this.2⟩
def ja1 (nm:ByteArray) (g:List (List NC)):Option (ByteArray × List (List NC)):=if(decide (g.length*136<=140737488355328)&&okUB g)=true then some (nm,cpK g g.length)else none
def jpr:List SV:=[.a [.d,.x (.st zS [])]]
def jj3:List Lf->Option GT
 |[.d (.s nm),.x (.st [.s,.i .i64,.ints .i64,.ints .i64,.ints .i64,.i .i64,.recs 5,.i .i64] g)]=>some (.leaf (ok (ja1 nm g)) [.s [.d (.s (val (ja1 nm g)).1),.m 118 [0,0,3,3,3,0,148,0] (.st zS (val (ja1 nm g)).2)]])
 |_=>none
abbrev sp_91:jaa->jaa:=jaG 91 true (jai jpr jj3)
def jvg:jaf Tryz.prog 91 true (jai jpr jj3):=by
 refine jk9 (body:=cdB) Tryz.func91 (by kernel_rfl) (by kernel_rfl) ?_;intro ls t hg ho b hb U0 w hlt hh;unfold jj3 at hg;split at hg
 ·rename_i nm g;cases hg;obtain rfl:=jaN hb;have ho:ok (ja1 nm g):=ho
  have hc:(decide (g.length*136<=140737488355328)&&okUB g)=true:=by
   unfold ja1 at ho
   by_cases h:(decide (g.length*136<=140737488355328)&&okUB g)=true
   ·exact h
   ·rw[if_neg h]at ho;cases ho
  have hv:val (ja1 nm g)=(nm,cpK g g.length):=by
   unfold ja1;rw[if_pos hc];rfl
  rw[zk,decide_eq_true_eq]at hc;have hh0:HRel U0 (kd fun k=>k<w.heap.size) [(0,.xext (.st shV g))] 1 w:=hh
  show Calls Tryz.prog 91 _ w _
  rw[hv];refine jio (body:=cdB) (n0:=1) (args:=[.w (.a [.d (.s nm),.o 0])]) Tryz.func91 (by kernel_rfl) (zj (by kernel_rfl)) (fun x hx=>hlt x hx) (zu _) U0 w hh0 (fun k hk=>jbe.1 hk) fun a hr=>?_;refine jv0 jpq (jbG mixed jpq) (cur:=0) (gs:=[]) 3 cdB _ U0 a w (by kernel_rfl) (cd_vc nm g hc.1 (jzd hc.2)) hr (jae.refl _ _) (Bel.refl _ _) ?_ ?_
  ·intro U1 st1 a1 w1 hk1 hr1 hag1 hbl1;have hk1:Le 1 st1 (stC nm g (cpK g g.length)):=hk1;obtain⟨U2,hr2,hag2⟩:=hk1.rel hr1;exact jba jpq (jbG mixed jpq) (jpp 3 cdB) 0 [] _ _ U2 a1 w1 (jCH nm g (cpK g g.length)) hr2 (fun x hx=>(hag2 x hx).trans (hag1 x hx)) hbl1
  ·intro ex U1 st1 a1 w1 hne hk1 _ _ _;cases ex with
   |normal=>exact absurd rfl hne
   |exit j=>exact hk1.elim
   |ret=>exact hk1.elim
 ·cases hg
def sp_91_ok {sp:jaa} (h:jac Tryz.prog sp):jac Tryz.prog (sp_91 sp):=jap jvg h
end Go.Sh
end

section
namespace Go.Sh
open Go Go.Proofs Go.RowKit Go.Sx
variable {g:List (List NC)} {l:List Int}
def jnR (g:List (List NC)) (i:Nat) (al:List Int):List NC:=[.d (.s (nS g i 0)),.d (.i .i64 (nI g i 1)),.r (.ints .i64 (nL g i 2)),.r (.ints .i64 al),.r (.ints .i64 (nL g i 4)),.d (.i .i64 (nI g i 5)),.r (.recs 5 (nR g i 6)),.d (.i .i64 (nI g i 7))]
def wA (g:List (List NC)) (f:Nat->List Int):List (List NC):=(zG g.length).map fun i=>jnR g i (f i)
def ja6 (f:Nat->List Int):(wA g f).length=g.length:=by simp[wA]
def jhh (f:Nat->List Int) {i:Nat} (hi:i<g.length):(wA g f).getD i []=jnR g i (f i):=by simp[wA,za,hi]
section
variable (f:Nat->List Int) {i:Nat} (hi:i<g.length)
include hi
def jhi:nI (wA g f) i 1=nI g i 1∧nI (wA g f) i 5=nI g i 5∧nI (wA g f) i 7=nI g i 7:=by
 unfold nI;rw[jhh f hi];exact⟨rfl,rfl,rfl⟩
def jbu:nL (wA g f) i 2=nL g i 2∧nL (wA g f) i 3=f i∧nL (wA g f) i 4=nL g i 4:=by
 unfold nL;rw[jhh f hi];exact⟨rfl,rfl,rfl⟩
def jtA:nR (wA g f) i 6=nR g i 6:=by
 unfold nR;rw[jhh f hi];rfl
def jtB:nS (wA g f) i 0=nS g i 0:=by
 unfold nS;rw[jhh f hi];rfl
end
def jBU (f:Nat->List Int) {i:Nat} (hi:¬i<g.length):(wA g f).getD i []=g.getD i []:=by
 simp only[za];rw[z9 (by rw[ja6];omega),z9 (by omega)]
def jv1 (f:Nat->List Int) (i:Nat):nL (wA g f) i 2=nL g i 2∧nI (wA g f) i 7=nI g i 7:=by
 by_cases hi:i<g.length
 ·exact⟨(jbu f hi).1,(jhi f hi).2.2⟩
 ·unfold nL nI;rw[jBU f hi];exact⟨rfl,rfl⟩
def jBV (f:Nat->List Int):jbq (wA g f)=jbq g:=by
 funext out;unfold jbq
 have:jdc (wA g f) out=jdc g out:=by
  funext i;unfold jdc jc1 jdF;rw[ja6,(jv1 f i).1,(jv1 f i).2]
 rw[ja6,this]
def jdz (f:Nat->List Int) (i:Nat) (L:List Int):Nat->List Int:=fun k=>if k=i then L else f k
def jtC {f f':Nat->List Int} (h:∀i,i<g.length->f i=f' i):wA g f=wA g f':=by
 unfold wA;exact z8 fun i hi=>by rw[h i (xw.1 hi)]
def jCI (f:Nat->List Int) {i:Nat} (hi:i<g.length) (L:List Int):(wA g f).set i (jd2 shV ((wA g f).getD i []) 3 (.r (.ints .i64 L)))=wA g (jdz f i L):=by
 rw[jhh f hi];refine yw (by simp[ja6]) fun k h1 h2=>?_;have hk:k<g.length:=by simpa [ja6]using h2
 rw[List.getElem_set];have e:∀(f':Nat->List Int) (h:k<(wA g f').length),(wA g f')[k]=jnR g k (f' k):=fun f' h=>by simp[wA]
 split
 ·rename_i hik;subst hik;rw[e];unfold jdz;rw[if_pos rfl];rfl
 ·rename_i hik;rw[e,e];unfold jdz;rw[if_neg (fun h=>hik h.symm)]
def wA_cp (f:Nat->List Int):cpU (wA g f)=wA g f:=by
 unfold cpU;rw[ja6];unfold wA;refine z8 fun i hi=>?_;have hi:=xw.1 hi
 show jth (wA g f) i=jnR g i (f i)
 unfold jth jnR;rw[jtB f hi,(jhi f hi).1,(jhi f hi).2.1,(jhi f hi).2.2,(jbu f hi).1,(jbu f hi).2.1,(jbu f hi).2.2,jtA f hi]
def jBW (f:Nat->List Int) {i:Nat} (hi:i<g.length) (h2:(nL g i 2).length<100) (h3:(f i).length<100) (h4:(nL g i 4).length<100) (h6:(nR g i 6).length<100):ptD (wA g f) i=wA g f:=by
 have s:∀(j:Nat) (x:NC),jd2 shV (jnR g i (f i)) j x=jnR g i (f i)->ptU (wA g f) i j x=wA g f:=fun j x hx=>by
  unfold ptU;rw[jhh f hi,hx];exact jtp _ i [] _ (jhh f hi) (by rw[ja6];exact hi)
 have c:∀L:List Int,L.length<100->val (jaI L)=L:=fun L hL=>by unfold jaI;rw[if_pos (by omega)];rfl
 have eA:ptA (wA g f) i=wA g f:=by
  unfold ptA;rw[(jbu f hi).1,c _ h2];exact s 2 _ rfl
 have eB:ptB (wA g f) i=wA g f:=by
  unfold ptB;rw[eA,(jbu f hi).2.1,c _ h3];exact s 3 _ rfl
 have eC:ptC (wA g f) i=wA g f:=by
  unfold ptC;rw[eB,(jbu f hi).2.2,c _ h4];exact s 4 _ rfl
 unfold ptD;rw[eC,jtA f hi];refine s 6 _ ?_;unfold jbr;rw[if_pos (by omega)];rfl
def jxB (hw:Fw g) (f:Nat->List Int) (hf:∀i,i<g.length->(f i).length<100):∀k,k<=g.length->cpK (wA g f) k=wA g f
 |0,_=>rfl
 |k+1,hk=>by
  rw[cpK,jxB hw f hf k (by omega)];exact jBW f hk (hw.fr k hk) (hf k hk) (hw.ga k hk) (hw.ca k hk)
def jze (hw:Fw g) (nm:ByteArray) (f:Nat->List Int) (hf:∀i,i<g.length->(f i).length<100):ja1 nm (wA g f)=some (nm,wA g f):=by
 have hn:=hw.n;unfold ja1;rw[ja6,jxB hw f hf _ (zu _),if_pos];rw[zk,decide_eq_true_eq];refine⟨by omega,zq.2 fun k hk=>?_⟩;have hk:=xw.1 hk;rw[ja6]at hk;have h2:=hw.fr k hk;have h3:=hf k hk;have h4:=hw.ga k hk;have h6:=hw.ca k hk;rw[jxB hw f hf _ (by omega),(jbu f hk).1,(jbu f hk).2.1,(jbu f hk).2.2,jtA f hk];unfold jaI jbr;rw[if_pos (by omega),if_pos (by omega),if_pos (by omega),if_pos (by omega)];rfl
def wA_rg (h:Rg g l) (f:Nat->List Int) (hl:∀i,i<g.length->(f i).length=(nL g i 3).length) (hr:∀i,i<g.length->∀k,k<(f i).length->0<=(f i).getD k 0∧(f i).getD k 0<=64):Rg (wA g f) l:=by
 refine⟨⟨by rw[ja6];exact h.fw.n,fun i hi=>?_,fun i hi=>?_,fun i hi=>?_,fun i hi=>?_,fun i hi=>?_⟩,fun i hi=>?_,by rw[jBV,ja6];exact h.ord⟩
 all_goals rw[ja6]at hi
 ·rw[jtB f hi];exact h.fw.nm i hi
 ·rw[(jbu f hi).1];exact h.fw.fr i hi
 ·rw[(jbu f hi).2.1,hl i hi];exact h.fw.al i hi
 ·rw[(jbu f hi).2.2];exact h.fw.ga i hi
 ·rw[jtA f hi];exact h.fw.ca i hi
 ·have hex:exB (wA g f) i=exB g i:=by
   unfold exB;rw[jtB f hi]
   have:∀l:List Nat,(∀k∈l,k<i)->(l.any fun k=>nS (wA g f) k 0==nS g i 0)=l.any fun k=>nS g k 0==nS g i 0:=by
    intro l
    induction l with
    |nil=>intro _;rfl
    |cons x r ih =>
     intro h;have hx:=h x zV;rw[jb,jb,jtB f (by omega),ih fun k hk=>h k (zR _ hk)]
   exact this _ fun k hk=>xw.1 hk
  have hrg:jcj (nI g i 1) (f i) (nL g i 4) (nI g i 5)=true:=by
   have h1:=(jfZ (h.ok i hi)).2.1;unfold jcj at h1 ⊢;simp only[zk]at h1 ⊢;refine⟨⟨⟨?_,h1.1.1.2⟩,h1.1.2⟩,h1.2⟩;rw[xK,xL];intro x hx;obtain⟨k,hk,rfl⟩:=yl.1 hx;have:=hr i hi k hk;rw[jlD 0 hk]at this;simp[inB];omega
  have hg:=h.ok i hi;have ho:=(jfZ hg).2.1;unfold jbg at hg ⊢;rw[jtB f hi,hex,(jhi f hi).1,(jhi f hi).2.1,(jhi f hi).2.2,(jbu f hi).1,(jbu f hi).2.1,(jbu f hi).2.2,jtA f hi,ja6,hl i hi,hrg];rw[ho]at hg;exact hg
end Go.Sh
end

section
namespace Go.Sh
open Go Go.Proofs Go.RowKit Go.Sx
open Go.IntKind (wrap)
def y138:List SV:=[.a [.d,.x (.st zS [])]]
def y68 (x0:Int × List Int × List (List NC)) (r1:List Int) (x1:(Int × Int)):Option ((Int × Int) ⊕ Int) :=
 if x1.2<(↑(zg (nL x0.2.2 (zN r1 x0.1) (2:Nat))):Int)then
  if 0<=x1.2∧x1.2<(↑(zg (nL x0.2.2 (zN r1 x0.1) (2:Nat))):Int)then
  if zf x1.2<zg (nL x0.2.2 (zN r1 x0.1) (2:Nat))then
   if 0<=za (nL x0.2.2 (zN r1 x0.1) (2:Nat)) x1.2.toNat (0:Int)∧za (nL x0.2.2 (zN r1 x0.1) (2:Nat)) x1.2.toNat 0<(↑x0.2.1.length:Int)then
   if zf (za (nL x0.2.2 (zN r1 x0.1) (2:Nat)) x1.2.toNat (0:Int))<zg x0.2.1 then
    if zf (za r1 x0.1.toNat (0:Int))<zg x0.2.2 then
    if 0<=x1.2∧x1.2<(↑(zg (nL x0.2.2 (zN r1 x0.1) (3:Nat))):Int)then
     if zf x1.2<zg (nL x0.2.2 (zN r1 x0.1) (3:Nat))then
     some (.inl ((if wrap .i64 (za x0.2.1 (zf (za (nL x0.2.2 (zN r1 x0.1) (2:Nat)) x1.2.toNat (0:Int))) 0+za (nL x0.2.2 (zN r1 x0.1) (3:Nat)) x1.2.toNat (0:Int))>x1.1 then wrap .i64 (za x0.2.1 (zf (za (nL x0.2.2 (zN r1 x0.1) (2:Nat)) x1.2.toNat (0:Int))) 0+za (nL x0.2.2 (zN r1 x0.1) (3:Nat)) x1.2.toNat (0:Int))else x1.1,wrap .i64 (x1.2+1))))
     else none
    else none
    else none
   else none
   else none
  else none
  else none
 else
  some (.inr x1.1)
def y49 (x0:Int × List Int × List (List NC)) (u11:Int) (r1:List Int) (x2:(Int × List (List NC))):Option ((Int × List (List NC)) ⊕ (Unit ⊕ (List (List NC)))) :=
 if x2.1<(↑(zg (nL x0.2.2 (zN r1 x0.1) (2:Nat))):Int)then
  if 0<=x2.1∧x2.1<(↑(zg (nL x0.2.2 (zN r1 x0.1) (2:Nat))):Int)then
  if zf x2.1<zg (nL x0.2.2 (zN r1 x0.1) (2:Nat))then
   if zf (za r1 x0.1.toNat (0:Int))<zg x2.2 then
   if 0<=za (nL x0.2.2 (zN r1 x0.1) (2:Nat)) x2.1.toNat (0:Int)∧za (nL x0.2.2 (zN r1 x0.1) (2:Nat)) x2.1.toNat 0<(↑x0.2.1.length:Int)then
    if zf (za (nL x0.2.2 (zN r1 x0.1) (2:Nat)) x2.1.toNat (0:Int))<zg x0.2.1 then
    if 0<=x2.1∧x2.1<(↑(zg (nL x2.2 (zN r1 x0.1) (3:Nat))):Int)then
     if zf x2.1<zg (nL x2.2 (zN r1 x0.1) (3:Nat))then
     if zf (za r1 x0.1.toNat (0:Int))<zg (xM x2.2 (zN r1 x0.1) (jd2 zS (za x2.2 (zN r1 x0.1) []) (3:Nat) (NC.r (Cont.ints .i64 (xM (nL x2.2 (zN r1 x0.1) (3:Nat)) x2.1.toNat (wrap .i64 (u11-za x0.2.1 (zf (za (nL x0.2.2 (zN r1 x0.1) (2:Nat)) x2.1.toNat (0:Int))) (0:Int))))))))then
      if 0<=x2.1∧x2.1<(↑(zg (nL (xM x2.2 (zN r1 x0.1) (jd2 zS (za x2.2 (zN r1 x0.1) []) (3:Nat) (NC.r (Cont.ints .i64 (xM (nL x2.2 (zN r1 x0.1) (3:Nat)) x2.1.toNat (wrap .i64 (u11-za x0.2.1 (zf (za (nL x0.2.2 (zN r1 x0.1) (2:Nat)) x2.1.toNat (0:Int))) (0:Int)))))))) (zN r1 x0.1) (3:Nat))):Int)then
      if zf x2.1<zg (nL (xM x2.2 (zN r1 x0.1) (jd2 zS (za x2.2 (zN r1 x0.1) []) (3:Nat) (NC.r (Cont.ints .i64 (xM (nL x2.2 (zN r1 x0.1) (3:Nat)) x2.1.toNat (wrap .i64 (u11-za x0.2.1 (zf (za (nL x0.2.2 (zN r1 x0.1) (2:Nat)) x2.1.toNat (0:Int))) (0:Int)))))))) (zN r1 x0.1) (3:Nat))then
       if za (nL (xM x2.2 (zN r1 x0.1) (jd2 zS (za x2.2 (zN r1 x0.1) []) (3:Nat) (NC.r (Cont.ints .i64 (xM (nL x2.2 (zN r1 x0.1) (3:Nat)) x2.1.toNat (wrap .i64 (u11-za x0.2.1 (zf (za (nL x0.2.2 (zN r1 x0.1) (2:Nat)) x2.1.toNat (0:Int))) (0:Int)))))))) (zN r1 x0.1) (3:Nat)) x2.1.toNat (0:Int)>64 then
       some (.inr ((.inl ())))
       else
       some (.inl ((wrap .i64 (x2.1+1),xM x2.2 (zN r1 x0.1) (jd2 zS (za x2.2 (zN r1 x0.1) []) (3:Nat) (NC.r (Cont.ints .i64 (xM (nL x2.2 (zN r1 x0.1) (3:Nat)) x2.1.toNat (wrap .i64 (u11-za x0.2.1 (zf (za (nL x0.2.2 (zN r1 x0.1) (2:Nat)) x2.1.toNat (0:Int))) (0:Int))))))))))
      else none
      else none
     else none
     else none
    else none
    else none
   else none
   else none
  else none
  else none
 else
  some (.inr (.inr x2.2))
def jlS (x0:Int × List Int × List (List NC)) (u11:Int) (r1:List Int) (u48:Unit):Option ((Int × List Int × List (List NC)) ⊕ (Unit ⊕ (List (List NC)))) :=
 some (.inr ((.inl ())))
def y104 (x0:Int × List Int × List (List NC)) (u11:Int) (r1:List Int) (u49:List (List NC)):Option ((Int × List Int × List (List NC)) ⊕ (Unit ⊕ (List (List NC)))) :=
 if zf (za r1 x0.1.toNat (0:Int))<zg u49 then
  if 0<=za r1 x0.1.toNat (0:Int)∧za r1 x0.1.toNat 0<(↑x0.2.1.length:Int)then
  if zf (za r1 x0.1.toNat (0:Int))<zg x0.2.1 then
   some (.inl ((wrap .i64 (x0.1+1),xM x0.2.1 (zN r1 x0.1) (wrap .i64 (u11+nI u49 (zN r1 x0.1) (5:Nat))),u49)))
  else none
  else none
 else none
def y125 (x0:Int × List Int × List (List NC)) (u11:Int) (r1:List Int):(Unit ⊕ (List (List NC)))->Option ((Int × List Int × List (List NC)) ⊕ (Unit ⊕ (List (List NC)))) :=
 (qZ (jlS x0 u11 r1) (y104 x0 u11 r1))
def y126 (x0:Int × List Int × List (List NC)) (r1:List Int) (u11:Int):Option ((Int × List Int × List (List NC)) ⊕ (Unit ⊕ (List (List NC)))) :=
 if zf (za r1 x0.1.toNat (0:Int))<zg x0.2.2 then
  ze (jag (y49 x0 u11 r1) big (((0:Int),x0.2.2))) (y125 x0 u11 r1)
 else none
def y8 (r1:List Int) (x0:(Int × List Int × List (List NC))):Option ((Int × List Int × List (List NC)) ⊕ (Unit ⊕ (List (List NC)))) :=
 if x0.1<(↑r1.length:Int)then
  if 0<=x0.1∧x0.1<(↑r1.length:Int)then
  if zf x0.1<zg r1 then
   if 0<=za r1 x0.1.toNat (0:Int)∧za r1 x0.1.toNat 0<(↑x0.2.2.length:Int)then
   if zf (za r1 x0.1.toNat (0:Int))<zg x0.2.2 then
    ze (jag (y68 x0 r1) big (((0:Int),0))) (y126 x0 r1)
   else none
   else none
  else none
  else none
 else
  some (.inr (.inr x0.2.2))
def jlT (r2:ByteArray × List (List NC)) (u5:Unit):Option (ByteArray × List (List NC) × Int) :=
 some ((qi #[],[],8))
def jlU (r2:ByteArray × List (List NC)) (u6:List (List NC)):Option (ByteArray × List (List NC) × Int) :=
 some ((r2.1,u6,0))
def y90 (r2:ByteArray × List (List NC)):(Unit ⊕ (List (List NC)))->Option (ByteArray × List (List NC) × Int) :=
 (qZ (jlT r2) (jlU r2))
def y6 (u4:ByteArray) (u1:List (List NC)):Option (ByteArray × List (List NC) × Int) :=
 if(jjS u4 u1)=true then
  ze (jdG u4 u1) fun r0 =>
  some (qi #[],[],nzI r0)
 else
  ze (jay u4 u1) fun r1 =>
  ze (ja1 u4 u1) fun r2 =>
  if 0<=(↑u1.length:Int)∧(↑u1.length:Int)=(↑u1.length:Int)∧(↑(8:Nat):Int)*(↑u1.length:Int)<=281474976710656∧(↑u1.length:Int)<=9223372036854775807 then
  ze (jag (y8 r1) big (((0:Int),zr (zf (↑u1.length:Int)) (0:Int),r2.2))) (y90 r2)
  else none
def y139:List Lf->Option GT
 |[.d (.s u4),.x (.st [.s,.i .i64,.ints .i64,.ints .i64,.ints .i64,.i .i64,.recs 5,.i .i64] u1)]=>some (.leaf (ok (y6 u4 u1)) [.s [.d (.s ((val (y6 u4 u1)).1)),.m 118 zE (.st (zS) ((val (y6 u4 u1)).2.1))],.c (.d (.i .i64 ((val (y6 u4 u1)).2.2)))])
 |_=>none
abbrev sp_37:jaa->jaa:=jaG 37 true (jai y138 y139)
abbrev y91 (u4:ByteArray) (u1:List (List NC)) (r:ByteArray × List (List NC) × Int):Lp ((Int × List Int × List (List NC)) × Nat) ((Int × List Int × List (List NC))) ((Unit ⊕ (List (List NC)))) ((ByteArray × List (List NC) × Int)) (ByteArray × List (List NC) × Int) :=
 ⟨fun z=>z.1,fun z=>z.2,fun z x n=>(x,n),fun z=>y8 (val (jay u4 u1)),fun z=>y90 (val (ja1 u4 u1)),fun z=>top r,fun z=>0,[.c fun _=>0,.c fun _=>0,.c fun _=>(↑(zg (val (jay u4 u1))):Int),.c fun vv=>vv.1.1,.c fun _=>qi #[],.c fun _=>qc none (0:Nat) (0:Nat),.c fun _=>(val (ja1 u4 u1)).1,.c fun vv=>vv.1.2.1,.c fun _=>val (jay u4 u1),.c fun vv=>vv.1.2.2]⟩
abbrev jhj (u4:ByteArray) (u1:List (List NC)) (r:ByteArray × List (List NC) × Int) (m1:Nat):Lp ((Int × List Int × List (List NC)) × Nat × (Int × Int) × Nat) (Int × Int) Int (((Int × List Int × List (List NC)) ⊕ (Unit ⊕ (List (List NC))))) (ByteArray × List (List NC) × Int) :=
 ⟨fun z=>z.2.2.1,fun z=>z.2.2.2,fun z x n=>(z.1,z.2.1,x,n),fun z=>y68 z.1 (val (jay u4 u1)),fun z=>y126 z.1 (val (jay u4 u1)),fun z=>(y91 u4 u1 r).cx (z.1,m1),fun z=>z.2.1,[.c fun _=>0,.c fun _=>0,.c fun vv=>za (val (jay u4 u1)) vv.1.1.toNat (0:Int),.c fun vv=>zf (za (val (jay u4 u1)) vv.1.1.toNat (0:Int)),.c fun vv=>vv.2.2.1.1,.c fun _=>(↑(zg (val (jay u4 u1))):Int),.c fun vv=>vv.1.1,.c fun vv=>(↑(zg (nL vv.1.2.2 (zf (za (val (jay u4 u1)) vv.1.1.toNat (0:Int))) (2:Nat))):Int),.c fun vv=>vv.2.2.1.2,.c fun _=>qi #[],.c fun _=>qc none (0:Nat) (0:Nat),.c fun _=>(val (ja1 u4 u1)).1,.c fun vv=>vv.1.2.1,.c fun vv=>vv.1.2.2,.c fun _=>val (jay u4 u1),.c fun vv=>zf (za (val (jay u4 u1)) vv.1.1.toNat (0:Int)),.c fun vv=>nL vv.1.2.2 (zf (za (val (jay u4 u1)) vv.1.1.toNat (0:Int))) (2:Nat)]⟩
abbrev jhk (u4:ByteArray) (u1:List (List NC)) (r:ByteArray × List (List NC) × Int) (m1:Nat):Lp ((Int × List Int × List (List NC)) × Nat × Int × (Int × List (List NC)) × Nat) ((Int × List (List NC))) ((Unit ⊕ (List (List NC)))) (((Int × List Int × List (List NC)) ⊕ (Unit ⊕ (List (List NC))))) (ByteArray × List (List NC) × Int) :=
 ⟨fun z=>z.2.2.2.1,fun z=>z.2.2.2.2,fun z x n=>(z.1,z.2.1,z.2.2.1,x,n),fun z=>y49 z.1 z.2.2.1 (val (jay u4 u1)),fun z=>y125 z.1 z.2.2.1 (val (jay u4 u1)),fun z=>(y91 u4 u1 r).cx (z.1,m1),fun z=>z.2.1,[.c fun _=>0,.c fun _=>0,.c fun vv=>za (val (jay u4 u1)) vv.1.1.toNat (0:Int),.c fun vv=>zf (za (val (jay u4 u1)) vv.1.1.toNat (0:Int)),.c fun vv=>vv.2.2.1,.c fun _=>(↑(zg (val (jay u4 u1))):Int),.c fun vv=>vv.1.1,.c fun vv=>(↑(zg (nL vv.1.2.2 (zf (za (val (jay u4 u1)) vv.1.1.toNat (0:Int))) (2:Nat))):Int),.c fun vv=>vv.2.2.2.1.1,.c fun _=>qi #[],.c fun _=>qc none (0:Nat) (0:Nat),.c fun _=>(val (ja1 u4 u1)).1,.c fun vv=>vv.1.2.1,.c fun vv=>vv.2.2.2.1.2,.c fun _=>val (jay u4 u1),.c fun vv=>zf (za (val (jay u4 u1)) vv.1.1.toNat (0:Int)),.c fun vv=>nL vv.1.2.2 (zf (za (val (jay u4 u1)) vv.1.1.toNat (0:Int))) (2:Nat)]⟩
def jnS (u4:ByteArray) (u1:List (List NC)) (r:ByteArray × List (List NC) × Int):Sk (top r) (ze (jag (y8 (val (jay u4 u1))) big (((0:Int),zr (zf (↑u1.length:Int)) (0:Int),(val (ja1 u4 u1)).2))) (y90 (val (ja1 u4 u1)))) :=
 .loop (y91 u4 u1 r) (fun kk=>(((0:Int),zr (zf (↑u1.length:Int)) (0:Int),(val (ja1 u4 u1)).2),big)) fun z0 =>
 .br
 (.ob (.ob (.ob (.ob (.loop (jhj u4 u1 r z0.2) (fun kk=>(z0.1,kk,((0:Int),0),big)) fun z1 =>
 .br
 (.ob (.ob (.ob (.ob (.ob (.ob (.ob (.next))))))))
 (.exit (.ob (.loop (jhk u4 u1 r z0.2) (fun kk=>(z1.1,kk,z1.2.2.1.1,((0:Int),z1.1.2.2),big)) fun z1 =>
 .br
 (.ob (.ob (.ob (.ob (.ob (.ob (.ob (.ob (.ob (.ob (.br
 (.exit (.exit (.obT (.obT (.ret (fun r=>(Ob (qi #[]=r.1) ∧
 (Ob (zg r.2.1=(0:Nat)) ∧
 (Ob ((8:Int)=r.2.2) ∧
 True)))) ⟨⟨rfl⟩,⟨⟨rfl⟩,⟨⟨rfl⟩,trivial⟩⟩⟩)))))
 (.next))))))))))))
 (.exit (.ob (.ob (.ob (.next)))))))))))))
 (.exit (.obT (.obT (.rc))))
def jps (u4:ByteArray) (u1:List (List NC)) (r:ByteArray × List (List NC) × Int):Sk (top r) (y6 u4 u1) :=
 .brB
 (.call (.obT (.obT (.ret (fun r=>(Ob (qi #[]=r.1) ∧
 (Ob (zg r.2.1=(0:Nat)) ∧
 (Ob (nzI (val (jdG u4 u1))=r.2.2) ∧
 True)))) ⟨⟨rfl⟩,⟨⟨rfl⟩,⟨⟨rfl⟩,trivial⟩⟩⟩))))
 (.call (.call (.ob (jnS u4 u1 r))))
def jnT (u4:ByteArray) (u1:List (List NC)) (r:ByteArray × List (List NC) × Int) (h:ze (y6 u4 u1) some=some r):jbl Tryz.f37 ((sp_80 (sp_91 sp0))) (fun gs id st=>match id with
 |0=>some ⟨(Int × List Int × List (List NC)) × Nat,fun z=>⟨[(2,.w (.c (.p 1 0 1 0))),(6,.w (.c (.p 2 0 1 0))),(7,.w (.c (.o 3))),(34,.w (.c (.o 4))),(35,.w (.c (.d (.i .i64 ((↑(zg (val (jay u4 u1))):Int)))))),(36,.w (.c (.d (.i .i64 z.1.1))))],[(1,.box 24 [.d (.s (qi #[])),.d (.v (qc none (0:Nat) (0:Nat)))]),(2,.box 24 [.d (.s ((val (ja1 u4 u1)).1)),.o 5]),(3,.row 3 (.ints .i64 z.1.2.1)),(4,.row 3 (.ints .i64 (val (jay u4 u1)))),(5,.mrow 118 zE (XC.st zS z.1.2.2) none)],6⟩,fun z=>(y91 u4 u1 r).inv z,fun z=>z.2⟩
 |2=>some ⟨(Int × List Int × List (List NC)) × Nat × (Int × Int) × Nat,fun z=>⟨[(2,.w (.c (.p 1 0 1 0))),(6,.w (.c (.p 2 0 1 0))),(7,.w (.c (.o 3))),(9,.w (.c (.d (.i .i64 (za (val (jay u4 u1)) z.1.1.toNat (0:Int)))))),(10,.w (.c (.p 4 (zf (za (val (jay u4 u1)) z.1.1.toNat (0:Int))) 8 (0:Nat)))),(11,.w (.c (.d (.i .i64 z.2.2.1.1)))),(34,.w (.c (.o 5))),(35,.w (.c (.d (.i .i64 ((↑(zg (val (jay u4 u1))):Int)))))),(36,.w (.c (.d (.i .i64 (z.1.1))))),(47,.w (.c (.o 6))),(48,.w (.c (.d (.i .i64 ((↑(zg (nL z.1.2.2 (zf (za (val (jay u4 u1)) z.1.1.toNat (0:Int))) (2:Nat))):Int)))))),(49,.w (.c (.d (.i .i64 z.2.2.1.2))))],[(1,.box 24 [.d (.s (qi #[])),.d (.v (qc none (0:Nat) (0:Nat)))]),(2,.box 24 [.d (.s ((val (ja1 u4 u1)).1)),.o 4]),(3,.row 3 (.ints .i64 (z.1.2.1))),(4,.mrow 118 zE (XC.st zS z.1.2.2) none),(5,.row 3 (.ints .i64 (val (jay u4 u1)))),(6,.sub 4 (zf (za (val (jay u4 u1)) z.1.1.toNat (0:Int))) 8 2 3 (.ints .i64 (nL z.1.2.2 (zf (za (val (jay u4 u1)) z.1.1.toNat (0:Int))) (2:Nat))))],7⟩,fun z=>(jhj u4 u1 r (gs.getD 0 0)).inv z,fun z=>z.2.2.2⟩
 |4=>some ⟨(Int × List Int × List (List NC)) × Nat × Int × (Int × List (List NC)) × Nat,fun z=>⟨[(2,.w (.c (.p 1 0 1 0))),(6,.w (.c (.p 2 0 1 0))),(7,.w (.c (.o 3))),(9,.w (.c (.d (.i .i64 (za (val (jay u4 u1)) z.1.1.toNat (0:Int)))))),(10,.w (.c (.p 4 (zf (za (val (jay u4 u1)) z.1.1.toNat (0:Int))) 8 (0:Nat)))),(11,.w (.c (.d (.i .i64 z.2.2.1)))),(34,.w (.c (.o 5))),(35,.w (.c (.d (.i .i64 ((↑(zg (val (jay u4 u1))):Int)))))),(36,.w (.c (.d (.i .i64 (z.1.1))))),(72,.w (.c (.o 6))),(73,.w (.c (.d (.i .i64 ((↑(zg (nL z.1.2.2 (zf (za (val (jay u4 u1)) z.1.1.toNat (0:Int))) (2:Nat))):Int)))))),(74,.w (.c (.d (.i .i64 z.2.2.2.1.1))))],[(1,.box 24 [.d (.s (qi #[])),.d (.v (qc none (0:Nat) (0:Nat)))]),(2,.box 24 [.d (.s ((val (ja1 u4 u1)).1)),.o 4]),(3,.row 3 (.ints .i64 (z.1.2.1))),(4,.mrow 118 zE (XC.st zS z.2.2.2.1.2) none),(5,.row 3 (.ints .i64 (val (jay u4 u1)))),(6,.sub 4 (zf (za (val (jay u4 u1)) z.1.1.toNat (0:Int))) 8 2 3 (.ints .i64 (nL z.1.2.2 (zf (za (val (jay u4 u1)) z.1.1.toNat (0:Int))) (2:Nat))))],7⟩,fun z=>(jhk u4 u1 r (gs.getD 0 0)).inv z,fun z=>z.2.2.2.2⟩
 |_=>none) (jbd y138 [.d (.s u4),.x (.st zS u1)]) [.s [.d (.s r.1),.m 118 zE (.st (zS) r.2.1)],.c (.d (.i .i64 r.2.2))] :=
 Sk.vc (jps u4 u1 r) (by kernel_rfl) h
def jnU:jaf Tryz.prog 37 true (jai y138 y139):=by
 refine jaC (sp:=(sp_80 (sp_91 sp0))) (fn:=Tryz.f37) (body:=bodyOf Tryz.f37) mixed (sp_80_ok (sp_91_ok jau)) Tryz.func37 (by kernel_rfl) (by kernel_rfl) fun ls t h ho b hb=>?_;unfold y139 at h;split at h
 ·rename_i u4 u1;cases h;obtain rfl:=jaN hb;exact⟨zj (by kernel_rfl),_,_,jnT u4 u1 _ (jar ho)⟩
 ·cases h
def sp_37_ok {sp:jaa} (h:jac Tryz.prog sp):jac Tryz.prog (sp_37 sp):=jap jnU h
end Go.Sh
end

section
open Go.RowKit
namespace Go.Sx
section
variable {P:zy} {U:Env} {B:Kd} {hp:Hp} {nx:Nat} {w:zx}
def jq7 (I J:Globs) (ht:∀g,I.tab g=none) (hd:∀g,I.held g=none) {f:Nat} {M:Bool} {S:Spec} (h:@jaf I P f M S):@jaf J P f M S:=by
 have down:∀{U:Env} {B:Kd} {hp:Hp} {nx:Nat} {w:zx},@HRel J U B hp nx w->@HRel I U B hp nx w:=fun hh =>
  @HRel.mk I _ _ _ _ _ (@HRel.ok J _ _ _ _ _ hh) (@HRel.apart J _ _ _ _ _ hh) ⟨fun g c hg=>(by rw[ht g]at hg;cases hg),@jkv I hd _ _⟩
 rcases h with h|h
 ·refine .inl (@RunOK.mk J _ _ _ _ (@RunOK.enter I _ _ _ _ h) fun U B w args hp nx t hS ho hl hh hB=>?_);refine(@RunOK.sound I _ _ _ _ h U B w args hp nx t hS ho hl (down hh) hB).mono ?_;rintro e w' ⟨U',e1,hL⟩;obtain⟨B',g,q⟩:=@Left.heap I _ _ _ _ _ _ _ _ hL;have hb:=@Left.below I _ _ _ _ _ _ _ _ hL
  exact⟨U',e1,@Left.mk J _ _ _ _ _ _ _ _ (@Left.agree I _ _ _ _ _ _ _ _ hL) (@Left.lt I _ _ _ _ _ _ _ _ hL) (@Left.le I _ _ _ _ _ _ _ _ hL)
   ⟨B',g,@HRel.mk J _ _ _ _ _ (@HRel.ok I _ _ _ _ _ q) (@HRel.apart I _ _ _ _ _ q) (@jbx.sub J _ _ _ (@jbx.bel J _ _ _ (@HRel.glob J _ _ _ _ _ hh) hb) g.le.kp)⟩ hb (@Left.mono I _ _ _ _ _ _ _ _ hL) (@Left.fresh I _ _ _ _ _ _ _ _ hL)⟩
 ·exact .inr fun U B w args hp nx t hS ho hl hh hB=>h U B w args hp nx t hS ho hl (down hh) hB
end
end Go.Sx
end

section
namespace Go.Sh
open Go Go.Proofs Go.RowKit Go.Sx
abbrev ji1:Globs:={ tab:=fun _=>none,nestT:=jBd,nestM:=fun t=>jyp t||zt t 22 }
def jxC (I J:Globs) (ht:∀g,I.tab g=none) (hd:∀g,I.held g=none) {P:zy} {sp:jaa} (h:@jac I P sp):@jac J P sp:=fun k M S hk=>jq7 I J ht hd (h k M S hk)
abbrev runTM (fn:Func) (sp:jaa) (loops:jfv) (b:Bv) (rs:List RR):Prop :=
 @sx ji1 Tryz.prog sp fn.ntmps b.n 40 loops (@jca ji1 Tryz.prog sp fn.ntmps) (bodyOf fn) 0 [] ⟨jbO 0 b.vs,b.hp,b.n⟩ (jcm Tryz.prog fn.results.toList fun v hp _=>jf1 b.n rs v hp)
def jfE:List Lf->Option GT
 |[.d (.s gName),.x (.st [.s,.i .i64,.ints .i64,.ints .i64,.ints .i64,.i .i64,.recs 5,.i .i64] gUnits)]=>some (.leaf (ok (jaR gName gUnits)) [.s [.d (.s ((val (jaR gName gUnits)).1)),.m 118 [0,0,3,3,3,0,148,0] (.st (zS) ((val (jaR gName gUnits)).2))]])
 |_=>none
def jtD (gName:ByteArray) (gUnits:List (List NC)) (r:ByteArray × List (List NC)) (h:ze (jaR gName gUnits) some=some r):runTM Tryz.f19 ((sp_26 sp0)) (fun gs id _=>match id with
 |0=>some ⟨(Int × List (List NC)) × Nat,fun z=>⟨[(1,.w (.c (.p 1 0 1 0))),(2,.w (.c (.p 2 0 1 0))),(3,.w (.c (.p 3 0 1 0))),(4,.w (.c (.d (.i .i64 z.1.1))))],[(1,.box 24 [.d (.s gName),.o 0]),(2,.box 24 [.d (.s (qi #[])),.d (.v (qc none (0:Nat) (0:Nat)))]),(3,.box 24 [.d (.s gName),.o 4]),(0,.xext (XC.st zS gUnits)),(4,.mrow 118 [0,0,3,3,3,0,148,0] (XC.st zS z.1.2) none)],5⟩,fun z=>(jmT gName gUnits r).inv z,fun z=>z.2⟩
 |_=>none) (jbd jgv [.d (.s gName),.x (.st zS gUnits)]) [.s [.d (.s r.1),.m 118 [0,0,3,3,3,0,148,0] (.st (zS) r.2)]] :=
 Sk.vc (jwF gName gUnits r) (by kernel_rfl) h
def jrI:@jaf ji1 Tryz.prog 19 true (jai jgv jfE):=by
 letI:Globs:=ji1
 refine jaC (sp:=(sp_26 sp0)) (fn:=Tryz.f19) (body:=bodyOf Tryz.f19) mixed (jxC globs ji1 (fun _=>rfl) (fun _=>rfl) (sp_26_ok jau)) Tryz.func19 (by kernel_rfl) (by kernel_rfl) fun ls t h ho b hb=>?_;unfold jfE at h;split at h
 ·rename_i gName gUnits;cases h;obtain rfl:=jaN hb;exact⟨zj (by kernel_rfl),_,_,jtD gName gUnits _ (jar ho)⟩
 ·cases h
def jtE:jaf Tryz.prog 19 true (jai jgv jfE):=jq7 ji1 globs (fun _=>rfl) (fun _=>rfl) jrI
abbrev sp_19b:jaa->jaa:=jaG 19 true (jai jgv jfE)
def sp_19b_ok {sp:jaa} (h:jac Tryz.prog sp):jac Tryz.prog (sp_19b sp):=jap jtE h
open Go.IntKind (wrap)
def y115:List SV:=[.a [.d,.x (.st zS [])]]
def y52 (x0:Int × List Int × List (List NC)) (r1:List Int × Bool) (x1:(Int × Int)):Option ((Int × Int) ⊕ Int) :=
 if x1.2<(↑(zg (nL x0.2.2 (zN r1.1 x0.1) (2:Nat))):Int)then
  if 0<=x1.2∧x1.2<(↑(zg (nL x0.2.2 (zN r1.1 x0.1) (2:Nat))):Int)then
  if zf x1.2<zg (nL x0.2.2 (zN r1.1 x0.1) (2:Nat))then
   if 0<=za (nL x0.2.2 (zN r1.1 x0.1) (2:Nat)) x1.2.toNat (0:Int)∧za (nL x0.2.2 (zN r1.1 x0.1) (2:Nat)) x1.2.toNat 0<(↑x0.2.1.length:Int)then
   if zf (za (nL x0.2.2 (zN r1.1 x0.1) (2:Nat)) x1.2.toNat (0:Int))<zg x0.2.1 then
    if 0<=x1.2∧x1.2<(↑(zg (nL x0.2.2 (zN r1.1 x0.1) (3:Nat))):Int)then
    if zf x1.2<zg (nL x0.2.2 (zN r1.1 x0.1) (3:Nat))then
     some (.inl ((if wrap .i64 (za x0.2.1 (zf (za (nL x0.2.2 (zN r1.1 x0.1) (2:Nat)) x1.2.toNat (0:Int))) 0+za (nL x0.2.2 (zN r1.1 x0.1) (3:Nat)) x1.2.toNat (0:Int))>x1.1 then wrap .i64 (za x0.2.1 (zf (za (nL x0.2.2 (zN r1.1 x0.1) (2:Nat)) x1.2.toNat (0:Int))) 0+za (nL x0.2.2 (zN r1.1 x0.1) (3:Nat)) x1.2.toNat (0:Int))else x1.1,wrap .i64 (x1.2+1))))
    else none
    else none
   else none
   else none
  else none
  else none
 else
  some (.inr x1.1)
def y35 (x0:Int × List Int × List (List NC)) (u11:Int) (r1:List Int × Bool) (x2:(Int × List (List NC) × List Int)):Option ((Int × List (List NC) × List Int) ⊕ (Unit ⊕ (List (List NC) × List Int))) :=
 if x2.1<(↑(zg (nL x0.2.2 (zN r1.1 x0.1) (2:Nat))):Int)then
  if 0<=x2.1∧x2.1<(↑(zg (nL x0.2.2 (zN r1.1 x0.1) (2:Nat))):Int)then
  if zf x2.1<zg (nL x0.2.2 (zN r1.1 x0.1) (2:Nat))then
   if 0<=za (nL x0.2.2 (zN r1.1 x0.1) (2:Nat)) x2.1.toNat (0:Int)∧za (nL x0.2.2 (zN r1.1 x0.1) (2:Nat)) x2.1.toNat 0<(↑x0.2.1.length:Int)then
   if zf (za (nL x0.2.2 (zN r1.1 x0.1) (2:Nat)) x2.1.toNat (0:Int))<zg x0.2.1 then
    if 0<=x2.1∧x2.1<(↑x2.2.2.length:Int)then
    if zf x2.1<zg x2.2.2 then
     if 0<=x2.1∧x2.1<(↑(zg (xM x2.2.2 x2.1.toNat (wrap .i64 (u11-za x0.2.1 (zf (za (nL x0.2.2 (zN r1.1 x0.1) (2:Nat)) x2.1.toNat (0:Int))) (0:Int))))):Int)then
     if zf x2.1<zg (xM x2.2.2 x2.1.toNat (wrap .i64 (u11-za x0.2.1 (zf (za (nL x0.2.2 (zN r1.1 x0.1) (2:Nat)) x2.1.toNat (0:Int))) (0:Int))))then
      if za (xM x2.2.2 x2.1.toNat (wrap .i64 (u11-za x0.2.1 (zf (za (nL x0.2.2 (zN r1.1 x0.1) (2:Nat)) x2.1.toNat (0:Int))) (0:Int)))) x2.1.toNat (0:Int)>64 then
      some (.inr ((.inl ())))
      else
      some (.inl ((wrap .i64 (x2.1+1),xM x2.2.1 (zN r1.1 x0.1) (jd2 zS (za x2.2.1 (zN r1.1 x0.1) []) (3:Nat) (NC.r (Cont.ints .i64 (xM x2.2.2 x2.1.toNat (wrap .i64 (u11-za x0.2.1 (zf (za (nL x0.2.2 (zN r1.1 x0.1) (2:Nat)) x2.1.toNat (0:Int))) (0:Int))))))),xM x2.2.2 x2.1.toNat (wrap .i64 (u11-za x0.2.1 (zf (za (nL x0.2.2 (zN r1.1 x0.1) (2:Nat)) x2.1.toNat (0:Int))) (0:Int))))))
     else none
     else none
    else none
    else none
   else none
   else none
  else none
  else none
 else
  some (.inr ((.inr (x2.2.1,x2.2.2))))
def jj4 (x0:Int × List Int × List (List NC)) (u11:Int) (r1:List Int × Bool) (u48:Unit):Option ((Int × List Int × List (List NC)) ⊕ (Unit ⊕ (List (List NC)))) :=
 some (.inr ((.inl ())))
def y92 (x0:Int × List Int × List (List NC)) (u11:Int) (r1:List Int × Bool) (u49:List (List NC) × List Int):Option ((Int × List Int × List (List NC)) ⊕ (Unit ⊕ (List (List NC)))) :=
 if 0<=x0.1∧x0.1<(↑r1.1.length:Int)then
  if zf x0.1<zg r1.1 then
  if 0<=za r1.1 x0.1.toNat (0:Int)∧za r1.1 x0.1.toNat 0<(↑x0.2.1.length:Int)then
   if zf (za r1.1 x0.1.toNat (0:Int))<zg x0.2.1 then
   some (.inl ((wrap .i64 (x0.1+1),xM x0.2.1 (zN r1.1 x0.1) (wrap .i64 (u11+nI x0.2.2 (zN r1.1 x0.1) (5:Nat))),u49.1)))
   else none
  else none
  else none
 else none
def y105 (x0:Int × List Int × List (List NC)) (u11:Int) (r1:List Int × Bool):(Unit ⊕ (List (List NC) × List Int))->Option ((Int × List Int × List (List NC)) ⊕ (Unit ⊕ (List (List NC)))) :=
 (qZ (jj4 x0 u11 r1) (y92 x0 u11 r1))
def y106 (x0:Int × List Int × List (List NC)) (r1:List Int × Bool) (u11:Int):Option ((Int × List Int × List (List NC)) ⊕ (Unit ⊕ (List (List NC)))) :=
 ze (jag (y35 x0 u11 r1) big (((0:Int),x0.2.2,nL x0.2.2 (zN r1.1 x0.1) (3:Nat)))) (y105 x0 u11 r1)
def y9 (r1:List Int × Bool) (x0:(Int × List Int × List (List NC))):Option ((Int × List Int × List (List NC)) ⊕ (Unit ⊕ (List (List NC)))) :=
 if x0.1<(↑r1.1.length:Int)then
  if 0<=x0.1∧x0.1<(↑r1.1.length:Int)then
  if zf x0.1<zg r1.1 then
   if 0<=za r1.1 x0.1.toNat (0:Int)∧za r1.1 x0.1.toNat 0<(↑x0.2.2.length:Int)then
   if zf (za r1.1 x0.1.toNat (0:Int))<zg x0.2.2 then
    ze (jag (y52 x0 r1) big (((0:Int),0))) (y106 x0 r1)
   else none
   else none
  else none
  else none
 else
  some (.inr (.inr x0.2.2))
def jj5 (r0:ByteArray × List (List NC)) (u5:Unit):Option (ByteArray × List (List NC) × Int) :=
 some ((qi #[],[],8))
def jj6 (r0:ByteArray × List (List NC)) (u6:List (List NC)):Option (ByteArray × List (List NC) × Int) :=
 some ((r0.1,u6,0))
def y69 (r0:ByteArray × List (List NC)):(Unit ⊕ (List (List NC)))->Option (ByteArray × List (List NC) × Int) :=
 (qZ (jj5 r0) (jj6 r0))
def y10 (u4:ByteArray) (u1:List (List NC)):Option (ByteArray × List (List NC) × Int) :=
 ze (jaR u4 u1) fun r0 =>
 ze (y0 u4 u1) fun r1 =>
 if 0<=(↑u1.length:Int)∧(↑u1.length:Int)=(↑u1.length:Int)∧(↑(8:Nat):Int)*(↑u1.length:Int)<=281474976710656∧(↑u1.length:Int)<=9223372036854775807 then
  ze (jag (y9 r1) big (((0:Int),zr (zf (↑u1.length:Int)) (0:Int),r0.2))) (y69 r0)
 else none
def y116:List Lf->Option GT
 |[.d (.s u4),.x (.st [.s,.i .i64,.ints .i64,.ints .i64,.ints .i64,.i .i64,.recs 5,.i .i64] u1)]=>some (.leaf (ok (y10 u4 u1)) [.s [.d (.s ((val (y10 u4 u1)).1)),.m 118 zE (.st (zS) ((val (y10 u4 u1)).2.1))],.c (.d (.i .i64 ((val (y10 u4 u1)).2.2)))])
 |_=>none
abbrev sp_38:jaa->jaa:=jaG 38 true (jai y115 y116)
abbrev y70 (u4:ByteArray) (u1:List (List NC)) (r:ByteArray × List (List NC) × Int):Lp ((Int × List Int × List (List NC)) × Nat) ((Int × List Int × List (List NC))) ((Unit ⊕ (List (List NC)))) ((ByteArray × List (List NC) × Int)) (ByteArray × List (List NC) × Int) :=
 ⟨fun z=>z.1,fun z=>z.2,fun z x n=>(x,n),fun z=>y9 (val (y0 u4 u1)),fun z=>y69 (val (jaR u4 u1)),fun z=>top r,fun z=>0,[.c fun _=>0,.c fun _=>0,.c fun vv=>vv.1.1,.c fun _=>qi #[],.c fun _=>qc none (0:Nat) (0:Nat),.c fun _=>(val (jaR u4 u1)).1,.c fun _=>(val (y0 u4 u1)).1,.c fun vv=>vv.1.2.1,.c fun vv=>vv.1.2.2]⟩
abbrev y159 (u4:ByteArray) (u1:List (List NC)) (r:ByteArray × List (List NC) × Int) (m1:Nat):Lp ((Int × List Int × List (List NC)) × Nat × (Int × Int) × Nat) (Int × Int) Int (((Int × List Int × List (List NC)) ⊕ (Unit ⊕ (List (List NC))))) (ByteArray × List (List NC) × Int) :=
 ⟨fun z=>z.2.2.1,fun z=>z.2.2.2,fun z x n=>(z.1,z.2.1,x,n),fun z=>y52 z.1 (val (y0 u4 u1)),fun z=>y106 z.1 (val (y0 u4 u1)),fun z=>(y70 u4 u1 r).cx (z.1,m1),fun z=>z.2.1,[.c fun _=>0,.c fun _=>0,.c fun vv=>vv.1.1,.c fun _=>0,.c fun vv=>vv.2.2.1.1,.c fun vv=>vv.2.2.1.2,.c fun _=>qi #[],.c fun _=>qc none (0:Nat) (0:Nat),.c fun _=>(val (jaR u4 u1)).1,.c fun _=>(val (y0 u4 u1)).1,.c fun vv=>vv.1.2.1,.c fun vv=>nS vv.1.2.2 (zf (za (val (y0 u4 u1)).1 vv.1.1.toNat (0:Int))) (0:Nat),.c fun vv=>nI vv.1.2.2 (zf (za (val (y0 u4 u1)).1 vv.1.1.toNat (0:Int))) (1:Nat),.c fun vv=>nI vv.1.2.2 (zf (za (val (y0 u4 u1)).1 vv.1.1.toNat (0:Int))) (5:Nat),.c fun vv=>nI vv.1.2.2 (zf (za (val (y0 u4 u1)).1 vv.1.1.toNat (0:Int))) (7:Nat),.c fun vv=>vv.1.2.2,.c fun vv=>zf (za (val (y0 u4 u1)).1 vv.1.1.toNat (0:Int)),.c fun vv=>nL vv.1.2.2 (zf (za (val (y0 u4 u1)).1 vv.1.1.toNat (0:Int))) (2:Nat),.c fun vv=>zf (za (val (y0 u4 u1)).1 vv.1.1.toNat (0:Int)),.c fun vv=>nL vv.1.2.2 (zf (za (val (y0 u4 u1)).1 vv.1.1.toNat (0:Int))) (3:Nat),.c fun vv=>zf (za (val (y0 u4 u1)).1 vv.1.1.toNat (0:Int)),.c fun vv=>nL vv.1.2.2 (zf (za (val (y0 u4 u1)).1 vv.1.1.toNat (0:Int))) (4:Nat),.c fun vv=>zf (za (val (y0 u4 u1)).1 vv.1.1.toNat (0:Int)),.c fun vv=>nR vv.1.2.2 (zf (za (val (y0 u4 u1)).1 vv.1.1.toNat (0:Int))) (6:Nat)]⟩
abbrev y160 (u4:ByteArray) (u1:List (List NC)) (r:ByteArray × List (List NC) × Int) (m1:Nat):Lp ((Int × List Int × List (List NC)) × Nat × Int × (Int × List (List NC) × List Int) × Nat) ((Int × List (List NC) × List Int)) ((Unit ⊕ (List (List NC) × List Int))) (((Int × List Int × List (List NC)) ⊕ (Unit ⊕ (List (List NC))))) (ByteArray × List (List NC) × Int) :=
 ⟨fun z=>z.2.2.2.1,fun z=>z.2.2.2.2,fun z x n=>(z.1,z.2.1,z.2.2.1,x,n),fun z=>y35 z.1 z.2.2.1 (val (y0 u4 u1)),fun z=>y105 z.1 z.2.2.1 (val (y0 u4 u1)),fun z=>(y70 u4 u1 r).cx (z.1,m1),fun z=>z.2.1,[.c fun _=>0,.c fun _=>0,.c fun vv=>vv.1.1,.c fun _=>0,.c fun vv=>vv.2.2.1,.c fun vv=>vv.2.2.2.1.1,.c fun _=>qi #[],.c fun _=>qc none (0:Nat) (0:Nat),.c fun _=>(val (jaR u4 u1)).1,.c fun _=>(val (y0 u4 u1)).1,.c fun vv=>vv.1.2.1,.c fun vv=>nS vv.1.2.2 (zf (za (val (y0 u4 u1)).1 vv.1.1.toNat (0:Int))) (0:Nat),.c fun vv=>nI vv.1.2.2 (zf (za (val (y0 u4 u1)).1 vv.1.1.toNat (0:Int))) (1:Nat),.c fun vv=>nI vv.1.2.2 (zf (za (val (y0 u4 u1)).1 vv.1.1.toNat (0:Int))) (5:Nat),.c fun vv=>nI vv.1.2.2 (zf (za (val (y0 u4 u1)).1 vv.1.1.toNat (0:Int))) (7:Nat),.c fun vv=>vv.2.2.2.1.2.1,.c fun vv=>zf (za (val (y0 u4 u1)).1 vv.1.1.toNat (0:Int)),.c fun vv=>nL vv.1.2.2 (zf (za (val (y0 u4 u1)).1 vv.1.1.toNat (0:Int))) (2:Nat),.c fun vv=>zf (za (val (y0 u4 u1)).1 vv.1.1.toNat (0:Int)),.c fun vv=>vv.2.2.2.1.2.2,.c fun vv=>zf (za (val (y0 u4 u1)).1 vv.1.1.toNat (0:Int)),.c fun vv=>nL vv.1.2.2 (zf (za (val (y0 u4 u1)).1 vv.1.1.toNat (0:Int))) (4:Nat),.c fun vv=>zf (za (val (y0 u4 u1)).1 vv.1.1.toNat (0:Int)),.c fun vv=>nR vv.1.2.2 (zf (za (val (y0 u4 u1)).1 vv.1.1.toNat (0:Int))) (6:Nat)]⟩
def jlV (u4:ByteArray) (u1:List (List NC)) (r:ByteArray × List (List NC) × Int):Sk (top r) (ze (jag (y9 (val (y0 u4 u1))) big (((0:Int),zr (zf (↑u1.length:Int)) (0:Int),(val (jaR u4 u1)).2))) (y69 (val (jaR u4 u1)))) :=
 .loop (y70 u4 u1 r) (fun kk=>(((0:Int),zr (zf (↑u1.length:Int)) (0:Int),(val (jaR u4 u1)).2),big)) fun z0 =>
 .br
 (.ob (.ob (.ob (.ob (.loop (y159 u4 u1 r z0.2) (fun kk=>(z0.1,kk,((0:Int),0),big)) fun z1 =>
 .br
 (.ob (.ob (.ob (.ob (.ob (.ob (.next)))))))
 (.exit (.loop (y160 u4 u1 r z0.2) (fun kk=>(z1.1,kk,z1.2.2.1.1,((0:Int),z1.1.2.2,nL z1.1.2.2 (zf (za (val (y0 u4 u1)).1 z1.1.1.toNat (0:Int))) (3:Nat)),big)) fun z1 =>
 .br
 (.ob (.ob (.ob (.ob (.ob (.ob (.ob (.ob (.br
 (.exit (.exit (.obT (.obT (.ret (fun r=>(Ob (qi #[]=r.1) ∧
 (Ob (zg r.2.1=(0:Nat)) ∧
 (Ob ((8:Int)=r.2.2) ∧
 True)))) ⟨⟨rfl⟩,⟨⟨rfl⟩,⟨⟨rfl⟩,trivial⟩⟩⟩)))))
 (.next))))))))))
 (.exit (.ob (.ob (.ob (.ob (.next)))))))))))))
 (.exit (.obT (.obT (.rc))))
def jmy (u4:ByteArray) (u1:List (List NC)) (r:ByteArray × List (List NC) × Int):Sk (top r) (y10 u4 u1) :=
 .call (.call (.ob (jlV u4 u1 r)))
def jlW (u4:ByteArray) (u1:List (List NC)) (r:ByteArray × List (List NC) × Int) (h:ze (y10 u4 u1) some=some r):jbl Tryz.f38 ((sp_19b (sp_23 sp0))) (fun gs id st=>match id with
 |0=>some ⟨(Int × List Int × List (List NC)) × Nat,fun z=>⟨[(2,.w (.c (.p 1 0 1 0))),(4,.w (.c (.p 2 0 1 0))),(5,.w (.c (.o 3))),(7,.w (.c (.o 4))),(8,.w (.c (.d (.i .i64 z.1.1))))],[(1,.box 24 [.d (.s (qi #[])),.d (.v (qc none (0:Nat) (0:Nat)))]),(2,.box 24 [.d (.s ((val (jaR u4 u1)).1)),.o 5]),(3,.row 3 (.ints .i64 ((val (y0 u4 u1)).1))),(4,.row 3 (.ints .i64 z.1.2.1)),(5,.mrow 118 zE (XC.st zS z.1.2.2) none)],6⟩,fun z=>(y70 u4 u1 r).inv z,fun z=>z.2⟩
 |2=>some ⟨(Int × List Int × List (List NC)) × Nat × (Int × Int) × Nat,fun z=>⟨[(2,.w (.c (.p 1 0 1 0))),(4,.w (.c (.p 2 0 1 0))),(5,.w (.c (.o 3))),(7,.w (.c (.o 4))),(8,.w (.c (.d (.i .i64 (z.1.1))))),(9,.w (.c (.p 5 0 1 0))),(10,.w (.c (.d (.i .i64 z.2.2.1.1)))),(11,.w (.c (.d (.i .i64 z.2.2.1.2))))],[(1,.box 24 [.d (.s (qi #[])),.d (.v (qc none (0:Nat) (0:Nat)))]),(2,.box 24 [.d (.s ((val (jaR u4 u1)).1)),.o 6]),(3,.row 3 (.ints .i64 ((val (y0 u4 u1)).1))),(4,.row 3 (.ints .i64 (z.1.2.1))),(5,.box 118 [.d (.s (nS z.1.2.2 (zf (za (val (y0 u4 u1)).1 z.1.1.toNat (0:Int))) (0:Nat))),.d (.i .i64 (nI z.1.2.2 (zf (za (val (y0 u4 u1)).1 z.1.1.toNat (0:Int))) (1:Nat))),.o 7,.o 8,.o 9,.d (.i .i64 (nI z.1.2.2 (zf (za (val (y0 u4 u1)).1 z.1.1.toNat (0:Int))) (5:Nat))),.o 10,.d (.i .i64 (nI z.1.2.2 (zf (za (val (y0 u4 u1)).1 z.1.1.toNat (0:Int))) (7:Nat)))]),(6,.mrow 118 zE (XC.st zS z.1.2.2) none),(7,.sub 6 (zf (za (val (y0 u4 u1)).1 z.1.1.toNat (0:Int))) 8 2 3 (.ints .i64 (nL z.1.2.2 (zf (za (val (y0 u4 u1)).1 z.1.1.toNat (0:Int))) (2:Nat)))),(8,.sub 6 (zf (za (val (y0 u4 u1)).1 z.1.1.toNat (0:Int))) 8 3 3 (.ints .i64 (nL z.1.2.2 (zf (za (val (y0 u4 u1)).1 z.1.1.toNat (0:Int))) (3:Nat)))),(9,.sub 6 (zf (za (val (y0 u4 u1)).1 z.1.1.toNat (0:Int))) 8 4 3 (.ints .i64 (nL z.1.2.2 (zf (za (val (y0 u4 u1)).1 z.1.1.toNat (0:Int))) (4:Nat)))),(10,.sub 6 (zf (za (val (y0 u4 u1)).1 z.1.1.toNat (0:Int))) 8 6 148 (.recs 5 (nR z.1.2.2 (zf (za (val (y0 u4 u1)).1 z.1.1.toNat (0:Int))) (6:Nat))))],11⟩,fun z=>(y159 u4 u1 r (gs.getD 0 0)).inv z,fun z=>z.2.2.2⟩
 |4=>some ⟨(Int × List Int × List (List NC)) × Nat × Int × (Int × List (List NC) × List Int) × Nat,fun z=>⟨[(2,.w (.c (.p 1 0 1 0))),(4,.w (.c (.p 2 0 1 0))),(5,.w (.c (.o 3))),(7,.w (.c (.o 4))),(8,.w (.c (.d (.i .i64 (z.1.1))))),(9,.w (.c (.p 5 0 1 0))),(10,.w (.c (.d (.i .i64 z.2.2.1)))),(12,.w (.c (.d (.i .i64 z.2.2.2.1.1))))],[(1,.box 24 [.d (.s (qi #[])),.d (.v (qc none (0:Nat) (0:Nat)))]),(2,.box 24 [.d (.s ((val (jaR u4 u1)).1)),.o 6]),(3,.row 3 (.ints .i64 ((val (y0 u4 u1)).1))),(4,.row 3 (.ints .i64 (z.1.2.1))),(5,.box 118 [.d (.s (nS z.1.2.2 (zf (za (val (y0 u4 u1)).1 z.1.1.toNat (0:Int))) (0:Nat))),.d (.i .i64 (nI z.1.2.2 (zf (za (val (y0 u4 u1)).1 z.1.1.toNat (0:Int))) (1:Nat))),.o 7,.o 8,.o 9,.d (.i .i64 (nI z.1.2.2 (zf (za (val (y0 u4 u1)).1 z.1.1.toNat (0:Int))) (5:Nat))),.o 10,.d (.i .i64 (nI z.1.2.2 (zf (za (val (y0 u4 u1)).1 z.1.1.toNat (0:Int))) (7:Nat)))]),(6,.mrow 118 zE (XC.st zS z.2.2.2.1.2.1) none),(7,.sub 6 (zf (za (val (y0 u4 u1)).1 z.1.1.toNat (0:Int))) 8 2 3 (.ints .i64 (nL z.1.2.2 (zf (za (val (y0 u4 u1)).1 z.1.1.toNat (0:Int))) (2:Nat)))),(8,.sub 6 (zf (za (val (y0 u4 u1)).1 z.1.1.toNat (0:Int))) 8 3 3 (.ints .i64 z.2.2.2.1.2.2)),(9,.sub 6 (zf (za (val (y0 u4 u1)).1 z.1.1.toNat (0:Int))) 8 4 3 (.ints .i64 (nL z.1.2.2 (zf (za (val (y0 u4 u1)).1 z.1.1.toNat (0:Int))) (4:Nat)))),(10,.sub 6 (zf (za (val (y0 u4 u1)).1 z.1.1.toNat (0:Int))) 8 6 148 (.recs 5 (nR z.1.2.2 (zf (za (val (y0 u4 u1)).1 z.1.1.toNat (0:Int))) (6:Nat))))],11⟩,fun z=>(y160 u4 u1 r (gs.getD 0 0)).inv z,fun z=>z.2.2.2.2⟩
 |_=>none) (jbd y115 [.d (.s u4),.x (.st zS u1)]) [.s [.d (.s r.1),.m 118 zE (.st (zS) r.2.1)],.c (.d (.i .i64 r.2.2))] :=
 Sk.vc (jmy u4 u1 r) (by kernel_rfl) h
def jlX:jaf Tryz.prog 38 true (jai y115 y116):=by
 refine jaC (sp:=(sp_19b (sp_23 sp0))) (fn:=Tryz.f38) (body:=bodyOf Tryz.f38) mixed (sp_19b_ok (sp_23_ok jau)) Tryz.func38 (by kernel_rfl) (by kernel_rfl) fun ls t h ho b hb=>?_;unfold y116 at h;split at h
 ·rename_i u4 u1;cases h;obtain rfl:=jaN hb;exact⟨zj (by kernel_rfl),_,_,jlW u4 u1 _ (jar ho)⟩
 ·cases h
def sp_38_ok {sp:jaa} (h:jac Tryz.prog sp):jac Tryz.prog (sp_38 sp):=jap jlX h
end Go.Sh
end

section
namespace Go.Sh
open Go Go.Proofs Go.RowKit Go.Sx
variable {g:List (List NC)} {l:List Int}
def mK (F a T:List Int):Nat->Int
 |0=>0
 |k+1=>if T.getD (F.getD k 0).toNat 0+a.getD k 0>mK F a T k then T.getD (F.getD k 0).toNat 0+a.getD k 0 else mK F a T k
def alK (F a T:List Int) (M:Int):Nat->List Int
 |0=>a
 |k+1=>(alK F a T M k).set k (M-T.getD (F.getD k 0).toNat 0)
def jfn (F a T:List Int) (M:Int):∀k,(alK F a T M k).length=a.length
 |0=>rfl
 |k+1=>by rw[alK,hC,jfn F a T M k]
def ji2 {F a T:List Int} {M:Int} {q:Nat} (hq:q<a.length):∀k,(alK F a T M k).getD q 0=if q<k then M-T.getD (F.getD q 0).toNat 0 else a.getD q 0
 |0=>by rw[alK,if_neg (by omega)]
 |k+1=>by
  rw[alK]
  by_cases hk:k=q
  ·subst hk;rw[jaT _ _ _ _ _ (by rw[jfn];exact hq),if_pos rfl,if_pos (by omega)]
  ·have:((alK F a T M k).set k (M-T.getD (F.getD k 0).toNat 0)).getD q 0=(alK F a T M k).getD q 0:=by
    simp only[za];rw[fd hk]
   rw[this,ji2 hq k]
   by_cases h:q<k
   ·rw[if_pos h,if_pos (by omega)]
   ·rw[if_neg h,if_neg (by omega)]
structure RdC (n:Nat) (F a T:List Int) (B:Int):Prop where
 t:T.length=n
 la:a.length=F.length
 ln:F.length<100
 b:B<=1000000000
 b0:0<=B
 f:∀k,k<F.length->0<=F.getD k 0∧F.getD k 0<(n:Int)∧0<=T.getD (F.getD k 0).toNat 0∧T.getD (F.getD k 0).toNat 0<=B
 a:∀k,k<F.length->0<=a.getD k 0∧a.getD k 0<=64
variable {n:Nat} {F a T:List Int} {B:Int}
def RdC.m (h:RdC n F a T B):∀k,k<=F.length->0<=mK F a T k∧mK F a T k<=B+64∧∀q,q<k->T.getD (F.getD q 0).toNat 0+a.getD q 0<=mK F a T k
 |0,_=>⟨Int.le_refl _,by have:=h.b0;show(0:Int)<=_;omega,fun q hq=>absurd hq (by omega)⟩
 |k+1,hk=>by
  obtain⟨h1,h2,h3⟩:=h.m k (by omega);have hf:=h.f k hk;have ha:=h.a k hk;simp only[mK];split
  ·rename_i hgt;refine⟨by omega,by omega,fun q hq=>?_⟩
   by_cases e:q=k
   ·subst e;omega
   ·have:=h3 q (by omega);omega
  ·rename_i hgt;refine⟨h1,h2,fun q hq=>?_⟩
   by_cases e:q=k
   ·subst e;omega
   ·exact h3 q (by omega)
section
variable {f:Nat->List Int} {i j:Nat}
def maxE (hi:i<g.length) (hj:l.getD j 0=(i:Int)) (h:RdC g.length (nL g i 2) (f i) T B):jag (y68 ((j:Int),T,wA g f) l) big ((0:Int),(0:Int))=some (mK (nL g i 2) (f i) T (nL g i 2).length):=by
 have hb:=h.b;refine jcO (fun k=>(mK (nL g i 2) (f i) T k,(k:Int))) (k:=(nL g i 2).length) (fun k hk=>?_) ?_ (by have:=h.ln;omega)
 ·obtain⟨f1,f2,f3,f4⟩:=h.f k hk;have ha:=h.a k hk;have hl:=h.la;have ht:=h.t;have hn:=h.ln;unfold y68;simp only[zN,zm,hj,(jbu f hi).1,(jbu f hi).2.1,ja6];rw[if_pos (by omega),if_pos (by omega),if_pos hk,if_pos (by omega),if_pos (by omega),if_pos hi,if_pos (by omega),if_pos (by omega),jaF (by omega),jaF (by omega)];rfl
 ·unfold y68;simp only[zN,zm,hj,(jbu f hi).1];rw[if_neg (by omega)]
def maxR (hi:i<g.length) (hj:l.getD j 0=(i:Int)) (h:RdC g.length (nL g i 2) (f i) T B):jag (y52 ((j:Int),T,wA g f) (l,true)) big ((0:Int),(0:Int))=some (mK (nL g i 2) (f i) T (nL g i 2).length):=by
 have hb:=h.b;refine jcO (fun k=>(mK (nL g i 2) (f i) T k,(k:Int))) (k:=(nL g i 2).length) (fun k hk=>?_) ?_ (by have:=h.ln;omega)
 ·obtain⟨f1,f2,f3,f4⟩:=h.f k hk;have ha:=h.a k hk;have hl:=h.la;have ht:=h.t;have hn:=h.ln;unfold y52;simp only[zN,zm,hj,(jbu f hi).1,(jbu f hi).2.1];rw[if_pos (by omega),if_pos (by omega),if_pos hk,if_pos (by omega),if_pos (by omega),if_pos (by omega),if_pos (by omega),jaF (by omega),jaF (by omega)];rfl
 ·unfold y52;simp only[zN,zm,hj,(jbu f hi).1];rw[if_neg (by omega)]
abbrev gK (g:List (List NC)) (f:Nat->List Int) (i:Nat) (T:List Int) (M:Int) (k:Nat):List (List NC):=wA g (jdz f i (alK (nL g i 2) (f i) T M k))
def jzf (hi:i<g.length) (hj:l.getD j 0=(i:Int)) (h:RdC g.length (nL g i 2) (f i) T B) {M:Int} (hM:0<=M∧M<=B+64) :
  ∃y y',jag (y49 ((j:Int),T,wA g f) M l) big ((0:Int),wA g f)=some y∧jag (y35 ((j:Int),T,wA g f) M (l,true)) big ((0:Int),wA g f,f i)=some y' ∧
   ((y=.inl ()∧y'=.inl ()∧∃q,q<(nL g i 2).length∧M-T.getD ((nL g i 2).getD q 0).toNat 0>64)∨(y=.inr (gK g f i T M (nL g i 2).length)∧y'=.inr (gK g f i T M (nL g i 2).length,alK (nL g i 2) (f i) T M (nL g i 2).length)∧∀q,q<(nL g i 2).length->M-T.getD ((nL g i 2).getD q 0).toNat 0<=64)):=by
 have hb:=h.b;have hl:=h.la;have ht:=h.t;have hn:=h.ln
 have e0:gK g f i T M 0=wA g f:=jtC fun k hk=>by
  unfold jdz;split
  ·rename_i e;subst e;rfl
  ·rfl
 refine jhg (fun m x x'=>∃k,k<=(nL g i 2).length∧m=(nL g i 2).length-k∧x=((k:Int),gK g f i T M k)∧x'=((k:Int),gK g f i T M k,alK (nL g i 2) (f i) T M k)∧∀q,q<k->M-T.getD ((nL g i 2).getD q 0).toNat 0<=64) _ ?_ (nL g i 2).length _ _ big big (by show _<18446744073709551616;omega) (by show _<18446744073709551616;omega) ⟨0,qI _,rfl,by rw[e0];rfl,by rw[e0];rfl,fun q hq=>absurd hq (by omega)⟩;rintro m x x' ⟨k,hk,rfl,rfl,rfl,hq⟩
 by_cases hlt:k<(nL g i 2).length
 ·obtain⟨f1,f2,f3,f4⟩:=h.f k hlt;have hset:=jCI (jdz f i (alK (nL g i 2) (f i) T M k)) hi ((alK (nL g i 2) (f i) T M k).set k (M-T.getD ((nL g i 2).getD k 0).toNat 0))
  have hupd:wA g (jdz (jdz f i (alK (nL g i 2) (f i) T M k)) i ((alK (nL g i 2) (f i) T M k).set k (M-T.getD ((nL g i 2).getD k 0).toNat 0)))=gK g f i T M (k+1):=jtC fun q hq=>by
   unfold jdz;split
   ·rfl
   ·rfl
  rw[hupd]at hset
  have e3:nL (gK g f i T M k) i 3=alK (nL g i 2) (f i) T M k:=by
   rw[(jbu _ hi).2.1];unfold jdz;rw[if_pos rfl]
  have e3':nL (gK g f i T M (k+1)) i 3=alK (nL g i 2) (f i) T M (k+1):=by
   rw[(jbu _ hi).2.1];unfold jdz;rw[if_pos rfl]
  have hw:=jaF (x:=M-T.getD ((nL g i 2).getD k 0).toNat 0) (by omega)
  have hg:(alK (nL g i 2) (f i) T M (k+1)).getD k 0=M-T.getD ((nL g i 2).getD k 0).toNat 0:=by
   rw[ji2 (by omega),if_pos (by omega)]
  have hla:=jfn (nL g i 2) (f i) T M k;have hla':=jfn (nL g i 2) (f i) T M (k+1);have hstep:alK (nL g i 2) (f i) T M (k+1)=(alK (nL g i 2) (f i) T M k).set k (M-T.getD ((nL g i 2).getD k 0).toNat 0):=rfl
  have hE:y49 ((j:Int),T,wA g f) M l ((k:Int),gK g f i T M k)=if M-T.getD ((nL g i 2).getD k 0).toNat 0>64 then some (.inr (.inl ()))else some (.inl (((k+1:Nat):Int),gK g f i T M (k+1))):=by
   unfold y49;simp only[zN,zm,hj,(jbu f hi).1,e3,ja6,hw,show(zS:List NK)=shV from rfl,hset,e3',hg];rw[if_pos (by omega),if_pos (by omega),if_pos hlt,if_pos hi,if_pos (by omega),if_pos (by omega),if_pos (by omega),if_pos (by omega),if_pos hi,if_pos (by omega),if_pos (by omega),jaF (by omega)];rfl
  have hR:y35 ((j:Int),T,wA g f) M (l,true) ((k:Int),gK g f i T M k,alK (nL g i 2) (f i) T M k)=if M-T.getD ((nL g i 2).getD k 0).toNat 0>64 then some (.inr (.inl ()))else some (.inl (((k+1:Nat):Int),gK g f i T M (k+1),alK (nL g i 2) (f i) T M (k+1))):=by
   unfold y35;simp only[zN,zm,hj,(jbu f hi).1,hw,show(zS:List NK)=shV from rfl,<-hstep];rw[hstep,hset,<-hstep,hg];rw[if_pos (by omega),if_pos (by omega),if_pos hlt,if_pos (by omega),if_pos (by omega),if_pos (by omega),if_pos (by omega),if_pos (by omega),if_pos (by omega),jaF (by omega)];rfl
  by_cases hgt:M-T.getD ((nL g i 2).getD k 0).toNat 0>64
  ·rw[if_pos hgt]at hE hR;exact .inl ⟨_,_,hE,hR,.inl ⟨rfl,rfl,k,hlt,hgt⟩⟩
  ·rw[if_neg hgt]at hE hR;refine .inr ⟨(nL g i 2).length-(k+1),_,_,by omega,hE,hR,k+1,hlt,rfl,rfl,rfl,fun q hq'=>?_⟩
   by_cases e:q=k
   ·subst e;omega
   ·exact hq q (by omega)
 ·obtain rfl:k=(nL g i 2).length:=by omega
  refine .inl ⟨_,_,?_,?_,.inr ⟨rfl,rfl,hq⟩⟩
  ·unfold y49;simp only[zN,zm,hj,(jbu f hi).1];rw[if_neg (by omega)]
  ·unfold y35;simp only[zN,zm,hj,(jbu f hi).1];rw[if_neg (by omega)]
end
end Go.Sh
end

section
namespace Go.Sh
open Go Go.Proofs Go.RowKit Go.Sx
variable {g:List (List NC)} {l:List Int} {T:List Int} {f:Nat->List Int} {i j:Nat} {B:Int}
def jzg (hi:i<g.length) (hjl:j<l.length) (hl:l.length<1000) (hj:l.getD j 0=(i:Int)) (h:RdC g.length (nL g i 2) (f i) T B) (hd:0<=nI g i 5∧nI g i 5<=64) {M:Int} (hM:M=mK (nL g i 2) (f i) T (nL g i 2).length) :
  (y8 l ((j:Int),T,wA g f)=some (.inr (.inl ()))∧y9 (l,true) ((j:Int),T,wA g f)=some (.inr (.inl ()))∧∃q,q<(nL g i 2).length∧M-T.getD ((nL g i 2).getD q 0).toNat 0>64) ∨
  (y8 l ((j:Int),T,wA g f)=some (.inl (((j+1:Nat):Int),T.set i (M+nI g i 5),gK g f i T M (nL g i 2).length))∧y9 (l,true) ((j:Int),T,wA g f)=some (.inl (((j+1:Nat):Int),T.set i (M+nI g i 5),gK g f i T M (nL g i 2).length))∧∀q,q<(nL g i 2).length->M-T.getD ((nL g i 2).getD q 0).toNat 0<=64):=by
 have hm:=h.m _ (zu _);have hb:=h.b;have ht:=h.t;rw[<-hM]at hm;obtain⟨y,y',h1,h2,h3⟩:=jzf hi hj h (M:=M) ⟨hm.1,hm.2.1⟩
 have hE:y8 l ((j:Int),T,wA g f)=y125 ((j:Int),T,wA g f) M l y:=by
  unfold y8;simp only[zN,zm,hj,ja6];rw[if_pos (by omega),if_pos (by omega),if_pos hjl,if_pos (by omega),if_pos hi,maxE hi hj h,jad,<-hM];unfold y126;simp only[zN,zm,hj,ja6];rw[if_pos hi,h1,jad]
 have hR:y9 (l,true) ((j:Int),T,wA g f)=y105 ((j:Int),T,wA g f) M (l,true) y':=by
  unfold y9;simp only[zN,zm,hj,ja6];rw[if_pos (by omega),if_pos (by omega),if_pos hjl,if_pos (by omega),if_pos hi,maxR hi hj h,jad,<-hM];unfold y106;simp only[zN,zm,hj,(jbu f hi).2.1];rw[h2,jad]
 rcases h3 with ⟨rfl,rfl,h4⟩|⟨rfl,rfl,h4⟩
 ·exact .inl ⟨hE,hR,h4⟩
 ·refine .inr ⟨hE.trans ?_,hR.trans ?_,h4⟩
  ·show y104 _ _ _ _=_
   unfold y104;simp only[zN,zm,hj,ja6,(jhi _ hi).2.1];rw[if_pos hi,if_pos (by omega),if_pos (by omega),jaF (by omega),jaF (by omega)];rfl
  ·show y92 _ _ _ _=_
   unfold y92;simp only[zN,zm,hj,ja6,(jhi _ hi).2.1];rw[if_pos (by omega),if_pos hjl,if_pos (by omega),if_pos (by omega),jaF (by omega),jaF (by omega)];rfl
structure CInv (g:List (List NC)) (l:List Int) (j:Nat) (T:List Int) (f:Nat->List Int):Prop where
 t:T.length=g.length
 lf:∀i,i<g.length->(f i).length=(nL g i 3).length
 al:∀i,i<g.length->∀k,k<(f i).length->0<=(f i).getD k 0∧(f i).getD k 0<=64
 tb:∀p u:Nat,p<j->l.getD p 0=(u:Int)->0<=T.getD u 0∧T.getD u 0<=128*(j:Int)
 con:∀p u:Nat,p<j->l.getD p 0=(u:Int)->(∀k v:Nat,k<(nL g u 2).length->(nL g u 2).getD k 0=(v:Int)->T.getD v 0+((f u).getD k 0+nI g u 5)=T.getD u 0)∧((nL g u 2).length=0->T.getD u 0=nI g u 5)
def CInv.rd (hc:CInv g l j T f) (h:Rg g l) (hj:j<g.length) (hi:i<g.length) (e:l.getD j 0=(i:Int)):RdC g.length (nL g i 2) (f i) T (128*(j:Int)):=by
 have hn:=h.n;have hs:=(jfm (h.ok i hi)).1;have hlf:=hc.lf i hi;refine⟨hc.t,by omega,h.fw.fr i hi,by omega,by omega,fun k hk=>?_,fun k hk=>hc.al i hi k (by omega)⟩;obtain⟨j',u,h1,h2,h3,h4⟩:=h.from hj e hi hk;rw[h3,zm];have:=hc.tb j' u h1 h4;omega
def CInv.step (hc:CInv g l j T f) (h:Rg g l) (hj:j<g.length) (hi:i<g.length) (e:l.getD j 0=(i:Int)) {M:Int} (hM:M=mK (nL g i 2) (f i) T (nL g i 2).length) (hq:∀q,q<(nL g i 2).length->M-T.getD ((nL g i 2).getD q 0).toNat 0<=64) :
  CInv g l (j+1) (T.set i (M+nI g i 5)) (jdz f i (alK (nL g i 2) (f i) T M (nL g i 2).length)):=by
 have hr:=hc.rd h hj hi e;have hm:=hr.m _ (zu _);rw[<-hM]at hm;have hd:=(ji0 (h.ok i hi)).2;have hT:=hc.t;have hs:=(jfm (h.ok i hi)).1;have hlf:=hc.lf i hi;have hne:∀p u:Nat,p<j->l.getD p 0=(u:Int)->¬i=u:=fun p u hp hu hiu=>h.lt_ne hj hp (by rw[hu,e,hiu]);have hget:∀u:Nat,(T.set i (M+nI g i 5)).getD u 0=if i=u then M+nI g i 5 else T.getD u 0:=fun u=>jaT _ _ _ _ _ (by omega)
 refine⟨by rw[hC];exact hT,fun u hu=>?_,fun u hu k hk=>?_,fun p u hp hu=>?_,fun p u hp hu=>?_⟩
 ·unfold jdz;split
  ·rename_i hui;subst hui;rw[jfn];exact hlf
  ·exact hc.lf u hu
 ·unfold jdz at hk ⊢;split
  ·rename_i hui;subst hui;rw[if_pos rfl,jfn]at hk;have hk2:k<(nL g u 2).length:=by omega
   rw[ji2 hk,if_pos hk2];have h1:=hq k hk2;have h2:=hm.2.2 k hk2;have h3:=hr.a k hk2;omega
  ·rename_i hui;rw[if_neg hui]at hk;exact hc.al u hu k hk
 ·rw[hget]
  by_cases hpj:p=j
  ·subst hpj;have:(i:Int)=u:=e.symm.trans hu;rw[if_pos (by omega)];omega
  ·have hp:p<j:=by omega
   rw[if_neg (hne p u hp hu)];have:=hc.tb p u hp hu;omega
 ·have hv:∀p u,p<=j->u<g.length->l.getD p 0=(u:Int)->p<g.length->∀k v:Nat,k<(nL g u 2).length->(nL g u 2).getD k 0=(v:Int)->(T.set i (M+nI g i 5)).getD v 0=T.getD v 0:=fun p u hp hu e2 hpn k v hk hkv=>by
   obtain⟨j',u',h1,h2,h3,h4⟩:=h.from hpn e2 hu hk;have:(u':Int)=v:=h3.symm.trans hkv;have huv:u'=v:=by omega
   rw[hget,if_neg (hne j' v (by omega) (by rw[h4,huv]))]
  by_cases hpj:p=j
  ·subst hpj;have hiu:(i:Int)=u:=e.symm.trans hu;obtain rfl:i=u:=by omega
   rw[hget,if_pos rfl];refine⟨fun k v hk hkv=>?_,fun h0=>?_⟩
   ·rw[hv p i (zu _) hi e hj k v hk hkv];unfold jdz;rw[if_pos rfl,ji2 (by omega),if_pos hk,hkv,zm];omega
   ·rw[h0]at hM;have:M=0:=hM;omega
  ·have hp:p<j:=by omega
   have hun:u<g.length:=by
    obtain⟨i',h1,h2,_⟩:=h.at (j:=p) (by omega);have:(i':Int)=u:=h2.symm.trans hu;omega
   obtain⟨c1,c2⟩:=hc.con p u hp hu;have hnu:=hne p u hp hu;rw[hget,if_neg hnu];refine⟨fun k v hk hkv=>?_,c2⟩;rw[hv p u (by omega) hun hu (by omega) k v hk hkv];unfold jdz;rw[if_neg (fun hh=>hnu hh.symm)];exact c1 k v hk hkv
def jAM (h:Rg g l):∃y y',jag (y8 l) big ((0:Int),zr g.length 0,cpU g)=some y∧jag (y9 (l,true)) big ((0:Int),zr g.length 0,cpU g)=some y' ∧
  ((y=.inl ()∧y'=.inl ())∨∃T f,y=.inr (wA g f)∧y'=.inr (wA g f)∧CInv g l g.length T f):=by
 have hn:=h.n;have hl:=h.len;refine jhg (fun m x x'=>∃j T f,j<=g.length∧m=g.length-j∧x=((j:Int),T,wA g f)∧x'=((j:Int),T,wA g f)∧CInv g l j T f) _ ?_ g.length _ _ big big (by show _<18446744073709551616;omega) (by show _<18446744073709551616;omega) ⟨0,_,_,qI _,rfl,rfl,rfl,?_⟩
 ·rintro m x x' ⟨j,T,f,hj,rfl,rfl,rfl,hc⟩
  by_cases hlt:j<g.length
  ·obtain⟨i,hi,e,_⟩:=h.at hlt;have hd:=(ji0 (h.ok i hi)).2;rcases jzg hi (by omega) (by omega) e (hc.rd h hlt hi e) hd rfl with ⟨h1,h2,_⟩|⟨h1,h2,h3⟩
   ·exact .inl ⟨_,_,h1,h2,.inl ⟨rfl,rfl⟩⟩
   ·exact .inr ⟨g.length-(j+1),_,_,by omega,h1,h2,j+1,_,_,hlt,rfl,rfl,rfl,hc.step h hlt hi e rfl h3⟩
  ·obtain rfl:j=g.length:=by omega
   refine .inl ⟨_,_,?_,?_,.inr ⟨T,f,rfl,rfl,hc⟩⟩
   ·unfold y8;rw[if_neg (by show ¬(g.length:Int)<(l.length:Int);omega)]
   ·unfold y9;rw[if_neg (by show ¬(g.length:Int)<(l.length:Int);omega)]
 ·exact⟨by simp,fun i hi=>rfl,fun i hi k hk=>(ji0 (h.ok i hi)).1 k hk,fun p u hp=>absurd hp (by omega),fun p u hp=>absurd hp (by omega)⟩
end Go.Sh
end

section
namespace Go.Sh
open Go Go.Proofs Go.RowKit Go.Sx
variable {g:List (List NC)} {l:List Int} {T:List Int} {f:Nat->List Int} {i j:Nat} {B:Int}
def jtF (hw:Fw g) {f:Nat->List Int} (hf:∀i,i<g.length->(f i).length<100) {nm:ByteArray} (h1:jbc nm (wA g f)=none) (h2:jbI nm (wA g f)=some (nm,l,0)) {y:Unit ⊕ List (List NC)}
  (hy:jag (y8 l) big ((0:Int),zr g.length 0,wA g f)=some y):y6 nm (wA g f)=y90 (nm,wA g f) y:=by
 have hn:=hw.n;unfold y6 jjS jdG jay;rw[h1,h2,if_neg (by simp),zQ,jad,jze hw nm f hf,jad,ja6,if_pos (by omega),zm,hy,jad]
def jxD (h:Rg g l) {nm:ByteArray} (hs:nm.size<1000) (h0:(cg nm g).2=0) :
  (y6 nm (cpU g)=some (qi #[],[],8)∧y10 nm g=some (qi #[],[],8)) ∨
  ∃T f,y6 nm (cpU g)=some (nm,wA g f,0)∧y10 nm g=some (nm,wA g f,0)∧CInv g l g.length T f:=by
 have hn:=h.n;obtain⟨y,y',h1,h2,h3⟩:=jAM h;obtain⟨o1,o2⟩:=jj2 h.cp hs (by rw[jrR];exact h0);have hE:=jtF h.fw (f:=fun i=>nL g i 3) (fun i hi=>h.fw.al i hi) (nm:=nm) o1 o2 h1
 have hR:y10 nm g=y69 (nm,cpU g) y':=by
  unfold y10;rw[jqi h.fw,jad,jlB h.fw,h.ord,jad,if_pos (by omega),zm,h2,jad]
 rcases h3 with ⟨rfl,rfl⟩|⟨T,f,rfl,rfl,hc⟩
 ·exact .inl ⟨hE,hR⟩
 ·exact .inr ⟨T,f,hE,hR,hc⟩
def CInv.rg (hc:CInv g l g.length T f) (h:Rg g l):Rg (wA g f) l:=wA_rg h f hc.lf hc.al
def CInv.lf100 (hc:CInv g l j T f) (h:Rg g l):∀i,i<g.length->(f i).length<100:=fun i hi=>by
 rw[hc.lf i hi];exact h.fw.al i hi
def jtG (hc:CInv g l g.length T f) (h:Rg g l) {w:List Int} {n:Int} {i:Nat} (hw:WayTo (wA g f) w n i):T.getD i 0=n∧i<g.length:=by
 induction hw with
 | @one i hi hk =>
  rw[ja6]at hi;rw[(jhi f hi).1]at hk;obtain⟨p,hp,e⟩:=h.surj hi;have h0:=((jfm (h.ok i hi)).2).2 hk;have h1:=(jfZ (h.ok i hi)).2.1;unfold jcj at h1;simp only[zk]at h1;have h2:=h1.2;rw[hk]at h2;have:nI g i 5=0:=by simpa using h2
  exact⟨by rw[(hc.con p i hp e).2 h0,this],hi⟩
 | @on w n u i k hu hi hk he ih =>
  rw[ja6]at hi;rw[(jbu f hi).1]at hk he;obtain⟨p,hp,e⟩:=h.surj hi;refine⟨?_,hi⟩;rw[(jbu f hi).2.1,(jhi f hi).2.1,<-(hc.con p i hp e).1 k u hk he,ih.1]
def jCL (hc:CInv g l g.length T f) (h:Rg g l) {nm:ByteArray} (hs:nm.size<1000) (h0:(cg nm (wA g f)).2=0):∃O,y29 nm (wA g f)=some (O,0):=by
 have hX:=hc.rg h;rcases jxw hX hs h0 nm with ⟨_,hR⟩|⟨O,hE,_⟩
 ·exfalso;rcases jpm hX nm nm with ⟨d,_,_,i,w1,w2,hne,_⟩|⟨A,O,_,hR2,_⟩
  ·exact hne ((jtG hc h w1).1.symm.trans (jtG hc h w2).1)
  ·rw[hR]at hR2;cases hR2
 ·exact⟨O,hE⟩
def tJ (l T:List Int) (n:Nat):Nat->List Int
 |0=>zr n 0
 |j+1=>(tJ l T n j).set (l.getD j 0).toNat (T.getD (l.getD j 0).toNat 0)
def jtH (l T:List Int) (n:Nat):∀j,(tJ l T n j).length=n
 |0=>by simp[tJ]
 |j+1=>by rw[tJ,hC,jtH l T n j]
def jzh {n u:Nat} (hu:u<n):∀(j p:Nat),p<j->l.getD p 0=(u:Int)->(tJ l T n j).getD u 0=T.getD u 0
 |0,p,hp,_=>absurd hp (by omega)
 |j+1,p,hp,e=>by
  rw[tJ]
  by_cases hju:(l.getD j 0).toNat=u
  ·rw[hju,jaT _ _ _ _ _ (by rw[jtH];exact hu),if_pos rfl]
  ·have:∀(L:List Int) (m:Nat) (x:Int),¬m=u->(L.set m x).getD u 0=L.getD u 0:=fun L m x hm=>by
    simp only[za];rw[fd hm]
   rw[this _ _ _ hju];refine jzh hu j p ?_ e;have:p≠j:=fun hpj=>hju (by rw[<-hpj,e,zm]);omega
def jtI {F a T:List Int} {c:Int} (hc:0<=c):∀k,(∀q,q<k->T.getD (F.getD q 0).toNat 0+a.getD q 0=c)->mK F a T k=if k=0 then 0 else c
 |0,_=>rfl
 |k+1,h=>by
  rw[mK,jtI hc k fun q hq=>h q (by omega),h k (by omega),if_neg (by omega:¬k+1=0)]
  by_cases hk:k=0
  ·rw[if_pos hk];split<;>omega
  ·rw[if_neg hk];split<;>omega
def jzi (hc:CInv g l g.length T f) (h:Rg g l):jag (y8 l) big ((0:Int),zr g.length 0,wA g f)=some (.inr (wA g f)):=by
 have hn:=h.n;have hl:=h.len;refine jcO (fun j=>((j:Int),tJ l T g.length j,wA g f)) (k:=g.length) (fun j hj=>?_) ?_ (by omega)
 ·obtain⟨i,hi,e,_⟩:=h.at hj;have hd:=(ji0 (h.ok i hi)).2;have hlf:=hc.lf i hi;have hs:=(jfm (h.ok i hi)).1;obtain⟨c1,c2⟩:=hc.con j i hj e
  have hT:∀q,q<(nL g i 2).length->∃u:Nat,(nL g i 2).getD q 0=(u:Int)∧u<g.length∧(tJ l T g.length j).getD u 0=T.getD u 0∧0<=T.getD u 0∧T.getD u 0<=128*(g.length:Int):=fun q hq=>by
   obtain⟨j',u,h1,h2,h3,h4⟩:=h.from hj e hi hq;have:=hc.tb j' u (by omega) h4;exact⟨u,h3,h2,jzh h2 j j' h1 h4,this⟩
  have hr:RdC g.length (nL g i 2) (f i) (tJ l T g.length j) (128*(g.length:Int)):=by
   refine⟨jtH _ _ _ _,by omega,h.fw.fr i hi,by omega,by omega,fun k hk=>?_,fun k hk=>hc.al i hi k (by omega)⟩;obtain⟨u,h1,h2,h3,h4⟩:=hT k hk;rw[h1,zm,h3];omega
  have hcst:∀q,q<(nL g i 2).length->(tJ l T g.length j).getD ((nL g i 2).getD q 0).toNat 0+(f i).getD q 0=T.getD i 0-nI g i 5:=fun q hq=>by
   obtain⟨u,h1,h2,h3,h4⟩:=hT q hq;have:=c1 q u hq h1;rw[h1,zm,h3];omega
  have hti:=hc.tb j i hj e
  have hM:mK (nL g i 2) (f i) (tJ l T g.length j) (nL g i 2).length=T.getD i 0-nI g i 5:=by
   by_cases hz:(nL g i 2).length=0
   ·rw[hz];have:=c2 hz
    show(0:Int)=_
    omega
   ·have h1:=hcst 0 (by omega);have h2:=hr.f 0 (by omega);have h3:=hr.a 0 (by omega);rw[jtI (c:=T.getD i 0-nI g i 5) (by omega) _ hcst,if_neg hz]
  rcases jzg hi (by omega) (by omega) e hr hd hM.symm with ⟨_,_,q,hq,hgt⟩|⟨h1,_,_⟩
  ·have:=hcst q hq;have:=hc.al i hi q (by omega);omega
  ·rw[h1]
   have e1:gK g f i (tJ l T g.length j) (T.getD i 0-nI g i 5) (nL g i 2).length=wA g f:=jtC fun k hk=>by
    unfold jdz;split
    ·rename_i hki;subst hki;refine yw (by rw[jfn]) fun q h1 h2=>?_;have h3:=ji2 (F:=nL g k 2) (T:=tJ l T g.length j) (M:=T.getD k 0-nI g k 5) h2 (nL g k 2).length;rw[if_pos (by omega),jlD 0 h1]at h3;have h4:=hcst q (by omega);rw[jlD 0 h2]at h4;omega
    ·rfl
   have e2:(tJ l T g.length j).set i (T.getD i 0-nI g i 5+nI g i 5)=tJ l T g.length (j+1):=by
    rw[tJ,e,zm,show T.getD i 0-nI g i 5+nI g i 5=T.getD i 0 by omega]
   rw[e1,e2]
 ·unfold y8;rw[if_neg (by show ¬(g.length:Int)<(l.length:Int);omega)]
def jvh (hc:CInv g l g.length T f) (h:Rg g l) {nm:ByteArray} (hs:nm.size<1000) (h0:(cg nm (wA g f)).2=0):y6 nm (wA g f)=some (nm,wA g f,0):=by
 obtain⟨o1,o2⟩:=jj2 (hc.rg h) hs h0;rw[jtF h.fw (hc.lf100 h) o1 o2 (jzi hc h)];rfl
def jq8 (hw:Fw g) {nm:ByteArray} {e:Int} (he:0<e) (h:jbc nm g=some e):y6 nm g=some (qi #[],[],e):=by
 unfold y6 jjS jdG;rw[h]
 show ze (ze (some e) _) _=_
 simp only[jad];rw[if_pos he,jad,jBJ he]
end Go.Sh
end

section
namespace Go.Sh
open Go Go.Proofs Go.RowKit Go.Sx
end Go.Sh
end

section
open Go.RowKit
namespace Go.Sx
def jnV [Globs] (P:zy) (op:Op) (rd:zH->Option V) (hp:Hp) (nx:Nat):Option Res :=
 match ja4 P op rd hp with
 |some (ob,v)=>some ⟨ob,v,hp,nx⟩
 |none=>match op with
  | .load t x=>match rd x with
   |some (.w (.c (.p h i e 0)))=>match find hp h with
    |some ox=>match ox.xk with
     |some (bk,X)=>match zt e X.e,jbj P t,szT P t with
      |true,some true,some sz=>match zt sz X.e with
       |true=>some ⟨i<X.n,.w (.a (ncs bk ((zG X.e).map fun m=>X.cell i m) nx hp).1),(ncs bk ((zG X.e).map fun m=>X.cell i m) nx hp).2.1,(ncs bk ((zG X.e).map fun m=>X.cell i m) nx hp).2.2⟩
       |false=>none
      |_,_,_=>none
     |none=>none
    |none=>none
   |_=>none
  |_=>none
def jpt (p:Nat->Bool) (hp:Hp):Hp:=(hp.filter fun x=>p x.1).map fun x=>(x.1,O.atom)
def jdR {p:Nat->Bool} {x:Nat} {o:O}:∀{hp:Hp},find (jpt p hp) x=some o->o=.atom∧p x=true
 |[],h=>by cases h
 |(k,o')::r,h=>by
  unfold jpt at h;rw[List.filter_cons]at h;split at h
  ·rename_i hp;simp only[zM,find]at h;split at h
   ·rename_i e;subst e;cases h;exact⟨rfl,hp⟩
   ·exact jdR h
  ·exact jdR h
def allI:List Nat->(Nat->Prop)->Prop
 |[],_=>True
 |i::is,f=>f i∧allI is f
def opX [Globs] (P:zy) (sp:jaa) (N:Nat) (o:zX) (H:List Nat) (st:St) (k:List Nat->St->Prop):Prop :=
 match o.guard,jb0 N o.dst with
 |none,true=>match jam sp o.op (jbC st)with
  |true=>match step P sp o.op (jbC st) st.hp st.nx with
   |some r=>Ob r.ob∧k (match find r.hp st.nx with
    |some (.box _ _)=>st.nx::H
    |_=>H) (st.put o.dst r)
   |none=>False
  |false=>match o.op with
   | .store _ _ _=>match storeAt o.op (jbC st)with
    |some h=>match H.contains h,find st.hp h with
     |true,some (.box ty cs)=>match step P sp o.op (jbC st) ((h,.box ty cs)::jpt (fun x=>C.one st.hp (.o x)) st.hp) st.nx,step P sp o.op (jbC st) st.hp st.nx with
      |some r2,some r=>Ob r2.ob∧Ob r.ob∧k H (st.put o.dst r)
      |_,_=>False
     |_,_=>False
    |none=>False
   |_=>False
 |_,_=>False
def jtJ [Globs] (P:zy) (sp:jaa) (N:Nat) (ops:Array zX) (k:St->Prop):Nat->Array Bool->List Nat->St->Prop
 |0,l,_,st=>match yi .any ops l with
  |[]=>k st
  |_=>False
 |n+1,l,H,st=>match yi .any ops l with
  |[]=>k st
  |is=>allI is fun i=>match ops[i]? with
   |some o=>opX P sp N o H st fun H' st'=>jtJ P sp N ops k n (l.setIfInBounds i true) H' st'
   |none=>False
def jpu [Globs] (P:zy) (sp:jaa) (N:Nat) (ops:Array zX) (k:St->Prop):List Nat->Nat->Array Bool->St->Prop
 |[],n,l,st=>jtJ P sp N ops k n l [] st
 |_::_,0,_,_=>False
 |i::F,n+1,l,st=>match ops[i]?,joG ops l i with
  |some o,true=>match o.guard,o.dst with
   |none,some t=>match jnV P o.op (jbC st) st.hp st.nx,Nat.blt t N with
    |some r,true=>Ob r.ob∧jpu P sp N ops k F n (l.setIfInBounds i true) (st.put (some t) r)
    |_,_=>False
   |_,_=>False
  |_,_=>False
section
variable [Globs] {P:zy} {sp:jaa} {B:Kd} {N n0:Nat} {U:Env} {a:Act} {w:zx} {hp:Hp} {nx:Nat} {rd:zH->Option V} {ds:List x7}
def jxE {w w':zx} {p:Addr} {u:zF} (hb:xA w.heap.size w w') (h:w.cell? p=some u):w'.cell? p=some u :=
 (qp (w:=w) (hb.block p.block (qj w _ h))).trans h
def jvi {o:zX} {r:Res} {t:Nat} (hh:HRel U B hp nx w) (hB:Old B w) (hr:jav U nx rd a) (h:jnV P o.op rd hp nx=some r) (hob:r.ob) (hd:o.dst=some t) (ht:t<a.tmps.size) :
  ∃U' M,Left U B nx w r M U' w∧∀w',xA w.heap.size w w'->(qr a.eval o).run P w'=.ok (.value (r.v.val U')) w':=by
 unfold jnV at h;split at h
 ·rename_i ob v hv;cases h;have hrun:=fun(w':zx) (hb:xA w.heap.size w w')=>jek (hh.below hb hB) hr hv hob;exact⟨U,true,⟨jae.refl _ _,(hrun w (qO _ _)).2,zu _,hh.gr,Bel.refl _ _,(fun _=>qO _ _),fun _ h o k hn hf _=>absurd (hh.ok h o hf).1 (by omega)⟩,fun w' hb=>(hrun w' hb).1⟩
 ·split at h
  ·rename_i ty x hop;split at h
   ·rename_i g i e hx;split at h
    ·rename_i ox hf;split at h
     ·rename_i bk X hxk;split at h
      ·rename_i sz he hag hs;split at h
       ·rename_i hsz;cases h;have he:=zb he;have hsz:=zb hsz;have hob:i<X.n:=hob;have hS:=jkI hh hB hr hop hx hf hxk he hag hs hsz hob;obtain⟨a2,cap,hv,_,hcells⟩:=jpQ (hh.ok g _ hf).2.2 hxk;obtain⟨b,off,rfl,hx2⟩:=hcells (by omega);subst he;subst hsz
        obtain⟨us,hul,hus⟩:∃us:List zF,us.length=X.e∧∀j,j<X.e->∃u,us[j]?=some u∧w.cell? ⟨b,off+(i*X.e+j),none⟩=some u:=by
         refine⟨(zG X.e).map fun j=>(w.cell? ⟨b,off+(i*X.e+j),none⟩).getD qe,by simp,fun j hj=>?_⟩;obtain⟨u,hu,_⟩:=hx2 i j hob hj;exact⟨u,by simp[hj,hu],hu⟩
        have hrun:∀w',xA w.heap.size w w'->(qr a.eval o).run P w'=.ok (.value (.agg us.toArray)) w':=fun w' hb=>by
         unfold qr
         have hlv:=jby (P:=P) w' (a:=⟨b,off+(i*X.e+0),none⟩) (cs:=us) hag (by rw[hul];exact hs) (fun j v hj=>by
          have hjl:j<X.e:=by rw[<-hul];exact(zB.1 hj).1
          obtain⟨u',hu',hcell⟩:=hus j hjl;rw[hj]at hu';cases hu';rw[jaL,qU,qU,Nat.zero_add];exact jxE hb hcell)
         simp only[Nat.add_zero]at hlv;simp[hop,(hr _ _ hx).2,V.val,W.val,C.val,hv,base,Instr.loadAt,Instr.sureAddr,hlv]
        have hS:=hS (fun a' w'=>∃U',Left U B nx w _ true U' w'∧a'=a.put o.dst (V.val U' (Res.v ⟨i<X.n,.w (.a (ncs bk ((zG X.e).map fun m=>X.cell i m) nx hp).1),(ncs bk ((zG X.e).map fun m=>X.cell i m) nx hp).2.1,(ncs bk ((zG X.e).map fun m=>X.cell i m) nx hp).2.2⟩))) (fun _ _ _=>False) (fun U' w' hl'=>⟨U',hl',rfl⟩);unfold jv at hS;rw[hrun w (qO _ _)]at hS;simp only[fh]at hS;obtain⟨U',hl',he⟩:=hS;refine⟨U',true,hl',fun w' hb=>?_⟩;rw[hrun w' hb];have e2:=congrArg (fun x:Act=>x.tmps.getD t qe) he;rw[hd]at e2;simp only[yW,Array.getD_eq_getD_getElem?,Array.getElem?_setIfInBounds_self_of_lt ht,Option.getD_some]at e2;rw[e2]
       ·cases h
      ·cases h
     ·cases h
    ·cases h
   ·cases h
  ·cases h
def jqz (n:Nat) (H:List Nat) (nx:Nat) (U:Env):Prop:=∀h,h∈H->h<nx∧∃g,U h=.pointer (some ⟨g,0,none⟩)∧n<=g
def jqz.agree {n:Nat} {H:List Nat} {nx nx':Nat} {U U':Env} (h:jqz n H nx U) (ha:jae nx U U') (hn:nx<=nx'):jqz n H nx' U':=fun x hx =>
 let ⟨h1,g,h2,h3⟩:=h x hx
 ⟨zC h1 hn,g,(ha x h1).trans h2,h3⟩
def jCM {w0 wr:zx} {U0:Env} (hsp:jac P sp) {ops:Array zX} {Q:jP->Act->zx->Prop} {i:Nat} {o:zX} {H:List Nat} {st:St} {k:List Nat->St->Prop} {K:Act->zx->Prop} (hi:ops[i]?=some o) (hx:opX P sp N o H st k)
  (hr:RelD ds U B N n0 st a w) (hag:jae n0 U0 U) (hbl:Bel B w0 w) (hS:xA wr.heap.size wr w) (hg:jbx (fun k=>k<wr.heap.size) wr) (hN:jqz wr.heap.size H st.nx U)
  (hK:∀H' st' U' a' w',k H' st'->RelD ds U' B N n0 st' a' w'->jae n0 U0 U'->Bel B w0 w'->xA wr.heap.size wr w'->jqz wr.heap.size H' st'.nx U'->K a' w'):wpOp P ops Q i K a w:=by
 obtain⟨B1,g1,hh⟩:=hr.heap;have hB1:Old B1 w:=g1.old hr.le;have hnx:∀(d:Option Nat) (r:Res),(st.put d r).nx=r.nx:=fun d r=>by cases d<;>rfl
 unfold opX at hx;split at hx
 ·rename_i hgd hdst
  have hwp:o.wp P a w K Q->wpOp P ops Q i K a w:=fun h=>by
   unfold wpOp;simp only[hi];rw[if_pos (by simp[xy,hgd])];exact .inl h
  refine hwp ?_;split at hx
  ·rename_i hmo;split at hx
   ·rename_i r hstep;refine jb8 hsp hh hB1 hr.reads hstep hx.1.h K Q fun U' w' hl=>?_;have hbw:xA w.heap.size w w':=hl.mono hmo;have hS':xA wr.heap.size wr w':=hS.trans ⟨hbw.os,hbw.tape,hbw.output,hbw.size,fun q hq=>hbw.block q (zC hq hS.size)⟩;refine hK _ _ U' _ w' hx.2 (hr.put1 g1 hdst hl) (hag.trans hl.agree hr.n0) (hbl.trans (jbV hbw hr.le)) hS' ?_;rw[hnx];have hN':=hN.agree hl.agree hl.le;split
    ·rename_i ty cs hf;intro h hm;rcases qv.1 hm with rfl|hm
     ·obtain⟨B2,g2,h2⟩:=hl.heap;have h3:=h2.ok _ _ hf;obtain⟨g,e1,e2,e3⟩:=h3.2.2;exact⟨h3.1,g,e1,qx hS.size (hl.fresh hmo st.nx _ g (zu _) hf (by simp only[O.blk,e1,base]))⟩
     ·exact hN' h hm
    ·exact hN'
   ·exact hx.elim
  ·split at hx
   ·rename_i ty x y hop;split at hx
    ·rename_i h hst;split at hx
     ·rename_i tb cs hc hf;split at hx
      ·rename_i r2 r hstep2 hstep;obtain⟨hlt,g,hg1,hg2⟩:=hN h (by simpa using hc)
       have hh2:HRel U (kd fun k=>k<wr.heap.size) ((h,.box tb cs)::jpt (fun x=>C.one st.hp (.o x)) st.hp) st.nx w:=by
        refine⟨fun x o' hx'=>?_,fun x o1 y o2 q h1 h2 hne=>?_,hg.bel ⟨hS.os,hS.tape,hS.output,hS.size,hS.block⟩⟩
        ·simp only[find]at hx';split at hx'
         ·rename_i e;subst e;cases hx';have h3:=hh.ok _ _ hf;obtain⟨g',e1,e2,e3⟩:=h3.2.2;rw[hg1]at e1;cases e1;exact⟨h3.1,h3.2.1,g,hg1,fun hk=>by have:=jbe.1 hk;omega,e3⟩
         ·obtain⟨rfl,h1⟩:=jdR hx';have h2:(C.o x).one st.hp=true:=h1;refine⟨?_,trivial,C.one_val (c:=.o x) hh h2⟩;unfold C.one at h2;cases hq:find st.hp x with
          |some o2=>exact(hh.ok _ _ hq).1
          |none=>simp[hq]at h2
        ·simp only[find]at h1 h2;split at h1
         ·split at h2
          ·rename_i e1 e2;exact absurd (e1.symm.trans e2) hne
          ·obtain⟨rfl,_⟩:=jdR h2;exact fun _ hq=>by cases hq
         ·obtain⟨rfl,_⟩:=jdR h1;exact fun hq=>by cases hq
       have s1:=jb8 hsp hh hB1 hr.reads hstep hx.2.1.h (fun a' w'=>∃U',Left U B1 st.nx w r _ U' w'∧a'=a.put o.dst (r.v.val U')) (fun _ _ _=>False) fun U' w' hl=>⟨U',hl,rfl⟩
       have s2:=jb8 hsp hh2 (fun q hq=>zC (jbe.1 hq) hS.size) hr.reads hstep2 hx.1.h (fun a' w'=>Bel (fun k=>k<wr.heap.size) w w') (fun _ _ _=>False) fun U' w' hl=>hl.below;unfold jv qr at s1 s2 ⊢;simp only[hop,zn]at s1 s2 ⊢;cases hrun:(Instr.storeAt ty (a.eval x) (a.eval y)).run P w with
       |ok u w' =>
        rw[hrun]at s1 s2;simp only[zh,zp,fh]at s1 s2 ⊢;obtain⟨U',hl,e⟩:=s1;rw[e];have hS':xA wr.heap.size wr w':=hS.trans s2.below;refine hK _ _ U' _ w' hx.2.2 (hr.put1 g1 hdst hl) (hag.trans hl.agree hr.n0) (hbl.trans (hl.below.mono g1.le.kp)) hS' ?_;rw[hnx];exact hN.agree hl.agree hl.le
       |halt c w' =>
        rw[hrun]at s1;cases c<;>simp[Result.andThen,fh]at s1
      ·exact hx.elim
     ·exact hx.elim
    ·exact hx.elim
   ·exact hx.elim
 ·exact hx.elim
def jtK {f:Nat->Prop}:∀{l:List Nat},allI l f->∀i,i∈l->f i
 |_::_,h,_,.head _=>h.1
 |_::_,h,_,.tail _ hm=>jtK h.2 _ hm
def jv2 {w0 wr:zx} {U0:Env} (hsp:jac P sp) {ops:Array zX} {k:St->Prop} {Q:jP->Act->zx->Prop} (hg:jbx (fun k=>k<wr.heap.size) wr)
  (hK:∀(U':Env) (st':St) (a':Act) (w':zx),RelD ds U' B N n0 st' a' w'->jae n0 U0 U'->Bel B w0 w'->k st'->Q .normal a' w') :
  ∀(n:Nat) (l:Array Bool) (H:List Nat) (st:St) (U:Env) (a:Act) (w:zx),jtJ P sp N ops k n l H st->RelD ds U B N n0 st a w->jae n0 U0 U->Bel B w0 w->xA wr.heap.size wr w->jqz wr.heap.size H st.nx U ->
   wpAnyH P .any ops Q (xA wr.heap.size wr) n l a w
 |0,l,H,st,U,a,w,h,hr,hag,hbl,_,_=>by
  unfold jtJ at h;split at h
  ·rename_i he;exact⟨he,hK U st a w hr hag hbl h⟩
  ·exact h.elim
 |n+1,l,H,st,U,a,w,h,hr,hag,hbl,hS,hN=>by
  unfold jtJ at h;split at h
  ·rename_i he;exact⟨fun _=>hK U st a w hr hag hbl h,by rw[he];simp⟩
  ·rename_i hne;refine⟨fun he=>absurd he hne,fun i hi=>?_⟩;have h1:=jtK h i hi;split at h1
   ·rename_i o ho;exact jCM hsp ho h1 hr hag hbl hS hg hN fun H' st' U' a' w' hk hr' hag' hbl' hS' hN'=>⟨hS',jv2 hsp hg hK n _ H' st' U' a' w' hk hr' hag' hbl' hS' hN'⟩
   ·exact h1.elim
def jtL {w0 w:zx} {U0:Env} (hsp:jac P sp) {ops:Array zX} {k:St->Prop} {Q:jP->Act->zx->Prop} (hQ:∀c a w,¬Q (.panic c) a w) (hbl:Bel B w0 w)
  (hK:∀(U':Env) (st':St) (a':Act) (w':zx),RelD ds U' B N n0 st' a' w'->jae n0 U0 U'->Bel B w0 w'->k st'->Q .normal a' w') :
  ∀(F:List Nat) (n:Nat) (l:Array Bool) (st:St) (U:Env) (a:Act),jpu P sp N ops k F n l st->RelD ds U B N n0 st a w->jae n0 U0 U->wpAnyH P .any ops Q (xA w.heap.size w) n l a w
 |[],n,l,st,U,a,h,hr,hag=>by
  obtain⟨B1,g1,hh⟩:=hr.heap;exact jv2 hsp (hh.glob.sub fun q hq=>g1.old hr.le q (.inl hq)) hK n l [] st U a w h hr hag hbl (qO _ _) (fun h hm=>by cases hm)
 |i::F,0,l,st,U,a,h,hr,hag=>h.elim
 |i::F,n+1,l,st,U,a,h,hr,hag=>by
  unfold jpu at h;split at h
  ·rename_i o hi htb;split at h
   ·rename_i t hg hd;split at h
    ·rename_i r hr2 hlt;obtain⟨B1,g1,hh1⟩:=hr.heap;obtain⟨U',M,hl,hrun⟩:=jvi hh1 (g1.old hr.le) hr.reads hr2 h.1.h hd (by rw[hr.size];simpa [Nat.blt_eq]using hlt);have hput:=hr.put1 g1 (o:=o) (by rw[hd];simpa [jb0]using hlt) hl;rw[hd]at hput;have ih:=jtL hsp hQ hbl hK F n (l.setIfInBounds i true) (st.put (some t) r) U' _ h.2 hput (hag.trans hl.agree hr.n0);obtain⟨t1,t2,t3⟩:=jgr htb;refine wpAnyH_take (v:=r.v.val U') hi t1 t2 (by simpa using t3) (fun c a w hq=>absurd hq (hQ c _ w)) (.inl ⟨by simp[xy,hg],fun w' hb=>hrun w' hb⟩) (qO _ _) ?_;rw[hd];exact ih
    ·exact h.elim
   ·exact h.elim
  ·exact h.elim
def RelD.drew {st:St} (h:RelD ds U B N n0 st a w):RelD ds U B N n0 st a (drew w) :=
 let ⟨B1,g1,hh⟩:=h.heap
 ⟨h.tm,h.size,h.defers,⟨B1,g1.later (zu _),hh.below (jjh _ _) (g1.old h.le)⟩,h.le,h.n0⟩
def jAO {w0:zx} {U0:Env} (hm:P.follows .mixedOrders=true) (hsp:jac P sp) (F:List Nat) (id:Nat) (ops:Array zX) (st:St) (k:St->Prop) (U:Env) (a:Act) (w:zx) (Q:jP->Act->zx->Prop)
  (hd:jpu P sp N ops k F ops.size (xe ops.size false) st) (hr:RelD ds U B N n0 st a w) (hag:jae n0 U0 U) (hbl:Bel B w0 w)
  (hK:∀U' st' a' w',RelD ds U' B N n0 st' a' w'->jae n0 U0 U'->Bel B w0 w'->k st'->Q .normal a' w'):(Code.region id ops true).wp P Q a w:=by
 have h1:=wp_region_held (id:=id) hm (jtL (w:=drew w) (Q:=fun e a w=>match e with | .normal=>Q .normal a w|_=>False) hsp (fun _ _ _ h=>h) ⟨hbl.os,hbl.tape,hbl.output,hbl.size,hbl.block⟩ hK F ops.size _ st U a hd hr.drew hag);refine xG h1 ?_;intro e a w h;cases e<;>first|exact h|exact h.elim
def seqX (P:zy) (sp:jaa):List zX->St->Option St
 |[],st=>some st
 |o::L,st=>match step P sp o.op (jbC st) st.hp st.nx with
  |some r=>seqX P sp L (st.put o.dst r)
  |none=>none
def jBo (T:List Nat) (st:St):St:=⟨T.filterMap fun t=>(jaE st.tm t).map fun v=>(t,v),(zG st.nx).filterMap fun h=>(find st.hp h).map fun o=>(h,o),st.nx⟩
def jxF (P:zy) (sp:jaa) (N n0 n:Nat) (T F:List Nat) (ops:Array zX) (st:St) (k:St->Prop):Prop :=
 match zt ops.size n with
 |true=>match seqX P sp ops.toList st with
  |some X=>jpu P sp N ops (fun st'=>Le n0 st' (jBo T X)) F ops.size (xe ops.size false) st∧k (jBo T X)
  |none=>False
 |false=>jca P sp N ops st k
def jAP {w0:zx} {U0:Env} (hm:P.follows .mixedOrders=true) (hsp:jac P sp) (n:Nat) (T F:List Nat):jeo P B N n0 U0 w0 (jxF P sp N n0 n T F):=by
 intro ds id ops st k U a w Q hd hr hag hbl hK;unfold jxF at hd;split at hd
 ·split at hd
  ·exact jAO hm hsp F id ops st _ U a w Q hd.1 hr hag hbl fun U' st' a' w' hr' hag' hbl' hl =>
    let ⟨U2,hr2,ha2⟩:=hl.rel hr'
    hK U2 _ a' w' hr2 (fun x hx=>(ha2 x hx).trans (hag' x hx)) hbl' hd.2
  ·exact hd.elim
 ·exact jbG hm hsp id ops st k U a w Q hd hr hag hbl hK
end
end Go.Sx
end

section
open Go.RowKit
namespace Go.Sh
open Go Go.Proofs Go.RowKit Go.Sx
def smB:yb:=Sx09.bodyOf Tryz.f39
abbrev spM:jaa:=sp_24 sp0
abbrev hp4 (an:ByteArray) (g:List (List NC)):Hp:=[(2,.box 24 [.d (.s an),.o 0]),(3,.box 24 [.d (.s an),.o 1]),(0,.xext (.st shV g)),(1,.xext (.st shV g))]
abbrev tm4 (n:Nat):List (Nat × V):=[(2,.w (.c (.p 2 0 1 0))),(3,.w (.c (.p 3 0 1 0))),(5,vi .i64 n)]
abbrev hpE (g:List (List NC)) (n b:Nat):Hp:=[(b,.ext (.ints .i64 (nL g n 2))),(b+1,.ext (.ints .i64 (nL g n 3))),(b+2,.ext (.ints .i64 (nL g n 4))),(b+3,.ext (.recs 5 (nR g n 6)))]
abbrev bxE (g:List (List NC)) (n b:Nat):O:=.box 118 [.d (.s (nS g n 0)),.d (.i .i64 (nI g n 1)),.o b,.o (b+1),.o (b+2),.d (.i .i64 (nI g n 5)),.o (b+3),.d (.i .i64 (nI g n 7))]
abbrev dM:Array zX->St->(St->Prop)->Prop:=jxF Tryz.prog spM 117 2 14 [2,3,5,6,7] (zG 10)
abbrev inM (g:List (List NC)) (d:Nat) (z:Nat × Nat):Prop:=z.1<g.length∧g.length-z.1=d∧z.2<=(nR g z.1 6).length
def smL (an:ByteArray) (g:List (List NC)):jfv:=fun gs id _=>match id with
 |0=>some ⟨Nat,fun n=>⟨tm4 n,hp4 an g,4⟩,fun n=>n<=g.length,fun n=>g.length-n⟩
 |2=>some ⟨Nat × Nat,fun z=>⟨[(6,.w (.c (.p 12 0 1 0))),(7,.w (.c (.p 13 0 1 0))),(8,vi .i64 z.2)]++tm4 z.1,[(12,bxE g z.1 4),(13,bxE g z.1 8)]++hpE g z.1 4++hpE g z.1 8++hp4 an g,14⟩,fun z=>inM g (gs.getD 0 0) z,fun z=>(nR g z.1 6).length-z.2⟩
 |_=>none
abbrev eqB (g:List (List NC)) (x y:Nat) (p:Prop):Prop:=Ob (nS g x 0=nS g y 0)∧Ob (nI g x 1=nI g y 1)∧Ob (nI g x 5=nI g y 5)∧Ob (nI g x 7=nI g y 7)∧p
abbrev eqE (g:List (List NC)) (x y:Nat) (p:Prop):Prop:=Ob (nL g x 2=nL g y 2)∧Ob (nL g x 3=nL g y 3)∧Ob (nL g x 4=nL g y 4)∧Ob (nR g x 6=nR g y 6)∧p
abbrev z0:Prop:=Ob ((0:Nat)=0)
abbrev noM:Prop:=Ob True∧Ob (false=true)∧True
abbrev tlM (an:ByteArray) (g:List (List NC)):Prop:=Ob (an=an)∧Ob (an=an)∧Ob (g=g)∧Ob (g=g)∧True
abbrev tlB (an:ByteArray) (g:List (List NC)) (x y:Nat):Prop:=eqB g x y (eqB g x y (eqE g x y (eqE g x y (tlM an g))))
abbrev orM (an:ByteArray) (g:List (List NC)) (x:Nat):Prop :=
 Ob True∧(Ob True∧(Ob True∧Ob True∧(Ob True∧Ob True∧z0∧z0∧Ob ((x:Int)=x)∧z0∧z0∧Ob (g=g)∧Ob (g=g)∧Ob (an=an)∧Ob (an=an)∧eqE g x x (eqE g x x (eqB g x x (eqB g x x True))))∧True)∧True)∧True
abbrev inQ (x n:Nat):Prop:=(0:Int)<=x∧(x:Int)<(n:Int)
abbrev rM (g:List (List NC)) (z:Nat × Nat) (j:Nat):Bool:=((nR g z.1 6).getD z.2 []).getD j 0==((nR g z.1 6).getD z.2 []).getD j 0
abbrev inN (an:ByteArray) (g:List (List NC)) (x:Nat):Prop :=
 (∃z:Nat × Nat,Ob (inM g ([g.length-x].getD 0 0) z)∧z0∧z0∧Ob ((0:Int)=z.2)∧z0∧z0∧Ob ((x:Int)=z.1)∧tlB an g x z.1) ∧
 ∀z:Nat × Nat,inM g ([g.length-x].getD 0 0) z->Br (decide ((z.2:Int)<((nR g z.1 6).length:Int)))
  (Ob (inQ z.2 (nR g z.1 6).length)∧Ob (z.2<(nR g z.1 6).length)∧Ob (inQ z.2 (nR g z.1 6).length)∧Ob (z.2<(nR g z.1 6).length) ∧
   Br (!(rM g z 0&&(rM g z 1&&rM g z 2)&&(rM g z 3&&rM g z 4))) noM
    (∃z':Nat × Nat,Ob (inM g ([g.length-x].getD 0 0) z')∧Ob ((nR g z'.1 6).length-z'.2<(nR g z.1 6).length-z.2)∧z0∧z0∧Ob (xF.wrap ((z.2:Int)+1)=z'.2)∧z0∧z0∧Ob ((z.1:Int)=z'.1)∧tlB an g z.1 z'.1))
  (∃x':Nat,Ob (x'<=g.length)∧Ob (g.length-x'<g.length-x)∧z0∧z0∧Ob (xF.wrap ((z.1:Int)+1)=x')∧tlM an g)
def jnW (g:List (List NC)):Prop:=g.length<=1000000∧∀k,k<g.length->(nL g k 2).length<=1000000∧(nL g k 3).length<=1000000∧(nL g k 4).length<=1000000∧(nR g k 6).length<=1000000
def jxG {b:Bool} {p q:Prop} (hb:b=false) (h:q):Br b p q:=Br.intro (fun e=>by rw[hb]at e;cases e) fun _=>h
def jBp (a:ByteArray):(a != a)=false:=by
 have:a.beq a=true:=by
  unfold ByteArray.beq;simp
 show(!(a.beq a))=false
 rw[this];rfl
def jpv {a:Int} {p q:Prop} (h:q):Br (a != a) p q:=jxG (by simp) h
set_option maxHeartbeats 1000000 in
def sm_vc (an:ByteArray) (g:List (List NC)) (h:jnW g):sx Tryz.prog spM 117 2 0 (smL an g) dM smB 0 [] ⟨jbO 0 [.w (.a [.d (.s an),.o 0]),.w (.a [.d (.s an),.o 1])],[(1,.xext (.st shV g)),(0,.xext (.st shV g))],2⟩ (jcm Tryz.prog Tryz.f39.results.toList fun v hp _=>jf1 2 [.c (.d (.b true))] v hp):=by
 refine jJ (by kernel_rfl:(Br (an != an) noM (Br ((g.length:Int)!=(g.length:Int)) noM
  ((
   ∃x:Nat,Ob (x<=g.length)∧z0∧z0∧Ob ((0:Int)=x)∧tlM an g) ∧
   ∀x:Nat,x<=g.length->Br (decide ((x:Int)<(g.length:Int)))
    ((
     Ob True∧Ob True∧Ob True∧Ob (inQ x g.length)∧Ob (x<g.length)∧Ob True∧Ob True∧Ob True∧Ob (inQ x g.length)∧Ob (x<g.length)∧orM an g x∧orM an g x∧True) ∧
     Br (nS g x 0 != nS g x 0) noM (Br (nI g x 1 != nI g x 1) noM (Br (nI g x 5 != nI g x 5) noM (Br (nI g x 7 != nI g x 7) noM
      (Ob (ok (jc0 (nL g x 2) (nL g x 2)))∧Br (!val (jc0 (nL g x 2) (nL g x 2))) noM
       (Ob (ok (jc0 (nL g x 3) (nL g x 3)))∧Br (!val (jc0 (nL g x 3) (nL g x 3))) noM
        (Ob (ok (jc0 (nL g x 4) (nL g x 4)))∧Br (!val (jc0 (nL g x 4) (nL g x 4))) noM
         (Br (((nR g x 6).length:Int)!=((nR g x 6).length:Int)) noM (inN an g x)))))))))
    (Ob True∧Ob (true=true)∧True))))=_) ?_
 refine jxG (jBp an) (jpv ⟨⟨0,⟨qI _⟩,⟨rfl⟩,⟨rfl⟩,⟨rfl⟩,⟨rfl⟩,⟨rfl⟩,⟨rfl⟩,⟨rfl⟩,trivial⟩,fun x hx=>Br.intro (fun hlt=>?_) fun hlt=>?_⟩)
 ·have hlt:x<g.length:=by have:=of_decide_eq_true hlt;omega
  obtain⟨h2,h3,h4,h6⟩:=h.2 x hlt;have hor:orM an g x:=⟨⟨trivial⟩,⟨⟨trivial⟩,⟨⟨trivial⟩,⟨trivial⟩,⟨⟨trivial⟩,⟨trivial⟩,⟨rfl⟩,⟨rfl⟩,⟨rfl⟩,⟨rfl⟩,⟨rfl⟩,⟨rfl⟩,⟨rfl⟩,⟨rfl⟩,⟨rfl⟩,⟨rfl⟩,⟨rfl⟩,⟨rfl⟩,⟨rfl⟩,⟨rfl⟩,⟨rfl⟩,⟨rfl⟩,⟨rfl⟩,⟨rfl⟩,⟨rfl⟩,⟨rfl⟩,⟨rfl⟩,⟨rfl⟩,⟨rfl⟩,⟨rfl⟩,⟨rfl⟩,trivial⟩,trivial⟩,trivial⟩,trivial⟩
  have e2:=jlu (nL g x 2) (by omega);have e3:=jlu (nL g x 3) (by omega);have e4:=jlu (nL g x 4) (by omega);have tl:∀y,tlB an g y y:=fun y=>⟨⟨rfl⟩,⟨rfl⟩,⟨rfl⟩,⟨rfl⟩,⟨rfl⟩,⟨rfl⟩,⟨rfl⟩,⟨rfl⟩,⟨rfl⟩,⟨rfl⟩,⟨rfl⟩,⟨rfl⟩,⟨rfl⟩,⟨rfl⟩,⟨rfl⟩,⟨rfl⟩,⟨rfl⟩,⟨rfl⟩,⟨rfl⟩,⟨rfl⟩,trivial⟩
  rw[e2,e3,e4];refine⟨⟨⟨trivial⟩,⟨trivial⟩,⟨trivial⟩,⟨by omega⟩,⟨hlt⟩,⟨trivial⟩,⟨trivial⟩,⟨trivial⟩,⟨by omega⟩,⟨hlt⟩,hor,hor,trivial⟩,jxG (jBp _) (jpv (jpv (jpv ⟨⟨rfl⟩,Br.intro (fun h=>by cases h) fun _=>⟨⟨rfl⟩,Br.intro (fun h=>by cases h) fun _=>⟨⟨rfl⟩,Br.intro (fun h=>by cases h) fun _=>jpv ⟨⟨(x,0),⟨hlt,rfl,qI _⟩,⟨rfl⟩,⟨rfl⟩,⟨rfl⟩,⟨rfl⟩,⟨rfl⟩,⟨rfl⟩,tl x⟩,?_⟩⟩⟩⟩)))⟩;rintro ⟨k,m⟩ ⟨hk,he,hm⟩;have he:g.length-k=g.length-x:=he;dsimp only at hk hm ⊢;obtain rfl:k=x:=by omega
  refine Br.intro (fun hl=>?_) fun hl=>?_
  ·have hl:m<(nR g k 6).length:=by have:=of_decide_eq_true hl;omega
   refine⟨⟨by omega⟩,⟨hl⟩,⟨by omega⟩,⟨hl⟩,Br.intro (fun h=>by simp at h) fun _=>⟨(k,m+1),⟨hk,rfl,hl⟩,⟨?_⟩,⟨rfl⟩,⟨rfl⟩,⟨?_⟩,⟨rfl⟩,⟨rfl⟩,⟨rfl⟩,tl k⟩⟩
   ·show(nR g k 6).length-(m+1)<(nR g k 6).length-m
    omega
   ·rw[jaF (by omega)];rfl
  ·exact⟨k+1,⟨hk⟩,⟨by omega⟩,⟨rfl⟩,⟨rfl⟩,⟨by rw[jaF (by have:=h.1;omega)];rfl⟩,⟨rfl⟩,⟨rfl⟩,⟨rfl⟩,⟨rfl⟩,trivial⟩
 ·exact⟨⟨trivial⟩,⟨rfl⟩,trivial⟩
end Go.Sh
end

section
open Go.RowKit
namespace Go.Sh
open Go Go.Proofs Go.RowKit Go.Sx
open Classical in
def jcl (aName:ByteArray) (aUnits:List (List NC)) (bName:ByteArray) (bUnits:List (List NC)):Option Bool:=if bName=aName∧bUnits=aUnits∧jnW aUnits then some true else none
def jtM {a b:ByteArray} {g h:List (List NC)} (ho:ok (jcl a g b h)):b=a∧h=g∧jnW g:=by
 unfold jcl at ho
 by_cases hc:b=a∧h=g∧jnW g
 ·exact hc
 ·rw[if_neg hc]at ho;cases ho
def jcs {a:ByteArray} {g:List (List NC)} (h:jnW g):jcl a g a g=some true:=by
 unfold jcl;rw[if_pos ⟨rfl,rfl,h⟩]
def jpw:List SV:=[.a [.d,.x (.st zS [])],.a [.d,.x (.st zS [])]]
def jj7:List Lf->Option GT
 |[.d (.s aName),.x (.st [.s,.i .i64,.ints .i64,.ints .i64,.ints .i64,.i .i64,.recs 5,.i .i64] aUnits),.d (.s bName),.x (.st [.s,.i .i64,.ints .i64,.ints .i64,.ints .i64,.i .i64,.recs 5,.i .i64] bUnits)]=>some (.leaf (ok (jcl aName aUnits bName bUnits)) [.c (.d (.b ((val (jcl aName aUnits bName bUnits)))))])
 |_=>none
abbrev sp_39:jaa->jaa:=jaG 39 true (jai jpw jj7)
def jzj:jac Tryz.prog spM:=sp_24_ok jau
def jvj:jaf Tryz.prog 39 true (jai jpw jj7):=by
 refine jk9 (body:=smB) Tryz.func39 (by kernel_rfl) (by kernel_rfl) ?_;intro ls t hg ho b hb U0 w hlt hh;unfold jj7 at hg;split at hg
 ·rename_i an g bn g';cases hg;obtain rfl:=jaN hb;have ho:ok (jcl an g bn g'):=ho;obtain⟨rfl,rfl,hs⟩:=jtM ho;have hh0:HRel U0 (kd fun k=>k<w.heap.size) [(1,.xext (.st shV g')),(0,.xext (.st shV g'))] 2 w:=hh
  show Calls Tryz.prog 39 _ w _
  rw[jcs hs];refine jio (body:=smB) (n0:=2) (args:=[.w (.a [.d (.s bn),.o 0]),.w (.a [.d (.s bn),.o 1])]) Tryz.func39 (by kernel_rfl) (zj (by kernel_rfl)) (fun x hx=>hlt x hx) (zu _) U0 w hh0 (fun k hk=>jbe.1 hk) fun a hr=>?_;exact jba jzj (jAP mixed jzj 14 _ _) smB 0 [] _ _ U0 a w (sm_vc bn g' hs) hr (jae.refl _ _) (Bel.refl _ _)
 ·cases hg
def sp_39_ok {sp:jaa} (h:jac Tryz.prog sp):jac Tryz.prog (sp_39 sp):=jap jvj h
end Go.Sh
end

section
namespace Go.Sh
open Go Go.Proofs Go.RowKit Go.Sx
open Go.IntKind (wrap)
def jhl:List SV:=[.c (.p [.p [.d,.x (.st zS []),.r (.ints .i64 [])],.d,.x (.ff .f32 []),.x (.rr 4 []),.r (.frs .f32 32 []),.r (.ints .i64 []),.r (.frs .f32 32 []),.x (.rr 4 []),.r (.ints .i64 [])]),.c (.d),.c (.d)]
def jqA (u18:ByteArray) (u19:List (List NC)) (u20:List Int) (u17:Int) (u21:List (List Nat)) (u22:List (List (List Int))) (u23:List (List Nat)) (u24:List Int) (u25:List (List Nat)) (u26:List (List (List Int))) (u27:List Int) (u36:Int) (k:Int):Option Int :=
 if k<0 then
  if 0<=u36∧u36<(↑u21.length:Int)then
  if zf u36<zg u21 then
   if 0<=wrap .i64 (128+k)∧wrap .i64 (128+k)<(↑(zg (za u21 u36.toNat [])):Int)then
   if zf (wrap .i64 (128+k))<zg (za u21 u36.toNat [])then
    if joc .f32 .i64 (za (za u21 u36.toNat []) (zf (wrap .i64 (128+k))) (0:Nat))=true then
    some (f2i .f32 (za (za u21 u36.toNat []) (zf (wrap .i64 (128+k))) (0:Nat)))
    else none
   else none
   else none
  else none
  else none
 else
  if 0<=u36∧u36<(↑u25.length:Int)then
  if 0<=k∧k<(↑(32:Nat):Int)then
   if zf u36<zg u25∧0+zf k*1<32 then
   if joc .f32 .i64 (za (za u25 u36.toNat []) (0+zf k*1) (0:Nat))=true then
    some (f2i .f32 (za (za u25 u36.toNat []) (0+zf k*1) (0:Nat)))
   else none
   else none
  else none
  else none
def jhm:List Lf->Option GT
 |[.d (.s u18),.x (.st [.s,.i .i64,.ints .i64,.ints .i64,.ints .i64,.i .i64,.recs 5,.i .i64] u19),.r (.ints .i64 u20),.d (.i .i64 u17),.x (.ff .f32 u21),.x (.rr 4 u22),.r (.frs .f32 32 u23),.r (.ints .i64 u24),.r (.frs .f32 32 u25),.x (.rr 4 u26),.r (.ints .i64 u27),.d (.i .i64 u36),.d (.i .i64 k)]=>some (.leaf (ok (jqA u18 u19 u20 u17 u21 u22 u23 u24 u25 u26 u27 u36 k)) [.c (.d (.i .i64 ((val (jqA u18 u19 u20 u17 u21 u22 u23 u24 u25 u26 u27 u36 k)))))])
 |_=>none
abbrev sp_149:jaa->jaa:=jaG 149 true (jai jhl jhm)
def jtN (u18:ByteArray) (u19:List (List NC)) (u20:List Int) (u17:Int) (u21:List (List Nat)) (u22:List (List (List Int))) (u23:List (List Nat)) (u24:List Int) (u25:List (List Nat)) (u26:List (List (List Int))) (u27:List Int) (u36:Int) (k:Int) (r:Int):Sk (top r) (jqA u18 u19 u20 u17 u21 u22 u23 u24 u25 u26 u27 u36 k) :=
 .br
 (.obT (.ob (.ob (.ob (.ob (.ob (.obT (.rc))))))))
 (.obT (.ob (.ob (.ob (.ob (.obT (.rc)))))))
def jrJ (u18:ByteArray) (u19:List (List NC)) (u20:List Int) (u17:Int) (u21:List (List Nat)) (u22:List (List (List Int))) (u23:List (List Nat)) (u24:List Int) (u25:List (List Nat)) (u26:List (List (List Int))) (u27:List Int) (u36:Int) (k:Int) (r:Int) (h:ze (jqA u18 u19 u20 u17 u21 u22 u23 u24 u25 u26 u27 u36 k) some=some r):jbl Tryz.f149 (sp0) (fun _ _ _=>none) (jbd jhl [.d (.s u18),.x (.st zS u19),.r (.ints .i64 u20),.d (.i .i64 u17),.x (.ff .f32 u21),.x (.rr 4 u22),.r (.frs .f32 32 u23),.r (.ints .i64 u24),.r (.frs .f32 32 u25),.x (.rr 4 u26),.r (.ints .i64 u27),.d (.i .i64 u36),.d (.i .i64 k)]) [.c (.d (.i .i64 r))] :=
 Sk.vc (jtN u18 u19 u20 u17 u21 u22 u23 u24 u25 u26 u27 u36 k r) (by kernel_rfl) h
def jrK:jaf Tryz.prog 149 true (jai jhl jhm):=by
 refine jaC (sp:=sp0) (fn:=Tryz.f149) (body:=bodyOf Tryz.f149) mixed jau Tryz.func149 (by kernel_rfl) (by kernel_rfl) fun ls t h ho b hb=>?_;unfold jhm at h;split at h
 ·rename_i u18 u19 u20 u17 u21 u22 u23 u24 u25 u26 u27 u36 k;cases h;obtain rfl:=jaN hb;exact⟨zj (by kernel_rfl),_,_,jrJ u18 u19 u20 u17 u21 u22 u23 u24 u25 u26 u27 u36 k _ (jar ho)⟩
 ·cases h
def sp_149_ok {sp:jaa} (h:jac Tryz.prog sp):jac Tryz.prog (sp_149 sp):=jap jrK h
end Go.Sh
end

section
namespace Go.Sh
open Go Go.Proofs Go.RowKit Go.Sx
open Go.IntKind (wrap)
def jeN:List SV:=[.c (.p [.p [.d,.x (.st zS []),.r (.ints .i64 [])],.d,.x (.ff .f32 []),.x (.rr 4 []),.r (.frs .f32 32 []),.r (.ints .i64 []),.r (.frs .f32 32 []),.x (.rr 4 []),.r (.ints .i64 [])]),.a [.d,.d,.r (.ints .i64 []),.r (.ints .i64 []),.r (.ints .i64 []),.d,.r (.recs 5 []),.d],.c (.d),.c (.d)]
def jec (u18:ByteArray) (u19:List (List NC)) (u20:List Int) (u17:Int) (u21:List (List Nat)) (u22:List (List (List Int))) (u23:List (List Nat)) (u24:List Int) (u25:List (List Nat)) (u26:List (List (List Int))) (u27:List Int) (u13:List Int) (u12:List Int) (u43:Int) (u44:Int) (x0:(Int × zT)):Option ((Int × zT) ⊕ (zT)) :=
 if x0.1<32 then
  if 0<=u43∧u43<(↑u13.length:Int)then
  if zf u43<zg u13 then
   if 0<=u43∧u43<(↑u12.length:Int)then
   if zf u43<zg u12 then
    ze (jqA u18 u19 u20 u17 u21 u22 u23 u24 u25 u26 u27 (za u13 u43.toNat (0:Int)) (wrap .i64 (wrap .i64 (x0.1-za u12 u43.toNat (0:Int))-u44))) fun r0 =>
    if 0<=x0.1∧x0.1<(↑(32:Nat):Int)then
    if za [true,true,true,true,true,true,true,true,true,true,true,true,true,true,true,true,true,true,true,true,true,true,true,true,true,true,true,true,true,true,true,true] (0+zf x0.1*1) false=true then
     some (.inl ((wrap .i64 (x0.1+1),bif zt (0+zf x0.1*1) 0 then r0 else x0.2.1,bif zt (0+zf x0.1*1) 1 then r0 else x0.2.2.1,bif zt (0+zf x0.1*1) 2 then r0 else x0.2.2.2.1,bif zt (0+zf x0.1*1) 3 then r0 else x0.2.2.2.2.1,bif zt (0+zf x0.1*1) 4 then r0 else x0.2.2.2.2.2.1,bif zt (0+zf x0.1*1) 5 then r0 else x0.2.2.2.2.2.2.1,bif zt (0+zf x0.1*1) 6 then r0 else x0.2.2.2.2.2.2.2.1,bif zt (0+zf x0.1*1) 7 then r0 else x0.2.2.2.2.2.2.2.2.1,bif zt (0+zf x0.1*1) 8 then r0 else x0.2.2.2.2.2.2.2.2.2.1,bif zt (0+zf x0.1*1) 9 then r0 else x0.2.2.2.2.2.2.2.2.2.2.1,bif zt (0+zf x0.1*1) 10 then r0 else x0.2.2.2.2.2.2.2.2.2.2.2.1,bif zt (0+zf x0.1*1) 11 then r0 else x0.2.2.2.2.2.2.2.2.2.2.2.2.1,bif zt (0+zf x0.1*1) 12 then r0 else x0.2.2.2.2.2.2.2.2.2.2.2.2.2.1,bif zt (0+zf x0.1*1) 13 then r0 else x0.2.2.2.2.2.2.2.2.2.2.2.2.2.2.1,bif zt (0+zf x0.1*1) 14 then r0 else x0.2.2.2.2.2.2.2.2.2.2.2.2.2.2.2.1,bif zt (0+zf x0.1*1) 15 then r0 else x0.2.2.2.2.2.2.2.2.2.2.2.2.2.2.2.2.1,bif zt (0+zf x0.1*1) 16 then r0 else x0.2.2.2.2.2.2.2.2.2.2.2.2.2.2.2.2.2.1,bif zt (0+zf x0.1*1) 17 then r0 else x0.2.2.2.2.2.2.2.2.2.2.2.2.2.2.2.2.2.2.1,bif zt (0+zf x0.1*1) 18 then r0 else x0.2.2.2.2.2.2.2.2.2.2.2.2.2.2.2.2.2.2.2.1,bif zt (0+zf x0.1*1) 19 then r0 else x0.2.2.2.2.2.2.2.2.2.2.2.2.2.2.2.2.2.2.2.2.1,bif zt (0+zf x0.1*1) 20 then r0 else x0.2.2.2.2.2.2.2.2.2.2.2.2.2.2.2.2.2.2.2.2.2.1,bif zt (0+zf x0.1*1) 21 then r0 else x0.2.2.2.2.2.2.2.2.2.2.2.2.2.2.2.2.2.2.2.2.2.2.1,bif zt (0+zf x0.1*1) 22 then r0 else x0.2.2.2.2.2.2.2.2.2.2.2.2.2.2.2.2.2.2.2.2.2.2.2.1,bif zt (0+zf x0.1*1) 23 then r0 else x0.2.2.2.2.2.2.2.2.2.2.2.2.2.2.2.2.2.2.2.2.2.2.2.2.1,bif zt (0+zf x0.1*1) 24 then r0 else x0.2.2.2.2.2.2.2.2.2.2.2.2.2.2.2.2.2.2.2.2.2.2.2.2.2.1,bif zt (0+zf x0.1*1) 25 then r0 else x0.2.2.2.2.2.2.2.2.2.2.2.2.2.2.2.2.2.2.2.2.2.2.2.2.2.2.1,bif zt (0+zf x0.1*1) 26 then r0 else x0.2.2.2.2.2.2.2.2.2.2.2.2.2.2.2.2.2.2.2.2.2.2.2.2.2.2.2.1,bif zt (0+zf x0.1*1) 27 then r0 else x0.2.2.2.2.2.2.2.2.2.2.2.2.2.2.2.2.2.2.2.2.2.2.2.2.2.2.2.2.1,bif zt (0+zf x0.1*1) 28 then r0 else x0.2.2.2.2.2.2.2.2.2.2.2.2.2.2.2.2.2.2.2.2.2.2.2.2.2.2.2.2.2.1,bif zt (0+zf x0.1*1) 29 then r0 else x0.2.2.2.2.2.2.2.2.2.2.2.2.2.2.2.2.2.2.2.2.2.2.2.2.2.2.2.2.2.2.1,bif zt (0+zf x0.1*1) 30 then r0 else x0.2.2.2.2.2.2.2.2.2.2.2.2.2.2.2.2.2.2.2.2.2.2.2.2.2.2.2.2.2.2.2.1,bif zt (0+zf x0.1*1) 31 then r0 else x0.2.2.2.2.2.2.2.2.2.2.2.2.2.2.2.2.2.2.2.2.2.2.2.2.2.2.2.2.2.2.2.2)))
    else none
    else none
   else none
   else none
  else none
  else none
 else
  some (.inr (x0.2.1,x0.2.2.1,x0.2.2.2.1,x0.2.2.2.2.1,x0.2.2.2.2.2.1,x0.2.2.2.2.2.2.1,x0.2.2.2.2.2.2.2.1,x0.2.2.2.2.2.2.2.2.1,x0.2.2.2.2.2.2.2.2.2.1,x0.2.2.2.2.2.2.2.2.2.2.1,x0.2.2.2.2.2.2.2.2.2.2.2.1,x0.2.2.2.2.2.2.2.2.2.2.2.2.1,x0.2.2.2.2.2.2.2.2.2.2.2.2.2.1,x0.2.2.2.2.2.2.2.2.2.2.2.2.2.2.1,x0.2.2.2.2.2.2.2.2.2.2.2.2.2.2.2.1,x0.2.2.2.2.2.2.2.2.2.2.2.2.2.2.2.2.1,x0.2.2.2.2.2.2.2.2.2.2.2.2.2.2.2.2.2.1,x0.2.2.2.2.2.2.2.2.2.2.2.2.2.2.2.2.2.2.1,x0.2.2.2.2.2.2.2.2.2.2.2.2.2.2.2.2.2.2.2.1,x0.2.2.2.2.2.2.2.2.2.2.2.2.2.2.2.2.2.2.2.2.1,x0.2.2.2.2.2.2.2.2.2.2.2.2.2.2.2.2.2.2.2.2.2.1,x0.2.2.2.2.2.2.2.2.2.2.2.2.2.2.2.2.2.2.2.2.2.2.1,x0.2.2.2.2.2.2.2.2.2.2.2.2.2.2.2.2.2.2.2.2.2.2.2.1,x0.2.2.2.2.2.2.2.2.2.2.2.2.2.2.2.2.2.2.2.2.2.2.2.2.1,x0.2.2.2.2.2.2.2.2.2.2.2.2.2.2.2.2.2.2.2.2.2.2.2.2.2.1,x0.2.2.2.2.2.2.2.2.2.2.2.2.2.2.2.2.2.2.2.2.2.2.2.2.2.2.1,x0.2.2.2.2.2.2.2.2.2.2.2.2.2.2.2.2.2.2.2.2.2.2.2.2.2.2.2.1,x0.2.2.2.2.2.2.2.2.2.2.2.2.2.2.2.2.2.2.2.2.2.2.2.2.2.2.2.2.1,x0.2.2.2.2.2.2.2.2.2.2.2.2.2.2.2.2.2.2.2.2.2.2.2.2.2.2.2.2.2.1,x0.2.2.2.2.2.2.2.2.2.2.2.2.2.2.2.2.2.2.2.2.2.2.2.2.2.2.2.2.2.2.1,x0.2.2.2.2.2.2.2.2.2.2.2.2.2.2.2.2.2.2.2.2.2.2.2.2.2.2.2.2.2.2.2.1,x0.2.2.2.2.2.2.2.2.2.2.2.2.2.2.2.2.2.2.2.2.2.2.2.2.2.2.2.2.2.2.2.2))
def jed (u5:zT):Option (zT) :=
 some (u5.1,u5.2.1,u5.2.2.1,u5.2.2.2.1,u5.2.2.2.2.1,u5.2.2.2.2.2.1,u5.2.2.2.2.2.2.1,u5.2.2.2.2.2.2.2.1,u5.2.2.2.2.2.2.2.2.1,u5.2.2.2.2.2.2.2.2.2.1,u5.2.2.2.2.2.2.2.2.2.2.1,u5.2.2.2.2.2.2.2.2.2.2.2.1,u5.2.2.2.2.2.2.2.2.2.2.2.2.1,u5.2.2.2.2.2.2.2.2.2.2.2.2.2.1,u5.2.2.2.2.2.2.2.2.2.2.2.2.2.2.1,u5.2.2.2.2.2.2.2.2.2.2.2.2.2.2.2.1,u5.2.2.2.2.2.2.2.2.2.2.2.2.2.2.2.2.1,u5.2.2.2.2.2.2.2.2.2.2.2.2.2.2.2.2.2.1,u5.2.2.2.2.2.2.2.2.2.2.2.2.2.2.2.2.2.2.1,u5.2.2.2.2.2.2.2.2.2.2.2.2.2.2.2.2.2.2.2.1,u5.2.2.2.2.2.2.2.2.2.2.2.2.2.2.2.2.2.2.2.2.1,u5.2.2.2.2.2.2.2.2.2.2.2.2.2.2.2.2.2.2.2.2.2.1,u5.2.2.2.2.2.2.2.2.2.2.2.2.2.2.2.2.2.2.2.2.2.2.1,u5.2.2.2.2.2.2.2.2.2.2.2.2.2.2.2.2.2.2.2.2.2.2.2.1,u5.2.2.2.2.2.2.2.2.2.2.2.2.2.2.2.2.2.2.2.2.2.2.2.2.1,u5.2.2.2.2.2.2.2.2.2.2.2.2.2.2.2.2.2.2.2.2.2.2.2.2.2.1,u5.2.2.2.2.2.2.2.2.2.2.2.2.2.2.2.2.2.2.2.2.2.2.2.2.2.2.1,u5.2.2.2.2.2.2.2.2.2.2.2.2.2.2.2.2.2.2.2.2.2.2.2.2.2.2.2.1,u5.2.2.2.2.2.2.2.2.2.2.2.2.2.2.2.2.2.2.2.2.2.2.2.2.2.2.2.2.1,u5.2.2.2.2.2.2.2.2.2.2.2.2.2.2.2.2.2.2.2.2.2.2.2.2.2.2.2.2.2.1,u5.2.2.2.2.2.2.2.2.2.2.2.2.2.2.2.2.2.2.2.2.2.2.2.2.2.2.2.2.2.2.1,u5.2.2.2.2.2.2.2.2.2.2.2.2.2.2.2.2.2.2.2.2.2.2.2.2.2.2.2.2.2.2.2)
def jaj (u18:ByteArray) (u19:List (List NC)) (u20:List Int) (u17:Int) (u21:List (List Nat)) (u22:List (List (List Int))) (u23:List (List Nat)) (u24:List Int) (u25:List (List Nat)) (u26:List (List (List Int))) (u27:List Int) (u14:ByteArray) (u7:Int) (u13:List Int) (u12:List Int) (u10:List Int) (u9:Int) (u15:List (List Int)) (u16:Int) (u43:Int) (u44:Int):Option (zT) :=
 ze (jag (jec u18 u19 u20 u17 u21 u22 u23 u24 u25 u26 u27 u13 u12 u43 u44) big (((0:Int),0,0,0,0,0,0,0,0,0,0,0,0,0,0,0,0,0,0,0,0,0,0,0,0,0,0,0,0,0,0,0,0))) (jed)
def jeO:List Lf->Option GT
 |[.d (.s u18),.x (.st [.s,.i .i64,.ints .i64,.ints .i64,.ints .i64,.i .i64,.recs 5,.i .i64] u19),.r (.ints .i64 u20),.d (.i .i64 u17),.x (.ff .f32 u21),.x (.rr 4 u22),.r (.frs .f32 32 u23),.r (.ints .i64 u24),.r (.frs .f32 32 u25),.x (.rr 4 u26),.r (.ints .i64 u27),.d (.s u14),.d (.i .i64 u7),.r (.ints .i64 u13),.r (.ints .i64 u12),.r (.ints .i64 u10),.d (.i .i64 u9),.r (.recs 5 u15),.d (.i .i64 u16),.d (.i .i64 u43),.d (.i .i64 u44)]=>some (.leaf (ok (jaj u18 u19 u20 u17 u21 u22 u23 u24 u25 u26 u27 u14 u7 u13 u12 u10 u9 u15 u16 u43 u44)) [.s [.d (.i .i64 ((val (jaj u18 u19 u20 u17 u21 u22 u23 u24 u25 u26 u27 u14 u7 u13 u12 u10 u9 u15 u16 u43 u44)).1)),.d (.i .i64 ((val (jaj u18 u19 u20 u17 u21 u22 u23 u24 u25 u26 u27 u14 u7 u13 u12 u10 u9 u15 u16 u43 u44)).2.1)),.d (.i .i64 ((val (jaj u18 u19 u20 u17 u21 u22 u23 u24 u25 u26 u27 u14 u7 u13 u12 u10 u9 u15 u16 u43 u44)).2.2.1)),.d (.i .i64 ((val (jaj u18 u19 u20 u17 u21 u22 u23 u24 u25 u26 u27 u14 u7 u13 u12 u10 u9 u15 u16 u43 u44)).2.2.2.1)),.d (.i .i64 ((val (jaj u18 u19 u20 u17 u21 u22 u23 u24 u25 u26 u27 u14 u7 u13 u12 u10 u9 u15 u16 u43 u44)).2.2.2.2.1)),.d (.i .i64 ((val (jaj u18 u19 u20 u17 u21 u22 u23 u24 u25 u26 u27 u14 u7 u13 u12 u10 u9 u15 u16 u43 u44)).2.2.2.2.2.1)),.d (.i .i64 ((val (jaj u18 u19 u20 u17 u21 u22 u23 u24 u25 u26 u27 u14 u7 u13 u12 u10 u9 u15 u16 u43 u44)).2.2.2.2.2.2.1)),.d (.i .i64 ((val (jaj u18 u19 u20 u17 u21 u22 u23 u24 u25 u26 u27 u14 u7 u13 u12 u10 u9 u15 u16 u43 u44)).2.2.2.2.2.2.2.1)),.d (.i .i64 ((val (jaj u18 u19 u20 u17 u21 u22 u23 u24 u25 u26 u27 u14 u7 u13 u12 u10 u9 u15 u16 u43 u44)).2.2.2.2.2.2.2.2.1)),.d (.i .i64 ((val (jaj u18 u19 u20 u17 u21 u22 u23 u24 u25 u26 u27 u14 u7 u13 u12 u10 u9 u15 u16 u43 u44)).2.2.2.2.2.2.2.2.2.1)),.d (.i .i64 ((val (jaj u18 u19 u20 u17 u21 u22 u23 u24 u25 u26 u27 u14 u7 u13 u12 u10 u9 u15 u16 u43 u44)).2.2.2.2.2.2.2.2.2.2.1)),.d (.i .i64 ((val (jaj u18 u19 u20 u17 u21 u22 u23 u24 u25 u26 u27 u14 u7 u13 u12 u10 u9 u15 u16 u43 u44)).2.2.2.2.2.2.2.2.2.2.2.1)),.d (.i .i64 ((val (jaj u18 u19 u20 u17 u21 u22 u23 u24 u25 u26 u27 u14 u7 u13 u12 u10 u9 u15 u16 u43 u44)).2.2.2.2.2.2.2.2.2.2.2.2.1)),.d (.i .i64 ((val (jaj u18 u19 u20 u17 u21 u22 u23 u24 u25 u26 u27 u14 u7 u13 u12 u10 u9 u15 u16 u43 u44)).2.2.2.2.2.2.2.2.2.2.2.2.2.1)),.d (.i .i64 ((val (jaj u18 u19 u20 u17 u21 u22 u23 u24 u25 u26 u27 u14 u7 u13 u12 u10 u9 u15 u16 u43 u44)).2.2.2.2.2.2.2.2.2.2.2.2.2.2.1)),.d (.i .i64 ((val (jaj u18 u19 u20 u17 u21 u22 u23 u24 u25 u26 u27 u14 u7 u13 u12 u10 u9 u15 u16 u43 u44)).2.2.2.2.2.2.2.2.2.2.2.2.2.2.2.1)),.d (.i .i64 ((val (jaj u18 u19 u20 u17 u21 u22 u23 u24 u25 u26 u27 u14 u7 u13 u12 u10 u9 u15 u16 u43 u44)).2.2.2.2.2.2.2.2.2.2.2.2.2.2.2.2.1)),.d (.i .i64 ((val (jaj u18 u19 u20 u17 u21 u22 u23 u24 u25 u26 u27 u14 u7 u13 u12 u10 u9 u15 u16 u43 u44)).2.2.2.2.2.2.2.2.2.2.2.2.2.2.2.2.2.1)),.d (.i .i64 ((val (jaj u18 u19 u20 u17 u21 u22 u23 u24 u25 u26 u27 u14 u7 u13 u12 u10 u9 u15 u16 u43 u44)).2.2.2.2.2.2.2.2.2.2.2.2.2.2.2.2.2.2.1)),.d (.i .i64 ((val (jaj u18 u19 u20 u17 u21 u22 u23 u24 u25 u26 u27 u14 u7 u13 u12 u10 u9 u15 u16 u43 u44)).2.2.2.2.2.2.2.2.2.2.2.2.2.2.2.2.2.2.2.1)),.d (.i .i64 ((val (jaj u18 u19 u20 u17 u21 u22 u23 u24 u25 u26 u27 u14 u7 u13 u12 u10 u9 u15 u16 u43 u44)).2.2.2.2.2.2.2.2.2.2.2.2.2.2.2.2.2.2.2.2.1)),.d (.i .i64 ((val (jaj u18 u19 u20 u17 u21 u22 u23 u24 u25 u26 u27 u14 u7 u13 u12 u10 u9 u15 u16 u43 u44)).2.2.2.2.2.2.2.2.2.2.2.2.2.2.2.2.2.2.2.2.2.1)),.d (.i .i64 ((val (jaj u18 u19 u20 u17 u21 u22 u23 u24 u25 u26 u27 u14 u7 u13 u12 u10 u9 u15 u16 u43 u44)).2.2.2.2.2.2.2.2.2.2.2.2.2.2.2.2.2.2.2.2.2.2.1)),.d (.i .i64 ((val (jaj u18 u19 u20 u17 u21 u22 u23 u24 u25 u26 u27 u14 u7 u13 u12 u10 u9 u15 u16 u43 u44)).2.2.2.2.2.2.2.2.2.2.2.2.2.2.2.2.2.2.2.2.2.2.2.1)),.d (.i .i64 ((val (jaj u18 u19 u20 u17 u21 u22 u23 u24 u25 u26 u27 u14 u7 u13 u12 u10 u9 u15 u16 u43 u44)).2.2.2.2.2.2.2.2.2.2.2.2.2.2.2.2.2.2.2.2.2.2.2.2.1)),.d (.i .i64 ((val (jaj u18 u19 u20 u17 u21 u22 u23 u24 u25 u26 u27 u14 u7 u13 u12 u10 u9 u15 u16 u43 u44)).2.2.2.2.2.2.2.2.2.2.2.2.2.2.2.2.2.2.2.2.2.2.2.2.2.1)),.d (.i .i64 ((val (jaj u18 u19 u20 u17 u21 u22 u23 u24 u25 u26 u27 u14 u7 u13 u12 u10 u9 u15 u16 u43 u44)).2.2.2.2.2.2.2.2.2.2.2.2.2.2.2.2.2.2.2.2.2.2.2.2.2.2.1)),.d (.i .i64 ((val (jaj u18 u19 u20 u17 u21 u22 u23 u24 u25 u26 u27 u14 u7 u13 u12 u10 u9 u15 u16 u43 u44)).2.2.2.2.2.2.2.2.2.2.2.2.2.2.2.2.2.2.2.2.2.2.2.2.2.2.2.1)),.d (.i .i64 ((val (jaj u18 u19 u20 u17 u21 u22 u23 u24 u25 u26 u27 u14 u7 u13 u12 u10 u9 u15 u16 u43 u44)).2.2.2.2.2.2.2.2.2.2.2.2.2.2.2.2.2.2.2.2.2.2.2.2.2.2.2.2.1)),.d (.i .i64 ((val (jaj u18 u19 u20 u17 u21 u22 u23 u24 u25 u26 u27 u14 u7 u13 u12 u10 u9 u15 u16 u43 u44)).2.2.2.2.2.2.2.2.2.2.2.2.2.2.2.2.2.2.2.2.2.2.2.2.2.2.2.2.2.1)),.d (.i .i64 ((val (jaj u18 u19 u20 u17 u21 u22 u23 u24 u25 u26 u27 u14 u7 u13 u12 u10 u9 u15 u16 u43 u44)).2.2.2.2.2.2.2.2.2.2.2.2.2.2.2.2.2.2.2.2.2.2.2.2.2.2.2.2.2.2.1)),.d (.i .i64 ((val (jaj u18 u19 u20 u17 u21 u22 u23 u24 u25 u26 u27 u14 u7 u13 u12 u10 u9 u15 u16 u43 u44)).2.2.2.2.2.2.2.2.2.2.2.2.2.2.2.2.2.2.2.2.2.2.2.2.2.2.2.2.2.2.2))]])
 |_=>none
abbrev jhn (u18:ByteArray) (u19:List (List NC)) (u20:List Int) (u17:Int) (u21:List (List Nat)) (u22:List (List (List Int))) (u23:List (List Nat)) (u24:List Int) (u25:List (List Nat)) (u26:List (List (List Int))) (u27:List Int) (u14:ByteArray) (u7:Int) (u13:List Int) (u12:List Int) (u10:List Int) (u9:Int) (u15:List (List Int)) (u16:Int) (u43:Int) (u44:Int) (r:zT):Lp ((Int × zT) × Nat) (Int × zT) (zT) (zT) (zT) :=
 ⟨fun z=>z.1,fun z=>z.2,fun z x n=>(x,n),fun z=>jec u18 u19 u20 u17 u21 u22 u23 u24 u25 u26 u27 u13 u12 u43 u44,fun z=>jed,fun z=>top r,fun z=>0,[.c fun _=>0,.c fun _=>u43,.c fun _=>u44,.c fun _=>0,.c fun _=>0,.c fun _=>0,.c fun vv=>vv.1.1,.c fun _=>0,.c fun _=>u17,.c fun _=>u14,.c fun _=>u7,.c fun _=>u9,.c fun _=>u16,.c fun _=>(0:Int),.c fun _=>(0:Int),.c fun _=>(0:Int),.c fun _=>(0:Int),.c fun _=>(0:Int),.c fun _=>(0:Int),.c fun _=>(0:Int),.c fun _=>(0:Int),.c fun _=>(0:Int),.c fun _=>(0:Int),.c fun _=>(0:Int),.c fun _=>(0:Int),.c fun _=>(0:Int),.c fun _=>(0:Int),.c fun _=>(0:Int),.c fun _=>(0:Int),.c fun _=>(0:Int),.c fun _=>(0:Int),.c fun _=>(0:Int),.c fun _=>(0:Int),.c fun _=>(0:Int),.c fun _=>(0:Int),.c fun _=>(0:Int),.c fun _=>(0:Int),.c fun _=>(0:Int),.c fun _=>(0:Int),.c fun _=>(0:Int),.c fun _=>(0:Int),.c fun _=>(0:Int),.c fun _=>(0:Int),.c fun _=>(0:Int),.c fun _=>(0:Int),.c fun vv=>vv.1.2.1,.c fun vv=>vv.1.2.2.1,.c fun vv=>vv.1.2.2.2.1,.c fun vv=>vv.1.2.2.2.2.1,.c fun vv=>vv.1.2.2.2.2.2.1,.c fun vv=>vv.1.2.2.2.2.2.2.1,.c fun vv=>vv.1.2.2.2.2.2.2.2.1,.c fun vv=>vv.1.2.2.2.2.2.2.2.2.1,.c fun vv=>vv.1.2.2.2.2.2.2.2.2.2.1,.c fun vv=>vv.1.2.2.2.2.2.2.2.2.2.2.1,.c fun vv=>vv.1.2.2.2.2.2.2.2.2.2.2.2.1,.c fun vv=>vv.1.2.2.2.2.2.2.2.2.2.2.2.2.1,.c fun vv=>vv.1.2.2.2.2.2.2.2.2.2.2.2.2.2.1,.c fun vv=>vv.1.2.2.2.2.2.2.2.2.2.2.2.2.2.2.1,.c fun vv=>vv.1.2.2.2.2.2.2.2.2.2.2.2.2.2.2.2.1,.c fun vv=>vv.1.2.2.2.2.2.2.2.2.2.2.2.2.2.2.2.2.1,.c fun vv=>vv.1.2.2.2.2.2.2.2.2.2.2.2.2.2.2.2.2.2.1,.c fun vv=>vv.1.2.2.2.2.2.2.2.2.2.2.2.2.2.2.2.2.2.2.1,.c fun vv=>vv.1.2.2.2.2.2.2.2.2.2.2.2.2.2.2.2.2.2.2.2.1,.c fun vv=>vv.1.2.2.2.2.2.2.2.2.2.2.2.2.2.2.2.2.2.2.2.2.1,.c fun vv=>vv.1.2.2.2.2.2.2.2.2.2.2.2.2.2.2.2.2.2.2.2.2.2.1,.c fun vv=>vv.1.2.2.2.2.2.2.2.2.2.2.2.2.2.2.2.2.2.2.2.2.2.2.1,.c fun vv=>vv.1.2.2.2.2.2.2.2.2.2.2.2.2.2.2.2.2.2.2.2.2.2.2.2.1,.c fun vv=>vv.1.2.2.2.2.2.2.2.2.2.2.2.2.2.2.2.2.2.2.2.2.2.2.2.2.1,.c fun vv=>vv.1.2.2.2.2.2.2.2.2.2.2.2.2.2.2.2.2.2.2.2.2.2.2.2.2.2.1,.c fun vv=>vv.1.2.2.2.2.2.2.2.2.2.2.2.2.2.2.2.2.2.2.2.2.2.2.2.2.2.2.1,.c fun vv=>vv.1.2.2.2.2.2.2.2.2.2.2.2.2.2.2.2.2.2.2.2.2.2.2.2.2.2.2.2.1,.c fun vv=>vv.1.2.2.2.2.2.2.2.2.2.2.2.2.2.2.2.2.2.2.2.2.2.2.2.2.2.2.2.2.1,.c fun vv=>vv.1.2.2.2.2.2.2.2.2.2.2.2.2.2.2.2.2.2.2.2.2.2.2.2.2.2.2.2.2.2.1,.c fun vv=>vv.1.2.2.2.2.2.2.2.2.2.2.2.2.2.2.2.2.2.2.2.2.2.2.2.2.2.2.2.2.2.2.1,.c fun vv=>vv.1.2.2.2.2.2.2.2.2.2.2.2.2.2.2.2.2.2.2.2.2.2.2.2.2.2.2.2.2.2.2.2.1,.c fun vv=>vv.1.2.2.2.2.2.2.2.2.2.2.2.2.2.2.2.2.2.2.2.2.2.2.2.2.2.2.2.2.2.2.2.2,.c fun _=>u18,.c fun _=>u21,.c fun _=>u22,.c fun _=>u23,.c fun _=>u24,.c fun _=>u25,.c fun _=>u26,.c fun _=>u27,.c fun _=>u13,.c fun _=>u12,.c fun _=>u10,.c fun _=>u15,.c fun _=>u19,.c fun _=>u20]⟩
def jnX (u18:ByteArray) (u19:List (List NC)) (u20:List Int) (u17:Int) (u21:List (List Nat)) (u22:List (List (List Int))) (u23:List (List Nat)) (u24:List Int) (u25:List (List Nat)) (u26:List (List (List Int))) (u27:List Int) (u14:ByteArray) (u7:Int) (u13:List Int) (u12:List Int) (u10:List Int) (u9:Int) (u15:List (List Int)) (u16:Int) (u43:Int) (u44:Int) (r:zT):Sk (top r) (ze (jag (jec u18 u19 u20 u17 u21 u22 u23 u24 u25 u26 u27 u13 u12 u43 u44) big (((0:Int),0,0,0,0,0,0,0,0,0,0,0,0,0,0,0,0,0,0,0,0,0,0,0,0,0,0,0,0,0,0,0,0))) (jed)) :=
 .loop (jhn u18 u19 u20 u17 u21 u22 u23 u24 u25 u26 u27 u14 u7 u13 u12 u10 u9 u15 u16 u43 u44 r) (fun kk=>(((0:Int),0,0,0,0,0,0,0,0,0,0,0,0,0,0,0,0,0,0,0,0,0,0,0,0,0,0,0,0,0,0,0,0),big)) fun z0 =>
 .br
 (.ob (.ob (.ob (.ob (.call (.ob (.ob (.next))))))))
 (.exit (.obT (.rc)))
def jpx (u18:ByteArray) (u19:List (List NC)) (u20:List Int) (u17:Int) (u21:List (List Nat)) (u22:List (List (List Int))) (u23:List (List Nat)) (u24:List Int) (u25:List (List Nat)) (u26:List (List (List Int))) (u27:List Int) (u14:ByteArray) (u7:Int) (u13:List Int) (u12:List Int) (u10:List Int) (u9:Int) (u15:List (List Int)) (u16:Int) (u43:Int) (u44:Int) (r:zT):Sk (top r) (jaj u18 u19 u20 u17 u21 u22 u23 u24 u25 u26 u27 u14 u7 u13 u12 u10 u9 u15 u16 u43 u44) :=
 jnX u18 u19 u20 u17 u21 u22 u23 u24 u25 u26 u27 u14 u7 u13 u12 u10 u9 u15 u16 u43 u44 r
def jnY (u18:ByteArray) (u19:List (List NC)) (u20:List Int) (u17:Int) (u21:List (List Nat)) (u22:List (List (List Int))) (u23:List (List Nat)) (u24:List Int) (u25:List (List Nat)) (u26:List (List (List Int))) (u27:List Int) (u14:ByteArray) (u7:Int) (u13:List Int) (u12:List Int) (u10:List Int) (u9:Int) (u15:List (List Int)) (u16:Int) (u43:Int) (u44:Int) (r:zT) (h:ze (jaj u18 u19 u20 u17 u21 u22 u23 u24 u25 u26 u27 u14 u7 u13 u12 u10 u9 u15 u16 u43 u44) some=some r):jbl Tryz.f148 ((sp_149 sp0)) (fun gs id _=>match id with
 |0=>some ⟨(Int × zT) × Nat,fun z=>⟨[(0,.w (.c (.p 10 0 1 0))),(2,.w (.c (.d (.i .i64 u43)))),(3,.w (.c (.d (.i .i64 u44)))),(5,.w (.c (.p 15 0 1 0))),(8,.w (.c (.p 16 0 1 0))),(9,.w (.c (.p 17 0 1 0))),(11,.w (.c (.d (.i .i64 z.1.1))))],[(10,.ebox [.p 2 0 1 0,.d (.i .i64 u17),.o 3,.o 4,.o 5,.o 6,.o 7,.o 8,.o 9]),(15,.box 118 [.d (.s u14),.d (.i .i64 u7),.o 11,.o 12,.o 13,.d (.i .i64 u9),.o 14,.d (.i .i64 u16)]),(16,.box 206 [.d (.i .i64 0),.d (.i .i64 0),.d (.i .i64 0),.d (.i .i64 0),.d (.i .i64 0),.d (.i .i64 0),.d (.i .i64 0),.d (.i .i64 0),.d (.i .i64 0),.d (.i .i64 0),.d (.i .i64 0),.d (.i .i64 0),.d (.i .i64 0),.d (.i .i64 0),.d (.i .i64 0),.d (.i .i64 0),.d (.i .i64 0),.d (.i .i64 0),.d (.i .i64 0),.d (.i .i64 0),.d (.i .i64 0),.d (.i .i64 0),.d (.i .i64 0),.d (.i .i64 0),.d (.i .i64 0),.d (.i .i64 0),.d (.i .i64 0),.d (.i .i64 0),.d (.i .i64 0),.d (.i .i64 0),.d (.i .i64 0),.d (.i .i64 0)]),(17,.box 206 [.d (.i .i64 z.1.2.1),.d (.i .i64 z.1.2.2.1),.d (.i .i64 z.1.2.2.2.1),.d (.i .i64 z.1.2.2.2.2.1),.d (.i .i64 z.1.2.2.2.2.2.1),.d (.i .i64 z.1.2.2.2.2.2.2.1),.d (.i .i64 z.1.2.2.2.2.2.2.2.1),.d (.i .i64 z.1.2.2.2.2.2.2.2.2.1),.d (.i .i64 z.1.2.2.2.2.2.2.2.2.2.1),.d (.i .i64 z.1.2.2.2.2.2.2.2.2.2.2.1),.d (.i .i64 z.1.2.2.2.2.2.2.2.2.2.2.2.1),.d (.i .i64 z.1.2.2.2.2.2.2.2.2.2.2.2.2.1),.d (.i .i64 z.1.2.2.2.2.2.2.2.2.2.2.2.2.2.1),.d (.i .i64 z.1.2.2.2.2.2.2.2.2.2.2.2.2.2.2.1),.d (.i .i64 z.1.2.2.2.2.2.2.2.2.2.2.2.2.2.2.2.1),.d (.i .i64 z.1.2.2.2.2.2.2.2.2.2.2.2.2.2.2.2.2.1),.d (.i .i64 z.1.2.2.2.2.2.2.2.2.2.2.2.2.2.2.2.2.2.1),.d (.i .i64 z.1.2.2.2.2.2.2.2.2.2.2.2.2.2.2.2.2.2.2.1),.d (.i .i64 z.1.2.2.2.2.2.2.2.2.2.2.2.2.2.2.2.2.2.2.2.1),.d (.i .i64 z.1.2.2.2.2.2.2.2.2.2.2.2.2.2.2.2.2.2.2.2.2.1),.d (.i .i64 z.1.2.2.2.2.2.2.2.2.2.2.2.2.2.2.2.2.2.2.2.2.2.1),.d (.i .i64 z.1.2.2.2.2.2.2.2.2.2.2.2.2.2.2.2.2.2.2.2.2.2.2.1),.d (.i .i64 z.1.2.2.2.2.2.2.2.2.2.2.2.2.2.2.2.2.2.2.2.2.2.2.2.1),.d (.i .i64 z.1.2.2.2.2.2.2.2.2.2.2.2.2.2.2.2.2.2.2.2.2.2.2.2.2.1),.d (.i .i64 z.1.2.2.2.2.2.2.2.2.2.2.2.2.2.2.2.2.2.2.2.2.2.2.2.2.2.1),.d (.i .i64 z.1.2.2.2.2.2.2.2.2.2.2.2.2.2.2.2.2.2.2.2.2.2.2.2.2.2.2.1),.d (.i .i64 z.1.2.2.2.2.2.2.2.2.2.2.2.2.2.2.2.2.2.2.2.2.2.2.2.2.2.2.2.1),.d (.i .i64 z.1.2.2.2.2.2.2.2.2.2.2.2.2.2.2.2.2.2.2.2.2.2.2.2.2.2.2.2.2.1),.d (.i .i64 z.1.2.2.2.2.2.2.2.2.2.2.2.2.2.2.2.2.2.2.2.2.2.2.2.2.2.2.2.2.2.1),.d (.i .i64 z.1.2.2.2.2.2.2.2.2.2.2.2.2.2.2.2.2.2.2.2.2.2.2.2.2.2.2.2.2.2.2.1),.d (.i .i64 z.1.2.2.2.2.2.2.2.2.2.2.2.2.2.2.2.2.2.2.2.2.2.2.2.2.2.2.2.2.2.2.2.1),.d (.i .i64 z.1.2.2.2.2.2.2.2.2.2.2.2.2.2.2.2.2.2.2.2.2.2.2.2.2.2.2.2.2.2.2.2.2)]),(2,.ebox [.d (.s u18),.o 0,.o 1]),(3,.xext (XC.ff .f32 u21)),(4,.xext (XC.rr (4:Nat) u22)),(5,.ext (.frs .f32 32 u23)),(6,.ext (.ints .i64 u24)),(7,.ext (.frs .f32 32 u25)),(8,.xext (XC.rr (4:Nat) u26)),(9,.ext (.ints .i64 u27)),(11,.ext (.ints .i64 u13)),(12,.ext (.ints .i64 u12)),(13,.ext (.ints .i64 u10)),(14,.ext (.recs 5 u15)),(0,.xext (XC.st zS u19)),(1,.ext (.ints .i64 u20))],18⟩,fun z=>(jhn u18 u19 u20 u17 u21 u22 u23 u24 u25 u26 u27 u14 u7 u13 u12 u10 u9 u15 u16 u43 u44 r).inv z,fun z=>z.2⟩
 |_=>none) (jbd jeN [.d (.s u18),.x (.st zS u19),.r (.ints .i64 u20),.d (.i .i64 u17),.x (.ff .f32 u21),.x (.rr 4 u22),.r (.frs .f32 32 u23),.r (.ints .i64 u24),.r (.frs .f32 32 u25),.x (.rr 4 u26),.r (.ints .i64 u27),.d (.s u14),.d (.i .i64 u7),.r (.ints .i64 u13),.r (.ints .i64 u12),.r (.ints .i64 u10),.d (.i .i64 u9),.r (.recs 5 u15),.d (.i .i64 u16),.d (.i .i64 u43),.d (.i .i64 u44)]) [.s [.d (.i .i64 r.1),.d (.i .i64 r.2.1),.d (.i .i64 r.2.2.1),.d (.i .i64 r.2.2.2.1),.d (.i .i64 r.2.2.2.2.1),.d (.i .i64 r.2.2.2.2.2.1),.d (.i .i64 r.2.2.2.2.2.2.1),.d (.i .i64 r.2.2.2.2.2.2.2.1),.d (.i .i64 r.2.2.2.2.2.2.2.2.1),.d (.i .i64 r.2.2.2.2.2.2.2.2.2.1),.d (.i .i64 r.2.2.2.2.2.2.2.2.2.2.1),.d (.i .i64 r.2.2.2.2.2.2.2.2.2.2.2.1),.d (.i .i64 r.2.2.2.2.2.2.2.2.2.2.2.2.1),.d (.i .i64 r.2.2.2.2.2.2.2.2.2.2.2.2.2.1),.d (.i .i64 r.2.2.2.2.2.2.2.2.2.2.2.2.2.2.1),.d (.i .i64 r.2.2.2.2.2.2.2.2.2.2.2.2.2.2.2.1),.d (.i .i64 r.2.2.2.2.2.2.2.2.2.2.2.2.2.2.2.2.1),.d (.i .i64 r.2.2.2.2.2.2.2.2.2.2.2.2.2.2.2.2.2.1),.d (.i .i64 r.2.2.2.2.2.2.2.2.2.2.2.2.2.2.2.2.2.2.1),.d (.i .i64 r.2.2.2.2.2.2.2.2.2.2.2.2.2.2.2.2.2.2.2.1),.d (.i .i64 r.2.2.2.2.2.2.2.2.2.2.2.2.2.2.2.2.2.2.2.2.1),.d (.i .i64 r.2.2.2.2.2.2.2.2.2.2.2.2.2.2.2.2.2.2.2.2.2.1),.d (.i .i64 r.2.2.2.2.2.2.2.2.2.2.2.2.2.2.2.2.2.2.2.2.2.2.1),.d (.i .i64 r.2.2.2.2.2.2.2.2.2.2.2.2.2.2.2.2.2.2.2.2.2.2.2.1),.d (.i .i64 r.2.2.2.2.2.2.2.2.2.2.2.2.2.2.2.2.2.2.2.2.2.2.2.2.1),.d (.i .i64 r.2.2.2.2.2.2.2.2.2.2.2.2.2.2.2.2.2.2.2.2.2.2.2.2.2.1),.d (.i .i64 r.2.2.2.2.2.2.2.2.2.2.2.2.2.2.2.2.2.2.2.2.2.2.2.2.2.2.1),.d (.i .i64 r.2.2.2.2.2.2.2.2.2.2.2.2.2.2.2.2.2.2.2.2.2.2.2.2.2.2.2.1),.d (.i .i64 r.2.2.2.2.2.2.2.2.2.2.2.2.2.2.2.2.2.2.2.2.2.2.2.2.2.2.2.2.1),.d (.i .i64 r.2.2.2.2.2.2.2.2.2.2.2.2.2.2.2.2.2.2.2.2.2.2.2.2.2.2.2.2.2.1),.d (.i .i64 r.2.2.2.2.2.2.2.2.2.2.2.2.2.2.2.2.2.2.2.2.2.2.2.2.2.2.2.2.2.2.1),.d (.i .i64 r.2.2.2.2.2.2.2.2.2.2.2.2.2.2.2.2.2.2.2.2.2.2.2.2.2.2.2.2.2.2.2)]] :=
 Sk.vc (jpx u18 u19 u20 u17 u21 u22 u23 u24 u25 u26 u27 u14 u7 u13 u12 u10 u9 u15 u16 u43 u44 r) (by kernel_rfl) h
def jnZ:jaf Tryz.prog 148 true (jai jeN jeO):=by
 refine jaC (sp:=(sp_149 sp0)) (fn:=Tryz.f148) (body:=bodyOf Tryz.f148) mixed (sp_149_ok jau) Tryz.func148 (by kernel_rfl) (by kernel_rfl) fun ls t h ho b hb=>?_;unfold jeO at h;split at h
 ·rename_i u18 u19 u20 u17 u21 u22 u23 u24 u25 u26 u27 u14 u7 u13 u12 u10 u9 u15 u16 u43 u44;cases h;obtain rfl:=jaN hb;exact⟨zj (by kernel_rfl),_,_,jnY u18 u19 u20 u17 u21 u22 u23 u24 u25 u26 u27 u14 u7 u13 u12 u10 u9 u15 u16 u43 u44 _ (jar ho)⟩
 ·cases h
end Go.Sh
end

section
namespace Go.Sh
open Go Go.Proofs Go.RowKit Go.Sx
open Go.IntKind (wrap)
def jeP:List SV:=[.c (.p [.p [.d,.x (.st zS []),.r (.ints .i64 [])],.d,.x (.ff .f32 []),.x (.rr 4 []),.r (.frs .f32 32 []),.r (.ints .i64 []),.r (.frs .f32 32 []),.x (.rr 4 []),.r (.ints .i64 [])])]
def jho (u18:ByteArray) (u19:List (List NC)) (u20:List Int) (u17:Int) (u21:List (List Nat)) (u22:List (List (List Int))) (u23:List (List Nat)) (u24:List Int) (u25:List (List Nat)) (u26:List (List (List Int))) (u27:List Int) (x0:Int × List (List Nat)) (x1:(Int × List Nat)):Option ((Int × List Nat) ⊕ (List Nat)) :=
 if x1.1<32 then
  ze (jqA u18 u19 u20 u17 u21 u22 u23 u24 u25 u26 u27 x0.1 x1.1) fun r0 =>
  if(zg x1.2+zg [jI .f32 r0])*4<=140737488355328∧zg x1.2+zg [jI .f32 r0]<=9223372036854775807 then
  some (.inl ((wrap .i64 (x1.1+1),x1.2++[jI .f32 r0])))
  else none
 else
  some (.inr x1.2)
def jhp (x0:Int × List (List Nat)) (u11:List Nat):Option ((Int × List (List Nat)) ⊕ (List (List Nat))) :=
 if(zg x0.2+zg (ko (fun r=>NC.toFlts (kt r (NC.d (D.v qe)))) [[NC.r (Cont.floats .f32 u11)]]))*24<=140737488355328∧zg x0.2+zg (ko (fun r=>NC.toFlts (kt r (NC.d (D.v qe)))) [[NC.r (Cont.floats .f32 u11)]])<=9223372036854775807 then
  some (.inl ((wrap .i64 (x0.1+1),x0.2++ko (fun r=>NC.toFlts (kt r (NC.d (D.v qe)))) [[NC.r (Cont.floats .f32 u11)]])))
 else none
def jee (u18:ByteArray) (u19:List (List NC)) (u20:List Int) (u17:Int) (u21:List (List Nat)) (u22:List (List (List Int))) (u23:List (List Nat)) (u24:List Int) (u25:List (List Nat)) (u26:List (List (List Int))) (u27:List Int) (x0:(Int × List (List Nat))):Option ((Int × List (List Nat)) ⊕ (List (List Nat))) :=
 if x0.1<(↑u19.length:Int)then
  ze (jag (jho u18 u19 u20 u17 u21 u22 u23 u24 u25 u26 u27 x0) big (((-96:Int),[]))) (jhp x0)
 else
  some (.inr x0.2)
def jef (u17:Int) (u5:List (List Nat)):Option (Int × List (List Nat)) :=
 some ((wrap .i64 (u17+1),u5))
def jct (u18:ByteArray) (u19:List (List NC)) (u20:List Int) (u17:Int) (u21:List (List Nat)) (u22:List (List (List Int))) (u23:List (List Nat)) (u24:List Int) (u25:List (List Nat)) (u26:List (List (List Int))) (u27:List Int):Option (Int × List (List Nat)) :=
 ze (jag (jee u18 u19 u20 u17 u21 u22 u23 u24 u25 u26 u27) big (((0:Int),[]))) (jef u17)
def jeQ:List Lf->Option GT
 |[.d (.s u18),.x (.st [.s,.i .i64,.ints .i64,.ints .i64,.ints .i64,.i .i64,.recs 5,.i .i64] u19),.r (.ints .i64 u20),.d (.i .i64 u17),.x (.ff .f32 u21),.x (.rr 4 u22),.r (.frs .f32 32 u23),.r (.ints .i64 u24),.r (.frs .f32 32 u25),.x (.rr 4 u26),.r (.ints .i64 u27)]=>some (.leaf (ok (jct u18 u19 u20 u17 u21 u22 u23 u24 u25 u26 u27)) [.s [.d (.i .i64 ((val (jct u18 u19 u20 u17 u21 u22 u23 u24 u25 u26 u27)).1)),.x 157 (.ff .f32 ((val (jct u18 u19 u20 u17 u21 u22 u23 u24 u25 u26 u27)).2)),.g 8]])
 |_=>none
abbrev jeg (u18:ByteArray) (u19:List (List NC)) (u20:List Int) (u17:Int) (u21:List (List Nat)) (u22:List (List (List Int))) (u23:List (List Nat)) (u24:List Int) (u25:List (List Nat)) (u26:List (List (List Int))) (u27:List Int) (r:Int × List (List Nat)):Lp ((Int × List (List Nat)) × Nat) ((Int × List (List Nat))) ((List (List Nat))) ((Int × List (List Nat))) (Int × List (List Nat)) :=
 ⟨fun z=>z.1,fun z=>z.2,fun z x n=>(x,n),fun z=>jee u18 u19 u20 u17 u21 u22 u23 u24 u25 u26 u27,fun z=>jef u17,fun z=>top r,fun z=>0,[.c fun _=>0,.c fun _=>0,.c fun _=>0,.c fun _=>(↑u19.length:Int),.c fun vv=>vv.1.1,.c fun _=>0,.c fun _=>u17,.c fun _=>(0:Int),.c fun _=>qc none (0:Nat) (0:Nat),.c fun _=>qc none (0:Nat) (0:Nat),.c fun _=>wrap .i64 (u17+1),.c fun _=>u18,.c fun _=>u21,.c fun _=>u22,.c fun _=>u23,.c fun _=>u24,.c fun _=>u25,.c fun _=>u26,.c fun _=>u27,.c fun vv=>vv.1.2,.c fun _=>u19,.c fun _=>u20]⟩
abbrev jhq (u18:ByteArray) (u19:List (List NC)) (u20:List Int) (u17:Int) (u21:List (List Nat)) (u22:List (List (List Int))) (u23:List (List Nat)) (u24:List Int) (u25:List (List Nat)) (u26:List (List (List Int))) (u27:List Int) (r:Int × List (List Nat)) (m1:Nat):Lp ((Int × List (List Nat)) × Nat × (Int × List Nat) × Nat) (Int × List Nat) (List Nat) (((Int × List (List Nat)) ⊕ (List (List Nat)))) (Int × List (List Nat)) :=
 ⟨fun z=>z.2.2.1,fun z=>z.2.2.2,fun z x n=>(z.1,z.2.1,x,n),fun z=>jho u18 u19 u20 u17 u21 u22 u23 u24 u25 u26 u27 z.1,fun z=>jhp z.1,fun z=>(jeg u18 u19 u20 u17 u21 u22 u23 u24 u25 u26 u27 r).cx (z.1,m1),fun z=>z.2.1,[.c fun _=>0,.c fun _=>0,.c fun _=>0,.c fun vv=>vv.1.1,.c fun vv=>vv.2.2.1.1,.c fun _=>(↑u19.length:Int),.c fun vv=>vv.1.1,.c fun _=>0,.c fun _=>u17,.c fun _=>(0:Int),.c fun _=>qc none (0:Nat) (0:Nat),.c fun _=>qc none (0:Nat) (0:Nat),.c fun _=>wrap .i64 (u17+1),.c fun vv=>vv.2.2.1.2,.c fun _=>u18,.c fun _=>u21,.c fun _=>u22,.c fun _=>u23,.c fun _=>u24,.c fun _=>u25,.c fun _=>u26,.c fun _=>u27,.c fun vv=>vv.1.2,.c fun _=>u19,.c fun _=>u20]⟩
def jn0 (u18:ByteArray) (u19:List (List NC)) (u20:List Int) (u17:Int) (u21:List (List Nat)) (u22:List (List (List Int))) (u23:List (List Nat)) (u24:List Int) (u25:List (List Nat)) (u26:List (List (List Int))) (u27:List Int) (r:Int × List (List Nat)):Sk (top r) (ze (jag (jee u18 u19 u20 u17 u21 u22 u23 u24 u25 u26 u27) big (((0:Int),[]))) (jef u17)) :=
 .loopQ (jeg u18 u19 u20 u17 u21 u22 u23 u24 u25 u26 u27 r) [.c fun _=>0,.c fun _=>0,.c fun _=>0,.c fun _=>(↑u19.length:Int),.c fun vv=>vv.1.1,.c fun _=>0,.c fun _=>u17,.c fun _=>(0:Int),.c fun _=>qc none (0:Nat) (0:Nat),.c fun _=>qc none (0:Nat) (0:Nat),.c fun _=>wrap .i64 (u17+1),.c fun _=>u18,.c fun _=>u21,.c fun _=>u22,.c fun _=>u23,.c fun _=>u24,.c fun _=>u25,.c fun _=>u26,.c fun _=>u27,.p fun vv=>zg vv.1.2=(0:Nat),.c fun _=>u19,.c fun _=>u20] (fun kk=>(((0:Int),[]),big)) (fun z0 =>
 .br
 (.loopQ (jhq u18 u19 u20 u17 u21 u22 u23 u24 u25 u26 u27 r z0.2) [.c fun _=>0,.c fun _=>0,.c fun _=>0,.c fun vv=>vv.1.1,.c fun vv=>vv.2.2.1.1,.c fun _=>(↑u19.length:Int),.c fun vv=>vv.1.1,.c fun _=>0,.c fun _=>u17,.c fun _=>(0:Int),.c fun _=>qc none (0:Nat) (0:Nat),.c fun _=>qc none (0:Nat) (0:Nat),.c fun _=>wrap .i64 (u17+1),.p fun vv=>zg vv.2.2.1.2=(0:Nat),.c fun _=>u18,.c fun _=>u21,.c fun _=>u22,.c fun _=>u23,.c fun _=>u24,.c fun _=>u25,.c fun _=>u26,.c fun _=>u27,.c fun vv=>vv.1.2,.c fun _=>u19,.c fun _=>u20] (fun kk=>(z0.1,kk,((-96:Int),[]),big)) (fun z1 =>
 .br
 (.call (.obT (.ob (.next))))
 (.exit (.ob (.next)))) (fun _=>⟨rfl,trivial⟩))
 (.exit (.obT (.rc)))) (fun _=>⟨rfl,trivial⟩)
def jpy (u18:ByteArray) (u19:List (List NC)) (u20:List Int) (u17:Int) (u21:List (List Nat)) (u22:List (List (List Int))) (u23:List (List Nat)) (u24:List Int) (u25:List (List Nat)) (u26:List (List (List Int))) (u27:List Int) (r:Int × List (List Nat)):Sk (top r) (jct u18 u19 u20 u17 u21 u22 u23 u24 u25 u26 u27) :=
 .obT (.obT (.obT (.obT (jn0 u18 u19 u20 u17 u21 u22 u23 u24 u25 u26 u27 r))))
def jn1 (u18:ByteArray) (u19:List (List NC)) (u20:List Int) (u17:Int) (u21:List (List Nat)) (u22:List (List (List Int))) (u23:List (List Nat)) (u24:List Int) (u25:List (List Nat)) (u26:List (List (List Int))) (u27:List Int) (r:Int × List (List Nat)) (h:ze (jct u18 u19 u20 u17 u21 u22 u23 u24 u25 u26 u27) some=some r):jbl Tryz.f106 ((sp_149 sp0)) (fun gs id _=>match id with
 |0=>some ⟨(Int × List (List Nat)) × Nat,fun z=>⟨[(0,.w (.c (.p 10 0 1 0))),(2,.w (.c (.p 11 0 1 0))),(3,.w (.c (.p 12 0 1 0))),(26,.w (.c (.d (.i .i64 ((↑u19.length:Int)))))),(27,.w (.c (.d (.i .i64 z.1.1))))],[(10,.ebox [.p 2 0 1 0,.d (.i .i64 u17),.o 3,.o 4,.o 5,.o 6,.o 7,.o 8,.o 9]),(11,.box 78 [.d (.i .i64 0),.d (.v (qc none (0:Nat) (0:Nat))),.d (.v (qc none (0:Nat) (0:Nat)))]),(12,.box 78 [.d (.i .i64 (wrap .i64 (u17+1))),.o 13,.o 8]),(2,.ebox [.d (.s u18),.o 0,.o 1]),(3,.xext (XC.ff .f32 u21)),(4,.xext (XC.rr (4:Nat) u22)),(5,.ext (.frs .f32 32 u23)),(6,.ext (.ints .i64 u24)),(7,.ext (.frs .f32 32 u25)),(8,.xext (XC.rr (4:Nat) u26)),(9,.ext (.ints .i64 u27)),(13,.xrow 157 (XC.ff .f32 z.1.2)),(0,.xext (XC.st zS u19)),(1,.ext (.ints .i64 u20))],14⟩,fun z=>(jeg u18 u19 u20 u17 u21 u22 u23 u24 u25 u26 u27 r).inv z,fun z=>z.2⟩
 |2=>some ⟨(Int × List (List Nat)) × Nat × (Int × List Nat) × Nat,fun z=>⟨[(0,.w (.c (.p 10 0 1 0))),(2,.w (.c (.p 11 0 1 0))),(3,.w (.c (.p 12 0 1 0))),(4,.w (.c (.d (.i .i64 (z.1.1))))),(5,.w (.c (.o 13))),(6,.w (.c (.d (.i .i64 z.2.2.1.1)))),(26,.w (.c (.d (.i .i64 ((↑u19.length:Int)))))),(27,.w (.c (.d (.i .i64 (z.1.1)))))],[(10,.ebox [.p 2 0 1 0,.d (.i .i64 u17),.o 3,.o 4,.o 5,.o 6,.o 7,.o 8,.o 9]),(11,.box 78 [.d (.i .i64 0),.d (.v (qc none (0:Nat) (0:Nat))),.d (.v (qc none (0:Nat) (0:Nat)))]),(12,.box 78 [.d (.i .i64 (wrap .i64 (u17+1))),.o 14,.o 8]),(13,.row 108 (.floats .f32 z.2.2.1.2)),(2,.ebox [.d (.s u18),.o 0,.o 1]),(3,.xext (XC.ff .f32 u21)),(4,.xext (XC.rr (4:Nat) u22)),(5,.ext (.frs .f32 32 u23)),(6,.ext (.ints .i64 u24)),(7,.ext (.frs .f32 32 u25)),(8,.xext (XC.rr (4:Nat) u26)),(9,.ext (.ints .i64 u27)),(14,.xrow 157 (XC.ff .f32 z.1.2)),(0,.xext (XC.st zS u19)),(1,.ext (.ints .i64 u20))],15⟩,fun z=>(jhq u18 u19 u20 u17 u21 u22 u23 u24 u25 u26 u27 r (gs.getD 0 0)).inv z,fun z=>z.2.2.2⟩
 |_=>none) (jbd jeP [.d (.s u18),.x (.st zS u19),.r (.ints .i64 u20),.d (.i .i64 u17),.x (.ff .f32 u21),.x (.rr 4 u22),.r (.frs .f32 32 u23),.r (.ints .i64 u24),.r (.frs .f32 32 u25),.x (.rr 4 u26),.r (.ints .i64 u27)]) [.s [.d (.i .i64 r.1),.x 157 (.ff .f32 r.2),.g 8]] :=
 Sk.vc (jpy u18 u19 u20 u17 u21 u22 u23 u24 u25 u26 u27 r) (by kernel_rfl) h
def jn2:jaf Tryz.prog 106 true (jai jeP jeQ):=by
 refine jaC (sp:=(sp_149 sp0)) (fn:=Tryz.f106) (body:=bodyOf Tryz.f106) mixed (sp_149_ok jau) Tryz.func106 (by kernel_rfl) (by kernel_rfl) fun ls t h ho b hb=>?_;unfold jeQ at h;split at h
 ·rename_i u18 u19 u20 u17 u21 u22 u23 u24 u25 u26 u27;cases h;obtain rfl:=jaN hb;exact⟨zj (by kernel_rfl),_,_,jn1 u18 u19 u20 u17 u21 u22 u23 u24 u25 u26 u27 _ (jar ho)⟩
 ·cases h
end Go.Sh
end

section
namespace Go.Sh
open Go Go.Proofs Go.RowKit Go.Sx
def jhr:List Lf->Option (List RR)
 |[.d (.i .i64 l0),.d (.i .i64 l1),.d (.i .i64 l2),.d (.i .i64 l3),.d (.i .i64 l4),.d (.i .i64 l5),.d (.i .i64 l6),.d (.i .i64 l7),.d (.i .i64 l8),.d (.i .i64 l9),.d (.i .i64 l10),.d (.i .i64 l11),.d (.i .i64 l12),.d (.i .i64 l13),.d (.i .i64 l14),.d (.i .i64 l15),.d (.i .i64 l16),.d (.i .i64 l17),.d (.i .i64 l18),.d (.i .i64 l19),.d (.i .i64 l20),.d (.i .i64 l21),.d (.i .i64 l22),.d (.i .i64 l23),.d (.i .i64 l24),.d (.i .i64 l25),.d (.i .i64 l26),.d (.i .i64 l27),.d (.i .i64 l28),.d (.i .i64 l29),.d (.i .i64 l30),.d (.i .i64 l31)]=>match jfS l0 l1 l2 l3 l4 l5 l6 l7 l8 l9 l10 l11 l12 l13 l14 l15 l16 l17 l18 l19 l20 l21 l22 l23 l24 l25 l26 l27 l28 l29 l30 l31 with
  |some v=>some [.b .f32 32 (v)]
  |none=>none
 |_=>none
def jpz:∀ls rs,jhr ls=some rs->∃t,jh1 ls=some t∧t.sel.2=rs∧t.sel.1:=by
 intro ls rs h;unfold jhr at h;split at h
 ·split at h
  ·rename_i v hv;cases h;exact⟨_,rfl,by simp only[GT.sel,hv];rfl,jgu hv⟩
  ·cases h
 ·cases h
def jeh:List Lf->Option (List RR)
 |[.d (.s r_graphEngineGraphName),.x (.st [.s,.i .i64,.ints .i64,.ints .i64,.ints .i64,.i .i64,.recs 5,.i .i64] r_graphEngineGraphUnits),.r (.ints .i64 r_graphorder),.d (.i .i64 r_beforeBlocks),.x (.ff .f32 r_beforePast),.x (.rr 4 r_beforeFilters),.r (.frs .f32 32 r_in),.r (.ints .i64 r_who),.r (.frs .f32 32 r_given),.x (.rr 4 r_after),.r (.ints .i64 r_cuts),.d (.s uName),.d (.i .i64 uKind),.r (.ints .i64 uFrom),.r (.ints .i64 uAlign),.r (.ints .i64 uGains),.d (.i .i64 uDelay),.r (.recs 5 uCascade),.d (.i .i64 uStand),.d (.i .i64 from_),.d (.i .i64 later)]=>match jaj r_graphEngineGraphName r_graphEngineGraphUnits r_graphorder r_beforeBlocks r_beforePast r_beforeFilters r_in r_who r_given r_after r_cuts uName uKind uFrom uAlign uGains uDelay uCascade uStand from_ later with
  |some v=>some [.s [.d (.i .i64 (v.1)),.d (.i .i64 (v.2.1)),.d (.i .i64 (v.2.2.1)),.d (.i .i64 (v.2.2.2.1)),.d (.i .i64 (v.2.2.2.2.1)),.d (.i .i64 (v.2.2.2.2.2.1)),.d (.i .i64 (v.2.2.2.2.2.2.1)),.d (.i .i64 (v.2.2.2.2.2.2.2.1)),.d (.i .i64 (v.2.2.2.2.2.2.2.2.1)),.d (.i .i64 (v.2.2.2.2.2.2.2.2.2.1)),.d (.i .i64 (v.2.2.2.2.2.2.2.2.2.2.1)),.d (.i .i64 (v.2.2.2.2.2.2.2.2.2.2.2.1)),.d (.i .i64 (v.2.2.2.2.2.2.2.2.2.2.2.2.1)),.d (.i .i64 (v.2.2.2.2.2.2.2.2.2.2.2.2.2.1)),.d (.i .i64 (v.2.2.2.2.2.2.2.2.2.2.2.2.2.2.1)),.d (.i .i64 (v.2.2.2.2.2.2.2.2.2.2.2.2.2.2.2.1)),.d (.i .i64 (v.2.2.2.2.2.2.2.2.2.2.2.2.2.2.2.2.1)),.d (.i .i64 (v.2.2.2.2.2.2.2.2.2.2.2.2.2.2.2.2.2.1)),.d (.i .i64 (v.2.2.2.2.2.2.2.2.2.2.2.2.2.2.2.2.2.2.1)),.d (.i .i64 (v.2.2.2.2.2.2.2.2.2.2.2.2.2.2.2.2.2.2.2.1)),.d (.i .i64 (v.2.2.2.2.2.2.2.2.2.2.2.2.2.2.2.2.2.2.2.2.1)),.d (.i .i64 (v.2.2.2.2.2.2.2.2.2.2.2.2.2.2.2.2.2.2.2.2.2.1)),.d (.i .i64 (v.2.2.2.2.2.2.2.2.2.2.2.2.2.2.2.2.2.2.2.2.2.2.1)),.d (.i .i64 (v.2.2.2.2.2.2.2.2.2.2.2.2.2.2.2.2.2.2.2.2.2.2.2.1)),.d (.i .i64 (v.2.2.2.2.2.2.2.2.2.2.2.2.2.2.2.2.2.2.2.2.2.2.2.2.1)),.d (.i .i64 (v.2.2.2.2.2.2.2.2.2.2.2.2.2.2.2.2.2.2.2.2.2.2.2.2.2.1)),.d (.i .i64 (v.2.2.2.2.2.2.2.2.2.2.2.2.2.2.2.2.2.2.2.2.2.2.2.2.2.2.1)),.d (.i .i64 (v.2.2.2.2.2.2.2.2.2.2.2.2.2.2.2.2.2.2.2.2.2.2.2.2.2.2.2.1)),.d (.i .i64 (v.2.2.2.2.2.2.2.2.2.2.2.2.2.2.2.2.2.2.2.2.2.2.2.2.2.2.2.2.1)),.d (.i .i64 (v.2.2.2.2.2.2.2.2.2.2.2.2.2.2.2.2.2.2.2.2.2.2.2.2.2.2.2.2.2.1)),.d (.i .i64 (v.2.2.2.2.2.2.2.2.2.2.2.2.2.2.2.2.2.2.2.2.2.2.2.2.2.2.2.2.2.2.1)),.d (.i .i64 (v.2.2.2.2.2.2.2.2.2.2.2.2.2.2.2.2.2.2.2.2.2.2.2.2.2.2.2.2.2.2.2))]]
  |none=>none
 |_=>none
def jkt:∀ls rs,jeh ls=some rs->∃t,jeO ls=some t∧t.sel.2=rs∧t.sel.1:=by
 intro ls rs h;unfold jeh at h;split at h
 ·split at h
  ·rename_i v hv;cases h;exact⟨_,rfl,by simp only[GT.sel,hv];rfl,jgu hv⟩
  ·cases h
 ·cases h
def jj8:List Lf->Option (List RR)
 |[.d (.s gName),.x (.st [.s,.i .i64,.ints .i64,.ints .i64,.ints .i64,.i .i64,.recs 5,.i .i64] gUnits),.r (.ints .i64 order),.d (.i .i64 i),.r (.bools placed)]=>match jdb gUnits i placed with
  |some v=>some [.c (.d (.b v))]
  |none=>none
 |_=>none
def jrL:∀ls rs,jj8 ls=some rs->∃t,jhL ls=some t∧t.sel.2=rs∧t.sel.1:=by
 intro ls rs h;unfold jj8 at h;split at h
 ·split at h
  ·rename_i v hv;cases h;exact⟨_,rfl,by simp only[GT.sel,hv];rfl,jgu hv⟩
  ·cases h
 ·cases h
def jei:List Lf->Option (List RR)
 |[.d (.s r_graphEngineGraphName),.x (.st [.s,.i .i64,.ints .i64,.ints .i64,.ints .i64,.i .i64,.recs 5,.i .i64] r_graphEngineGraphUnits),.r (.ints .i64 r_graphorder),.d (.i .i64 r_beforeBlocks),.x (.ff .f32 r_beforePast),.x (.rr 4 r_beforeFilters),.r (.frs .f32 32 r_in),.r (.ints .i64 r_who),.r (.frs .f32 32 r_given),.x (.rr 4 r_after),.r (.ints .i64 r_cuts)]=>match jct r_graphEngineGraphName r_graphEngineGraphUnits r_graphorder r_beforeBlocks r_beforePast r_beforeFilters r_in r_who r_given r_after r_cuts with
  |some v=>some [.s [.d (.i .i64 (v.1)),.x 157 (.ff .f32 (v.2)),.g 8]]
  |none=>none
 |_=>none
def jku:∀ls rs,jei ls=some rs->∃t,jeQ ls=some t∧t.sel.2=rs∧t.sel.1:=by
 intro ls rs h;unfold jei at h;split at h
 ·split at h
  ·rename_i v hv;cases h;exact⟨_,rfl,by simp only[GT.sel,hv];rfl,jgu hv⟩
  ·cases h
 ·cases h
def jge:List Lf->Option (List RR)
 |[.r (.ints .i64 l)]=>match jaI l with
  |some v=>some [.c (.row 3 (.ints .i64 v))]
  |none=>none
 |_=>none
def jn3:∀ls rs,jge ls=some rs->∃t,jeL ls=some t∧t.sel.2=rs∧t.sel.1:=by
 intro ls rs h;unfold jge at h;split at h
 ·split at h
  ·rename_i v hv;cases h;exact⟨_,rfl,by simp only[GT.sel,hv];rfl,jgu hv⟩
  ·cases h
 ·cases h
def jgf:List Lf->Option (List RR)
 |[.r (.recs 5 l)]=>match jbr l with
  |some v=>some [.c (.row 148 (.recs 5 v))]
  |none=>none
 |_=>none
def jn4:∀ls rs,jgf ls=some rs->∃t,jeM ls=some t∧t.sel.2=rs∧t.sel.1:=by
 intro ls rs h;unfold jgf at h;split at h
 ·split at h
  ·rename_i v hv;cases h;exact⟨_,rfl,by simp only[GT.sel,hv];rfl,jgu hv⟩
  ·cases h
 ·cases h
def jgg:List Lf->Option (List RR)
 |[.r (.recs 4 l)]=>match jdI l with
  |some v=>some [.c (.row 174 (.recs 4 v))]
  |none=>none
 |_=>none
def jn5:∀ls rs,jgg ls=some rs->∃t,jhe ls=some t∧t.sel.2=rs∧t.sel.1:=by
 intro ls rs h;unfold jgg at h;split at h
 ·split at h
  ·rename_i v hv;cases h;exact⟨_,rfl,by simp only[GT.sel,hv];rfl,jgu hv⟩
  ·cases h
 ·cases h
def jCO:Nat->Bool
 |22|42|75|76|98|138=>true
 |_=>false
abbrev jbv:Globs:={ tab:=fun _=>none,nestL:=jCO }
def xsR:List XC:=[.st zS [],.rr 4 [],.ff .f32 []]
def ovE:jaa:=fun f=>match f with
 |146=>some (true,jfj [] jh0 jhr)
 |148=>some (true,jfj xsR jeN jeh)
 |106=>some (true,jfj xsR jeP jei)
 |136=>some (true,jfj [] jhc jge)
 |137=>some (true,jfj [] jhd jgf)
 |144=>some (true,jfj [] jlO jgg)
 |85=>some (true,jfj xsR jlz jj8)
 |_=>none
def roE:Nat->Bool
 |76|77|78|84|160|165|176|177|180|164|175|172|149|122|123|124|125|126|127|128|129|134|140|156|157|158|159|89|24|133|93|94|99|145|146|147|148|104|105|135|136|137|144=>true
 |_=>false
def jhs {f:Nat} {xs:List XC} {shs:List SV} {g0:List Lf->Option GT} {g:List Lf->Option (List RR)} (hs:jaf Tryz.prog f true (jai shs g0))
  (hg:∀ls rs,g ls=some rs->∃t,g0 ls=some t∧t.sel.2=rs∧t.sel.1):@jaf jbv Tryz.prog f true (jfj xs shs g) :=
 @jBQ jbv _ _ _ _ _ _ (jq6 globs jbv rfl rfl hs) hg
def jzk:@jac jbv Tryz.prog ovE:=fun f M S h=>by
 unfold ovE at h;split at h<;>cases h
 ·exact jhs jsS jpz
 ·exact jhs jnZ jkt
 ·exact jhs jn2 jku
 ·exact jhs jkf jn3
 ·exact jhs jkg jn4
 ·exact jhs jrG jn5
 ·exact jhs jo4 jrL
def jtO:jbY ovE:=fun f M S args hp nx t h hS=>by
 unfold ovE at h;split at h<;>cases h<;>exact jy6 hS
def dpE:jaa:=@jnJ jbv Tryz.prog ovE roE 200 20
def jCP:@jac jbv Tryz.prog dpE:=(@jqr jbv _ _ _ _ mixed jzk jtO 20).1
def jAQ:jbY dpE:=(@jqr jbv _ _ _ _ mixed jzk jtO 20).2
def jhP (c:yb) (st:St):Option (Ex × St):=@cx jbv Tryz.prog dpE Tryz.f16.ntmps 200 c st
def pcE (n:Nat):yb:=(jhM (Tryz.f16.body.getD .skip)).getD n .skip
abbrev aO (h:Nat):V:=.w (.c (.o h))
abbrev aN:C:=.d (.v (.slice none 0 0))
abbrev aI (n:Int):C:=.d (.i .i64 n)
abbrev aR (l:List Int):O:=.row 3 (.ints .i64 l)
abbrev aH0:Nat × O:=(56,aR [0,1,2,3])
abbrev aH1:Nat × O:=(8,(.lbox 118 8 4 [(.d (.s ⟨#[109,105,99]⟩)),(aI 0),aN,aN,aN,(aI 0),aN,(aI (-1)),(.d (.s ⟨#[100]⟩)),(aI 2),(.o 1),(.o 2),aN,(aI 3),aN,(aI (-1)),(.d (.s ⟨#[109,105,120]⟩)),(aI 1),(.o 3),(.o 4),(.o 5),(aI 0),aN,(aI (-1)),(.d (.s ⟨#[111,117,116]⟩)),(aI 4),(.o 6),(.o 7),aN,(aI 0),aN,(aI (-1))]))
abbrev aH2:Nat × O:=(5,aR [500,1000])
abbrev aH3:Nat × O:=(4,aR [0,0])
abbrev aH4:Nat × O:=(3,aR [0,1])
abbrev aH5:Nat × O:=(165,aR [0,2])
abbrev aH6:Nat × O:=(65,(.lbox 118 8 4 [(.d (.s ⟨#[109,105,99]⟩)),(aI 0),aN,aN,aN,(aI 0),aN,(aI (-1)),(.d (.s ⟨#[100]⟩)),(aI 2),(.o 58),(.o 59),aN,(aI 3),aN,(aI (-1)),(.d (.s ⟨#[109,105,120]⟩)),(aI 1),(.o 60),(.o 61),(.o 62),(aI 0),aN,(aI (-1)),(.d (.s ⟨#[111,117,116]⟩)),(aI 4),(.o 63),(.o 64),aN,(aI 0),aN,(aI (-1))]))
abbrev aH7:Nat × O:=(62,aR [500,1000])
abbrev aH8:Nat × O:=(61,aR [0,0])
abbrev aH9:Nat × O:=(60,aR [0,1])
abbrev jtP:Nat × O:=(259,(.box 24 [(.d (.s ⟨#[112]⟩)),(.o 240)]))
abbrev jtQ:Nat × O:=(254,aR [0])
abbrev jtR:Nat × O:=(250,aR [3,0])
abbrev jtS:Nat × O:=(246,aR [0])
abbrev jtT:Nat × O:=(240,(.lbox 118 8 4 [(.d (.s ⟨#[109,105,99]⟩)),(aI 0),(.o 241),(.o 242),(.o 243),(aI 0),(.o 244),(aI (-1)),(.d (.s ⟨#[100]⟩)),(aI 2),(.o 245),(.o 246),(.o 247),(aI 3),(.o 248),(aI (-1)),(.d (.s ⟨#[109,105,120]⟩)),(aI 1),(.o 249),(.o 250),(.o 251),(aI 0),(.o 252),(aI (-1)),(.d (.s ⟨#[111,117,116]⟩)),(aI 4),(.o 253),(.o 254),(.o 255),(aI 0),(.o 256),(aI (-1))]))
abbrev jtU:Nat × O:=(256,(.row 148 (.recs 5 [])))
abbrev jtV:Nat × O:=(253,aR [2])
abbrev jtW:Nat × O:=(252,(.row 148 (.recs 5 [])))
abbrev jtX:Nat × O:=(251,aR [500,1000])
abbrev jtY:Nat × O:=(249,aR [0,1])
abbrev jtZ:Nat × O:=(248,(.row 148 (.recs 5 [])))
abbrev jt0:Nat × O:=(245,aR [0])
abbrev jt1:Nat × O:=(244,(.row 148 (.recs 5 [])))
abbrev jt2:Nat × O:=(187,(.lbox 118 8 4 [(.d (.s ⟨#[109,105,99]⟩)),(aI 0),aN,aN,aN,(aI 0),aN,(aI (-1)),(.d (.s ⟨#[100]⟩)),(aI 2),(.o 180),(.o 181),aN,(aI 3),aN,(aI (-1)),(.d (.s ⟨#[109,105,120]⟩)),(aI 1),(.o 182),(.o 183),(.o 184),(aI 0),aN,(aI (-1)),(.d (.s ⟨#[111,117,116]⟩)),(aI 4),(.o 185),(.o 186),aN,(aI 0),aN,(aI (-1))]))
abbrev jt3:Nat × O:=(186,aR [0])
abbrev jt4:Nat × O:=(185,aR [2])
abbrev jt5:Nat × O:=(184,aR [500,1000])
abbrev jt6:Nat × O:=(183,aR [0,0])
abbrev jt7:Nat × O:=(182,aR [0,1])
abbrev jt8:Nat × O:=(181,aR [0])
abbrev jt9:Nat × O:=(180,aR [0])
abbrev aH31:Nat × O:=(351,aR [0,3,3,3])
abbrev aH32:Nat × O:=(428,(.lbox 79 1 1 [(.o 497)]))
abbrev aH33:Nat × O:=(497,(.row 110 (.frs .f32 32 [[1112276992,0,0,1120534528,0,0,0,0,0,0,0,0,0,0,0,0,0,0,0,0,0,0,0,0,0,0,0,0,0,0,0,0]])))
abbrev aH34:Nat × O:=(364,(.lbox 79 1 1 [(.o 363)]))
abbrev aH35:Nat × O:=(363,(.row 110 (.frs .f32 32 [[1120534528,0,0,0,0,0,0,0,0,0,0,0,0,0,0,0,0,0,0,0,0,0,0,0,0,0,0,0,0,0,0,0]])))
abbrev aH36:Nat × O:=(360,(.lbox 118 8 4 [(.d (.s ⟨#[109,105,99]⟩)),(aI 0),aN,aN,aN,(aI 0),aN,(aI (-1)),(.d (.s ⟨#[100]⟩)),(aI 2),(.o 353),(.o 354),aN,(aI 3),aN,(aI (-1)),(.d (.s ⟨#[109,105,120]⟩)),(aI 1),(.o 355),(.o 356),(.o 357),(aI 0),aN,(aI (-1)),(.d (.s ⟨#[111,117,116]⟩)),(aI 4),(.o 358),(.o 359),aN,(aI 0),aN,(aI (-1))]))
abbrev aH37:Nat × O:=(359,aR [0])
abbrev aH38:Nat × O:=(358,aR [2])
abbrev aH39:Nat × O:=(357,aR [500,1000])
abbrev aH40:Nat × O:=(356,aR [0,0])
abbrev aH41:Nat × O:=(355,aR [0,1])
abbrev aH42:Nat × O:=(354,aR [0])
abbrev aH43:Nat × O:=(353,aR [0])
abbrev aH44:Nat × O:=(501,aR [0,3,3,3])
abbrev aH45:Nat × O:=(500,aR [0,2])
abbrev aH46:Nat × O:=(499,aR [0,1,2,3])
abbrev awT0:List (Nat × V):=[]
def awS0:St:=⟨awT0,[],0⟩
abbrev awT1:List (Nat × V):=(0,(vb false))::[]
def awS1:St:=⟨awT1,[],0⟩
abbrev awT2:List (Nat × V):=(2,(vi .i64 0))::(1,(aO 56))::(16,(vi .i64 0))::(15,(aO 56))::(12,(.t [(.c (.o 56)),(.c (aI 0))]))::(14,(.t [(.c (.o 56)),(.c (aI 0))]))::(13,(.w (.a [(.d (.s ⟨#[112]⟩)),(.o 8)])))::awT1
def awS2:St:=⟨awT2,[aH0,aH1,(7,aR [0]),(6,aR [2]),aH2,aH3,aH4,(2,aR [0]),(1,aR [0])],57⟩
abbrev awT3:List (Nat × V):=(4,(vi .i64 0))::(3,(aO 165))::(21,(vi .i64 0))::(20,(aO 165))::(17,(.t [(.c (.o 165)),(.c (aI 0))]))::(19,(.t [(.c (.o 165)),(.c (aI 0))]))::(18,(.w (.a [(.d (.s ⟨#[112]⟩)),(.o 65)])))::awT2
def awS3:St:=⟨awT3,[aH5,aH6,(64,aR [0]),(63,aR [2]),aH7,aH8,aH9,(59,aR [0]),(58,aR [0]),aH0,aH1,(7,aR [0]),(6,aR [2]),aH2,aH3,aH4,(2,aR [0]),(1,aR [0])],179⟩
abbrev awT4:List (Nat × V):=(6,(vi .i64 0))::(5,(.w (.c (.p 259 0 1 0))))::(26,(vi .i64 0))::(25,(.w (.a [(.d (.s ⟨#[112]⟩)),(.o 240)])))::(22,(.t [(.a [(.d (.s ⟨#[112]⟩)),(.o 240)]),(.c (aI 0))]))::(24,(.t [(.a [(.d (.s ⟨#[112]⟩)),(.o 240)]),(.c (aI 0))]))::(23,(.w (.a [(.d (.s ⟨#[112]⟩)),(.o 187)])))::awT3
def awS4:St:=⟨awT4,[jtP,jtQ,jtR,jtS,jtT,jtU,(255,aR []),jtV,jtW,jtX,jtY,jtZ,(247,aR []),jt0,jt1,(243,aR []),(242,aR []),(241,aR []),jt2,jt3,jt4,jt5,jt6,jt7,jt8,jt9,aH5,aH6,(64,aR [0]),(63,aR [2]),aH7,aH8,aH9,(59,aR [0]),(58,aR [0]),aH0,aH1,(7,aR [0]),(6,aR [2]),aH2,aH3,aH4,(2,aR [0]),(1,aR [0])],260⟩
abbrev awT5:List (Nat × V):=(8,(vi .i64 0))::(7,(aO 351))::(31,(vi .i64 0))::(30,(aO 351))::(27,(.t [(.c (.o 351)),(.c (aI 0))]))::(29,(.t [(.c (.o 351)),(.c (aI 0))]))::(28,(.w (.a [(.d (.s ⟨#[112]⟩)),(.o 240)])))::awT4
def awS5:St:=⟨awT5,[aH31,jtP,jtQ,jtR,jtS,jtT,jtU,(255,aR []),jtV,jtW,jtX,jtY,jtZ,(247,aR []),jt0,jt1,(243,aR []),(242,aR []),(241,aR []),jt2,jt3,jt4,jt5,jt6,jt7,jt8,jt9,aH5,aH6,(64,aR [0]),(63,aR [2]),aH7,aH8,aH9,(59,aR [0]),(58,aR [0]),aH0,aH1,(7,aR [0]),(6,aR [2]),aH2,aH3,aH4,(2,aR [0]),(1,aR [0])],352⟩
abbrev awT6:List (Nat × V):=(11,(vi .i64 0))::(10,(vi .i64 0))::(9,(aO 428))::(40,(vi .i64 0))::(39,(vi .i64 0))::(38,(aO 428))::(32,(.t [(.c (.o 428)),(.c (aI 0)),(.c (aI 0))]))::(37,(.t [(.c (.o 428)),(.c (aI 0)),(.c (aI 0))]))::(36,(aO 364))::(35,(aO 363))::(34,(.w (.b .f32 32 [1120534528,0,0,0,0,0,0,0,0,0,0,0,0,0,0,0,0,0,0,0,0,0,0,0,0,0,0,0,0,0,0,0])))::(33,(.w (.a [(.d (.s ⟨#[112]⟩)),(.o 360)])))::awT5
def awS6:St:=⟨awT6,[aH32,aH33,aH34,aH35,aH36,aH37,aH38,aH39,aH40,aH41,aH42,aH43,aH31,jtP,jtQ,jtR,jtS,jtT,jtU,(255,aR []),jtV,jtW,jtX,jtY,jtZ,(247,aR []),jt0,jt1,(243,aR []),(242,aR []),(241,aR []),jt2,jt3,jt4,jt5,jt6,jt7,jt8,jt9,aH5,aH6,(64,aR [0]),(63,aR [2]),aH7,aH8,aH9,(59,aR [0]),(58,aR [0]),aH0,aH1,(7,aR [0]),(6,aR [2]),aH2,aH3,aH4,(2,aR [0]),(1,aR [0])],499⟩
abbrev awT7:List (Nat × V):=(0,(vb true))::(107,(vb true))::(106,(vb true))::(105,(.w (.c (.d (.f .f32 1120534528)))))::(104,(.w (.c (.p 497 0 32 3))))::(103,(.w (.c (.p 497 0 32 0))))::(102,(aO 497))::(101,(.w (.c (.p 428 0 1 0))))::(100,(aO 428))::(99,(vb true))::(98,(vb true))::(97,(vb true))::(96,(.w (.c (.d (.f .f32 1112276992)))))::(95,(.w (.c (.p 497 0 32 0))))::(94,(.w (.c (.p 497 0 32 0))))::(93,(aO 497))::(92,(.w (.c (.p 428 0 1 0))))::(91,(aO 428))::(90,(vb true))::(89,(vb true))::(88,(vb true))::(87,(vi .i64 1))::(86,(aO 497))::(85,(.w (.c (.p 428 0 1 0))))::(84,(aO 428))::(83,(vb true))::(82,(vb true))::(81,(vb true))::(80,(vi .i64 1))::(79,(aO 428))::(78,(vb true))::(77,(vb true))::(76,(vb true))::(75,(vi .i64 0))::(74,(vb true))::(73,(vb true))::(72,(vb true))::(71,(vi .i64 0))::(70,(vb true))::(69,(vb true))::(68,(vb true))::(67,(aO 501))::(66,(aO 351))::(65,(vb true))::(64,(vb true))::(63,(vb true))::(62,(vi .i64 0))::(61,(vb true))::(60,(vb true))::(59,(vb true))::(58,(vi .i64 0))::(57,(vb true))::(56,(vb true))::(55,(vb true))::(54,(aO 500))::(53,(aO 165))::(52,(vb true))::(51,(vb true))::(50,(vb true))::(49,(vi .i64 0))::(48,(vb true))::(47,(vb true))::(46,(vb true))::(45,(aO 499))::(44,(aO 56))::(43,(vb true))::(42,(vb true))::(41,(vi .i64 0))::awT6
def awS7:St:=⟨awT7,[aH44,aH45,aH46,aH32,aH33,aH34,aH35,aH36,aH37,aH38,aH39,aH40,aH41,aH42,aH43,aH31,jtP,jtQ,jtR,jtS,jtT,jtU,(255,aR []),jtV,jtW,jtX,jtY,jtZ,(247,aR []),jt0,jt1,(243,aR []),(242,aR []),(241,aR []),jt2,jt3,jt4,jt5,jt6,jt7,jt8,jt9,aH5,aH6,(64,aR [0]),(63,aR [2]),aH7,aH8,aH9,(59,aR [0]),(58,aR [0]),aH0,aH1,(7,aR [0]),(6,aR [2]),aH2,aH3,aH4,(2,aR [0]),(1,aR [0])],502⟩
abbrev awT8:List (Nat × V):=awT7
def awS8:St:=⟨awT8,[aH44,aH45,aH46,aH32,aH33,aH34,aH35,aH36,aH37,aH38,aH39,aH40,aH41,aH42,aH43,aH31,jtP,jtQ,jtR,jtS,jtT,jtU,(255,aR []),jtV,jtW,jtX,jtY,jtZ,(247,aR []),jt0,jt1,(243,aR []),(242,aR []),(241,aR []),jt2,jt3,jt4,jt5,jt6,jt7,jt8,jt9,aH5,aH6,(64,aR [0]),(63,aR [2]),aH7,aH8,aH9,(59,aR [0]),(58,aR [0]),aH0,aH1,(7,aR [0]),(6,aR [2]),aH2,aH3,aH4,(2,aR [0]),(1,aR [0])],502⟩
set_option maxRecDepth 1000000 in
def aw_0:jhP (pcE 0) awS0=some (.normal,awS1):=by kernel_rfl
set_option maxRecDepth 1000000 in
def aw_1:jhP (pcE 1) awS1=some (.normal,awS2):=by kernel_rfl
set_option maxRecDepth 1000000 in
def aw_2:jhP (pcE 2) awS2=some (.normal,awS3):=by kernel_rfl
set_option maxRecDepth 1000000 in
def aw_3:jhP (pcE 3) awS3=some (.normal,awS4):=by kernel_rfl
set_option maxRecDepth 1000000 in
def aw_4:jhP (pcE 4) awS4=some (.normal,awS5):=by kernel_rfl
set_option maxRecDepth 1000000 in
def aw_5:jhP (pcE 5) awS5=some (.normal,awS6):=by kernel_rfl
set_option maxRecDepth 1000000 in
def aw_6:jhP (pcE 6) awS6=some (.normal,awS7):=by kernel_rfl
set_option maxRecDepth 1000000 in
def aw_7:jhP (pcE 7) awS7=some (.ret,awS8):=by kernel_rfl
def jm9:List SV:=[]
def jlY:Option Bool:=some true
def jfF:List Lf->Option GT
 |[]=>some (.leaf (ok (jlY)) [.c (.d (.b (val (jlY))))])
 |_=>none
abbrev sp_16:jaa->jaa:=jaG 16 true (jai jm9 jfF)
set_option maxRecDepth 1000000 in
def jBX:jhM (Tryz.f16.body.getD .skip)=[pcE 0,pcE 1,pcE 2,pcE 3,pcE 4,pcE 5,pcE 6,pcE 7]:=by kernel_rfl
def jC7:@cxL jbv Tryz.prog dpE Tryz.f16.ntmps 200 (jhM (Tryz.f16.body.getD .skip)) ⟨[],[],0⟩=some (.ret,awS8):=by
 rw[jBX];exact @jeb jbv _ _ _ _ _ _ _ _ _ aw_0 (@jeb jbv _ _ _ _ _ _ _ _ _ aw_1 (@jeb jbv _ _ _ _ _ _ _ _ _ aw_2 (@jeb jbv _ _ _ _ _ _ _ _ _ aw_3 (@jeb jbv _ _ _ _ _ _ _ _ _ aw_4 (@jeb jbv _ _ _ _ _ _ _ _ _ aw_5 (@jeb jbv _ _ _ _ _ _ _ _ _ aw_6 ((@jvZ jbv _ _ _ _ _ _).trans aw_7)))))))
set_option maxRecDepth 1000000 in
def jua:jaf Tryz.prog 16 true (jai jm9 jfF) :=
 jq6 jbv globs rfl rfl (@jy7 jbv Tryz.prog dpE 16 200 Tryz.f16 (Tryz.f16.body.getD .skip) (.b true) .ret awS8 jfF mixed jCP jAQ Tryz.func16 (by kernel_rfl) (by kernel_rfl) jC7 (fun j h=>by cases h) (by kernel_rfl) fun ls t h=>by
  unfold jfF at h;split at h
  ·cases h;exact⟨rfl,_,rfl⟩
  ·cases h)
def sp_16_ok {sp:jaa} (h:jac Tryz.prog sp):jac Tryz.prog (sp_16 sp):=jap jua h
noncomputable section
def jdJ:List SV:=[.a [.d,.x (.st zS [])]]
def ja2 (u4:ByteArray) (u1:List (List NC)):Option Bool :=
 ze (jer u4 u1) fun r0 =>
 if(!r0)=true then
  some true
 else
  ze (jaR u4 u1) fun r1 =>
  ze (y6 r1.1 r1.2) fun r2 =>
  ze (y66 u4 u1) fun r3 =>
  if(r3==0)=true then
  ze (y10 u4 u1) fun r4 =>
  if(r2.2.2 != r4.2.2)=true then
   some false
  else
   ze (jcl r2.1 r2.2.1 r4.1 r4.2.1) fun r5 =>
   if(!r5)=true then
   some false
   else
   if(r4.2.2 != 0)=true then
    some true
   else
    ze (jaR r2.1 r2.2.1) fun r6 =>
    ze (y29 r6.1 r6.2) fun r7 =>
    ze (jaR r2.1 r2.2.1) fun r8 =>
    ze (y6 r6.1 r6.2) fun r9 =>
    if(r7.2==0)=true then
    if(r9.2.2==0)=true then
     ze (jcl r9.1 r9.2.1 r2.1 r2.2.1) fun r10 =>
     some r10
    else
     some false
    else
    some false
  else
  if(r2.2.2 != r3)=true then
   some false
  else
   ze (jcl r2.1 r2.2.1 (qi #[]) []) fun r11 =>
   if(!r11)=true then
   some false
   else
   if(r3 != 0)=true then
    some true
   else
    ze (jaR r2.1 r2.2.1) fun r6 =>
    ze (y29 r6.1 r6.2) fun r7 =>
    ze (jaR r2.1 r2.2.1) fun r8 =>
    ze (y6 r6.1 r6.2) fun r9 =>
    if(r7.2==0)=true then
    if(r9.2.2==0)=true then
     ze (jcl r9.1 r9.2.1 r2.1 r2.2.1) fun r10 =>
     some r10
    else
     some false
    else
    some false
def jdK:List Lf->Option GT
 |[.d (.s u4),.x (.st [.s,.i .i64,.ints .i64,.ints .i64,.ints .i64,.i .i64,.recs 5,.i .i64] u1)]=>some (.leaf (ok (ja2 u4 u1)) [.c (.d (.b ((val (ja2 u4 u1)))))])
 |_=>none
def jhv (u4:ByteArray) (u1:List (List NC)) (r:Bool):Sk (top r) (ja2 u4 u1) :=
 .obC (ok jlY) (by decide) (.call (.brB
 (.obT (.rc))
 (.call (.call (.call (.brB
 (.call (.brB
 (.obT (.rc))
 (.call (.brB
 (.obT (.rc))
 (.brB
 (.obT (.rc))
 (.call (.call (.call (.call (.brB
 (.brB
 (.call (.obT (.rc)))
 (.obT (.rc)))
 (.obT (.rc))))))))))))
 (.brB
 (.obT (.rc))
 (.call (.brB
 (.obT (.rc))
 (.brB
 (.obT (.rc))
 (.call (.call (.call (.call (.brB
 (.brB
 (.call (.obT (.rc)))
 (.obT (.rc)))
 (.obT (.rc)))))))))))))))))
def jht (u4:ByteArray) (u1:List (List NC)) (r:Bool) (h:ze (ja2 u4 u1) some=some r):jbl Tryz.f8 ((sp_16 (sp_17 (sp_22 (sp_38 (sp_31 (sp_19b (sp_37 (sp_39 sp0))))))))) (fun _ _ _=>none) (jbd jdJ [.d (.s u4),.x (.st zS u1)]) [.c (.d (.b r))] :=
 Sk.vc (jhv u4 u1 r) (by kernel_rfl) h
def jhu:jaf Tryz.prog 8 true (jai jdJ jdK):=by
 refine jaC (sp:=(sp_16 (sp_17 (sp_22 (sp_38 (sp_31 (sp_19b (sp_37 (sp_39 sp0))))))))) (fn:=Tryz.f8) (body:=bodyOf Tryz.f8) mixed (sp_16_ok (sp_17_ok (sp_22_ok (sp_38_ok (sp_31_ok (sp_19b_ok (sp_37_ok (sp_39_ok jau)))))))) Tryz.func8 (by kernel_rfl) (by kernel_rfl) fun ls t h ho b hb=>?_;unfold jdK at h;split at h
 ·rename_i u4 u1;cases h;obtain rfl:=jaN hb;exact⟨zj (by kernel_rfl),_,_,jht u4 u1 _ (jar ho)⟩
 ·cases h
end
variable {g:List (List NC)} {l:List Int}
def jBq (hw:Fw g):jnW g:=by
 have hn:=hw.n;refine⟨by omega,fun k hk=>?_⟩;have h2:=hw.fr k hk;have h3:=hw.al k hk;have h4:=hw.ga k hk;have h6:=hw.ca k hk;omega
def jub:jnW []:=⟨qI _,fun k hk=>by cases hk⟩
def cg_wA (nm:ByteArray) (h:Rg g l) {f:Nat->List Int} (hX:Rg (wA g f) l):cg nm (wA g f)=cg nm g:=by
 rw[jiS,jiS,ja6];exact jqV _ _ _ _ fun i hi=>by rw[hX.ok i (by rw[ja6];exact hi),h.ok i hi]
def jip (nm:ByteArray) (g:List (List NC)):ja2 nm g=some true:=by
 unfold ja2;rcases jyC nm g with h|⟨h,hw,hs⟩
 ·rw[h];rfl
 ·have hc:=jBe hw;rw[h,jad,if_neg (by simp),jqi hw];simp only[jad];rw[jva hw hs]
  by_cases h0:(cg nm g).2=0
  ·have hne:¬((cg nm g).2≠0):=fun hn=>hn h0;rw[if_neg hne];cases hl:jdL (jbq g) g.length []with
   |none =>
    have ho:jbc nm (cpU g)=some 19:=by rw[jtn hc hs (by rw[jrR];exact h0),jq0,jdP,hl]
    rw[jq8 hc (by omega) ho];simp only[jad];rw[if_neg (by simp),if_neg (by simp),jcs jub,jad,if_neg (by simp),if_pos (by simp)]
   |some od =>
    have hr:=rg_of hw h0 hl;rcases jxD hr hs h0 with ⟨hE,hR⟩|⟨T,f,hE,hR,hi⟩
    ·rw[hE,hR];simp only[jad];rw[if_pos (by simp),if_neg (by simp),jcs jub,jad,if_neg (by simp),if_pos (by simp)]
    ·have hX:=hi.rg hr;have h0X:(cg nm (wA g f)).2=0:=by rw[cg_wA nm hr hX];exact h0
     obtain⟨O,hO⟩:=jCL hi hr hs h0X;rw[hE,hR];simp only[jad];rw[if_pos (by simp),if_neg (by simp),jcs (jBq hX.fw),jad,if_neg (by simp),if_neg (by simp),jqi hX.fw,wA_cp];simp only[jad];rw[hO,jvh hi hr hs h0X];simp only[jad];rw[if_pos (by simp),if_pos (by simp),jcs (jBq hX.fw),jad]
  ·have hp:0<(cg nm g).2:=by have:=jyO nm g;omega
   have ho:jbc nm (cpU g)=some (cg nm g).2:=by rw[jyQ hc hs (by rw[jrR];exact h0),jrR]
   rw[jq8 hc hp ho];simp only[jad];rw[if_pos h0,if_neg (by simp;omega),if_neg (by simp),jcs jub,jad,if_neg (by simp),if_pos (by simp;omega)]
end Go.Sh
end

section
namespace Go.Sx
open Go.RowKit Go.ChangeShapes Go.WideShapes
inductive K where
 |i (k:IntKind)|b|f (k:FloatKind)|s
def K.fits:K->D->Prop
 | .i k,.i k' n=>k'=k∧(Lit.int k n).wf=true
 | .b,.b _=>True
 | .f k,.f k' n=>k'=k∧(Lit.float k n).wf=true
 | .s,.s x=>x.size<=maxLen
 |_,_=>False
def jbo:List K->List D->Prop
 |[],[]=>True
 |k::ks,d::ds=>k.fits d∧jbo ks ds
 |_,_=>False
def jfo:∀{ks:List K} {ds:List D} {ks':List K} {ds':List D},jbo ks ds->jbo ks' ds'->jbo (ks++ks') (ds++ds')
 |[],[],_,_,_,h=>h
 |_::_,_::_,_,_,h,h'=>⟨h.1,jfo h.2 h'⟩
 |[],_::_,_,_,h,_=>h.elim
 |_::_,[],_,_,h,_=>h.elim
def jfp:∀{ks:List K} {ds:List D},jbo ks ds->ds.length=ks.length
 |[],[],_=>rfl
 |_::_,_::_,h=>by simp[jfp h.2]
 |[],_::_,h=>h.elim
 |_::_,[],h=>h.elim
def jgG (g:qf->Option (List K)) (P:zy):Nat->List Field->Option (List K)
 |_,[]=>some []
 |n,f::fs=>match g f.type with
  |none=>none
  |some ks=>if f.offset=n∧P.cellsOf f.type=ks.length then(jgG g P (n+ks.length) fs).map (ks ++ ·)else none
def jhQ (P:zy):Nat->qf->Option (List K)
 |0,_=>none
 |d+1,t=>match P.underlying t with
  |some .bool=>some [.b]
  |some (.int k)=>some [.i k]
  |some (.float k)=>some [.f k]
  |some .string=>some [.s]
  |some (.struct fs)=>match jgG (jhQ P d) P 0 fs.toList with
   |some ks=>if P.cellsOf t=ks.length then some ks else none
   |none=>none
  |some (.array n e)=>match jhQ P d e with
   |some ks=>if P.cellsOf t=n*ks.length∧P.cellsOf e=ks.length then some (zr n ks).flatten else none
   |none=>none
  |_=>none
section
variable {H:Type} {enc:qf × zF->H} {P:zy} {w:zx} {base:Nat} {spare:Nat->Bool} {held:Bool}
def jna {ks:List K} {e:qf} {m:Nat} (ih:∀cs x,xz enc P w base spare held m e cs=some x->∃ds:List D,cs=ds.map D.val∧jbo ks ds) :
  ∀(n:Nat) (cs:List zF),cs.length=n*ks.length->(∀i,i<n->∃x,xz enc P w base spare held m e ((cs.drop (i*ks.length)).take ks.length)=some x)->∃ds:List D,cs=ds.map D.val∧jbo (zr n ks).flatten ds
 |0,cs,hl,_=>⟨[],by simpa using hl,trivial⟩
 |n+1,cs,hl,h=>by
  obtain⟨x,hx⟩:=h 0 (by omega);obtain⟨ds0,h0,h1⟩:=ih _ x hx
  obtain⟨ds1,h2,h3⟩:=jna ih n (cs.drop ks.length) (by rw[xf,hl,qo];omega) (fun i hi=>by
   obtain⟨y,hy⟩:=h (i+1) (by omega);refine⟨y,?_⟩;rw[jf];rw[show ks.length+i*ks.length=(i+1)*ks.length by rw[qo];omega];exact hy)
  refine⟨ds0++ds1,?_,jfo h1 h3⟩;rw[xb,<-h0,<-h2];simp
def jlZ {g:qf->Option (List K)} {m:Nat} (ih:∀t ks cs x,g t=some ks->xz enc P w base spare held m t cs=some x->∃ds:List D,cs=ds.map D.val∧jbo ks ds) :
  ∀(fs:List Field) (n:Nat) (ks:List K) (cs:List zF),jgG g P n fs=some ks->cs.length=n+ks.length->(∀f∈fs,∃x,xz enc P w base spare held m f.type ((cs.drop f.offset).take (P.cellsOf f.type))=some x) ->
   ∃ds:List D,cs.drop n=ds.map D.val∧jbo ks ds
 |[],n,ks,cs,hk,hl,_=>by
  simp only[jgG,zi]at hk;subst hk;refine⟨[],?_,trivial⟩;simp at hl;simp[hl]
 |f::fs,n,ks,cs,hk,hl,h=>by
  simp only[jgG]at hk;split at hk
  ·cases hk
  ·rename_i kf hg;split at hk
   ·rename_i hc;cases hr:jgG g P (n+kf.length) fs with
    |none=>simp[hr]at hk
    |some kr =>
     simp only[hr,zQ,zi]at hk;subst hk;obtain⟨x,hx⟩:=h f zV;rw[hc.1,hc.2]at hx;obtain⟨ds0,h0,h1⟩:=ih f.type kf _ x hg hx;obtain⟨ds1,h2,h3⟩:=jlZ ih fs (n+kf.length) kr cs hr (by rw[hl,qb];omega) (fun f' hf'=>h f' (zR _ hf'));refine⟨ds0++ds1,?_,jfo h1 h3⟩;rw[xb,<-h0,<-h2,<-jf];exact(xi _ _).symm
   ·cases hk
def jgB:∀(d:Nat) (t:qf) (ks:List K) (fuel:Nat) (cs:List zF) (x:DataW H × List gq),jhQ P d t=some ks->xz enc P w base spare held fuel t cs=some x ->
  ∃ds:List D,cs=ds.map D.val∧jbo ks ds
 |0,_,_,_,_,_,h,_=>by cases h
 |d+1,t,ks,fuel,cs,x,hk,hx=>by
  unfold jhQ at hk;split at hk
  ·rename_i ht;cases hk;obtain⟨b,rfl,_⟩:=DataW.trod_bool ht hx;exact⟨[.b b],rfl,trivial,trivial⟩
  ·rename_i k ht;cases hk;obtain⟨n,rfl,_,hw⟩:=DataW.trod_int ht hx;exact⟨[.i k n],rfl,⟨rfl,hw⟩,trivial⟩
  ·rename_i k ht;cases hk;cases fuel with
   |zero=>simp[xz]at hx
   |succ n =>
    rcases cs with _|⟨v,_|⟨v',r⟩⟩
    ·simp[xz,ht]at hx
    ·cases v with
     |float k2 n2 =>
      simp only[xz,ht]at hx;split at hx
      ·rename_i hh;exact⟨[.f k2 n2],rfl,⟨hh.1,hh.2⟩,trivial⟩
      ·cases hx
     |_=>simp[xz,ht]at hx
    ·simp[xz,ht]at hx
  ·rename_i ht;cases hk;obtain⟨z,rfl,_,hw⟩:=DataW.trod_string ht hx;exact⟨[.s z],rfl,hw,trivial⟩
  ·rename_i fs ht;split at hk
   ·rename_i ks' hks;split at hk
    ·rename_i hc;cases hk;obtain⟨xs,n,rfl,_,hl,hxl,hf⟩:=gy ht hx
     have:=jlZ (enc:=enc) (w:=w) (base:=base) (spare:=spare) (held:=held) (g:=jhQ P d) (m:=n) (fun t ks cs x h1 h2=>jgB d t ks n cs x h1 h2) fs.toList 0 ks cs hks (by rw[hl,hc];omega) (fun f hfm=>by
      obtain⟨i,hi,hfi⟩:=yl.1 hfm;have hi':i<fs.size:=by simpa using hi
      have h1:=hf i f (by rw[qE hi'];simpa using hfi);exact⟨xs[i]'(by omega),by rw[h1,zJ]⟩)
     simpa using this
    ·cases hk
   ·cases hk
  ·rename_i n e ht;split at hk
   ·rename_i ks' hks;split at hk
    ·rename_i hc;cases hk;obtain⟨xs,m,rfl,_,hl,hxl,hf⟩:=fR ht hx
     exact jna (fun cs x h=>jgB d e ks' m cs x hks h) n cs (by rw[hl,hc.1]) (fun i hi=>by
      have h1:=hf i hi;rw[hc.2]at h1;exact⟨xs[i]'(by omega),by rw[h1,zJ]⟩)
    ·cases hk
   ·cases hk
  ·cases hk
def jzl {t e:qf} {ks:List K} {d fuel:Nat} {cs:List zF} {x:DataW H × List gq} (ht:P.underlying t=some (.slice e)) (hk:jhQ P d e=some ks) (hc:P.cellsOf e=ks.length) (h0:0<ks.length)
  (hx:xz enc P w base spare held fuel t cs=some x) :
  ∃(v:zF) (rows:List (List D)),cs=[v]∧(∀r∈rows,jbo ks r)∧jaJ w v (.lits ks.length rows)∧(x.1=.nil∧rows=[]∨∃el sp,x.1=.slice el sp∧el.length=rows.length):=by
 rcases fT ht hx with ⟨rfl,rfl⟩|⟨a,len,cap,elems,rest,n,rfl,rfl,rfl,hb,hl,hm,hel,hi,_,_⟩
 ·exact⟨_,[],rfl,(fun _ h=>by cases h),⟨none,0,rfl,⟨by simp[Cont.n],fun _=>rfl⟩,fun h=>absurd h (by simp[Cont.n])⟩,.inl ⟨rfl,rfl⟩⟩
 ·-- each element's cells
  have hget:∀i,i<len->∃ds:List D,jbo ks ds∧∀j,j<ks.length->w.cell? ((a.add (i*ks.length)).add j)=(ds[j]?).map D.val:=fun i hil=>by
   have h1:=hi i hil;rw[hc]at h1;have h2:elems[i]?=some (elems[i]'(by omega)):=zJ (by omega);rw[h2]at h1;obtain⟨cs',hcs,htr⟩:=zD.1 h1;obtain⟨ds,hds,hfit⟩:=jgB d e ks n cs' _ hk htr;obtain⟨_,hcl,hat⟩:=fG hcs;refine⟨ds,hfit,fun j hj=>?_⟩;rw[hat j hj,hds,List.getElem?_map]
  let R:Nat->List D:=fun i=>if h:i<len then jr (hget i h)else[]
  have hR:∀i (h:i<len),jbo ks (R i)∧∀j,j<ks.length->w.cell? ((a.add (i*ks.length)).add j)=((R i)[j]?).map D.val:=fun i h=>by
   show jbo ks (if h:i<len then _ else _)∧_
   simp only[R,dif_pos h];exact jT (hget i h)
  refine⟨_,(zG len).map R,rfl,fun r hr=>?_,?_,.inr ⟨_,_,rfl,by simp[hel]⟩⟩
  ·obtain⟨i,hi',rfl⟩:=qu.1 hr;exact(hR i (by simpa using hi')).1
  ·refine⟨some a,cap,by simp[Cont.n],⟨by simpa [Cont.n]using hl,fun h=>by cases h⟩,fun hn=>?_⟩;have hn:0<len:=by simpa [Cont.n]using hn
   have hsp:a.spot=none:=by
    have h1:=(hR 0 hn).2 0 h0;have hfl:=jfp (hR 0 hn).1;rw[zJ (by omega)]at h1;simp[j7]at h1;cases hs:a.spot with
    |none=>rfl
    |some s =>
     exfalso;unfold fc at h1;simp only[hs]at h1;split at h1
     ·simp at h1
     ·cases h1
   obtain⟨b,off,sp⟩:=a;simp only at hsp;subst hsp;refine⟨b,off,rfl,fun j y hj=>?_⟩;have hne:0<ks.length:=h0;have hjl:j<(Cont.lits ks.length ((zG len).map R)).flat.length:=(zB.1 hj).1;rw[Cont.flat_length]at hjl;simp only[Cont.n,Cont.e,List.length_map,List.length_range]at hjl;have hq:j/ks.length<len:=xW (by rw[xJ];exact hjl);have hr:j%ks.length<ks.length:=ya _ hne;have hg:=Cont.flat_get (.lits ks.length ((zG len).map R)) (i:=j/ks.length) (j:=j%ks.length) (by simpa [Cont.n]using hq) hr;have ej:j/ks.length*ks.length+j%ks.length=j:=by rw[xJ];exact yC j _
   simp only[Cont.e]at hg;rw[ej,hj]at hg;have hcell:=(hR (j/ks.length) hq).2 (j%ks.length) hr;have hfl:=jfp (hR (j/ks.length) hq).1;rw[jaL,jaL,qU,ej,zJ (by omega)]at hcell;rw[hcell];simp only[zi]at hg;simp[hg,Cont.cell,za,hq,zJ (show j%ks.length<(R (j/ks.length)).length by omega)]
def juc {v:zF} {c c':Cont} (h:jaJ w v c) (hn:c'.n=c.n) (hf:c'.flat=c.flat):jaJ w v c':=by
 obtain⟨a,cap,hv,hc,hcell⟩:=h
 exact⟨a,cap,by rw[hn];exact hv,by rw[hn];exact hc,fun h=>by
  obtain⟨b,off,e,hx⟩:=hcell (by rw[<-hn];exact h);exact⟨b,off,e,by rw[hf];exact hx⟩⟩
def jv3:∀{n:Nat} {r:List D},jbo (zr n (.i .i64)) r->∃l:List Int,r=l.map (D.i .i64)∧l.length=n∧∀x∈l,inI x
 |0,[],_=>⟨[],rfl,rfl,fun _ h=>by cases h⟩
 |n+1,.i k x::r,h=>by
  obtain⟨l,h1,h2,h3⟩:=jv3 (n:=n) h.2;obtain⟨rfl,hw⟩:=h.1;refine⟨x::l,by rw[h1];rfl,by simp[h2],fun y hy=>?_⟩;rcases qv.1 hy with rfl|hy
  ·unfold inI;simpa [Lit.wf,kM,kN,ku,kG]using hw
  ·exact h3 y hy
 |0,_::_,h=>h.elim
 |_+1,[],h=>h.elim
 |_+1,.b _::_,h=>h.1.elim
 |_+1,.f _ _::_,h=>h.1.elim
 |_+1,.s _::_,h=>h.1.elim
 |_+1,.v _::_,h=>h.1.elim
def jzm {n:Nat} {rows:List (List D)} (h:∀r∈rows,jbo (zr n (.i .i64)) r):∃l:List (List Int),rows=l.map (fun r=>r.map (D.i .i64))∧l.length=rows.length∧∀r∈l,r.length=n∧∀x∈r,inI x:=by
 induction rows with
 |nil=>exact⟨[],rfl,rfl,fun _ h=>by cases h⟩
 |cons r rows ih =>
  obtain⟨l,h1,h2,h3⟩:=ih fun r hr=>h r (zR _ hr);obtain⟨x,h4,h5,h6⟩:=jv3 (h r zV);refine⟨x::l,by rw[h1,h4];rfl,by simp[h2],fun y hy=>?_⟩;rcases qv.1 hy with rfl|hy
  ·exact⟨h5,h6⟩
  ·exact h3 y hy
def jzn {n:Nat} {l:List (List Int)} (h:∀r∈l,r.length=n):(Cont.recs n l).flat=(Cont.lits n (l.map fun r=>r.map (D.i .i64))).flat:=by
 simp only[Cont.flat]
 induction l with
 |nil=>rfl
 |cons r l ih =>
  rw[xp,zM,xp,ih fun r hr=>h r (zR _ hr)]
  congr 1
  have hr:=h r zV;subst hr;rw[jkE];exact(litD_self' (r.map (D.i .i64)) (by simp)).symm
 where
 litD_self' {n:Nat} (r:List D) (h:r.length=n):ji4 n r=r:=by subst h;exact jkF r
end
section
variable [Globs] {P:zy} {w:zx}
end
section
variable {H:Type} {enc:qf × zF->H} {P:zy}
def jud {sp:Nat->Bool} (hl:laidOutB P=true) {W W':zx} (hb:xA W.heap.size W W'):∀(ts:List qf) (vs:List zF) (ds:List (DataW H)) (ps:List gq),(∀t∈ts,P.readableRec t=true∧t<P.types.size) ->
  gE enc P W 0 (fun _=>true) true ts vs ds ps->(∀p∈ps,p.block<W.heap.size)->(∀p∈ps,sp p.block=true)->gE enc P W' 0 sp true ts vs ds ps
 |[],[],[],_,_,h,_,_=>h
 |t::ts,v::vs,d::ds,ps,ht,h,hlt,hs=>by
  obtain⟨p,q,h1,h2,rfl⟩:=h;have htt:=ht t zV
  exact⟨p,q,WideElems.Trod_stays hl htt.1 htt.2 h1 (fun x hx=>hb.same (hlt x (yk _ hx))) (fun x hx=>hs x (yk _ hx)),
   jud hl hb ts vs ds q (fun t ht'=>ht t (zR _ ht')) h2 (fun x hx=>hlt x (x6 _ hx)) (fun x hx=>hs x (x6 _ hx)),rfl⟩
 |[],_::_,_,_,_,h,_,_=>h.elim
 |_::_,[],_,_,_,h,_,_=>h.elim
 |[],[],_::_,_,_,h,_,_=>h.elim
 |_::_,_::_,[],_,_,h,_,_=>h.elim
def jA4 {f:Func} {s:ChangeSpec} {apart fresh handsOn again:Bool} {W W':zx} {args:Array zF} {ds gs:List (DataW H)} {before:List gq} {tb:qf} (hvars:s.vars=[]) (hrt:f.resultTypes=#[tb]) (htb:P.underlying tb=some .bool)
  (hres:(s.fn H (ds++gs)).results=[.lit (.bool true)]) (hargs:(s.fn H (ds++gs)).args=ds) (hsv:(s.fn H (ds++gs)).vars=[]) (hl:laidOutB P=true) (hread:∀t∈f.params.toList,P.readableRec t=true∧t<P.types.size)
  (hW:DataW.Whole enc P f.params.toList s.vars apart W args.toList ds gs before) (hb:xA W.heap.size W W'):s.post enc P f apart fresh handsOn again W args (.bool true) W':=by
 have hlt:∀p∈before,p.block<W.heap.size:=fun p hp=>hW.lt p hp;have hW':=hW;obtain⟨p,q,h1,h2,rfl,hfz,hnd⟩:=hW';rw[hvars]at h2
 have hq:q=[]:=by
  cases gs with
  |nil=>exact h2
  |cons _ _=>exact h2.elim
 subst hq;rw[List.append_nil]at hlt hfz hnd;have hA:∀sp:Nat->Bool,(∀x∈p,sp x.block=true)->gE enc P W' 0 sp true f.params.toList args.toList ds p:=fun sp hs=>jud hl hb _ _ _ _ hread h1 hlt hs;have hR:∀(b:Nat) (sp:Nat->Bool) (hd:Bool),gE enc P W' b sp hd [tb] [.bool true] [.lit (.bool true)] []:=fun b sp hd=>⟨[],[],⟨1,by simp[xz,htb,fZ]⟩,rfl,rfl⟩
 have hrl:(Value.bool true).resultList f.resultTypes.size=[.bool true]:=by rw[hrt];rfl
 have hrt':f.resultTypes.toList=[tb]:=by rw[hrt]
 refine⟨ds,gs,p++[],[],p,[],hW,?_,?_,?_,World.keptBut_mono (fun x hx=>⟨hx,.inr (.inl (by simpa using hx))⟩) (hb.frame (·∈ p++[])),fun _=>⟨fun j t r hj hr=>?_,?_⟩⟩
 ·rw[hrl,hrt',hres];exact hR _ _ _
 ·rw[hargs];exact hA _ (fun x hx=>by simpa using hlt x hx)
 ·rw[hvars,hsv];rfl
 ·rw[hrt]at hj;rw[hrl]at hr;cases j with
  |zero =>
   simp at hj hr;subst hj;subst hr;exact okWide_bool_mk htb _
  |succ j=>simp at hj
 ·refine⟨[.lit (.bool true)]++ds,[],p,⟨p,[],?_,by rw[hvars];rfl,by simp,?_,?_⟩,fun x hx _=>by simpa using hx⟩
  ·rw[hrl,hrt'];exact⟨[],p,⟨1,by simp[xz,htb,fZ]⟩,hA _ (fun _ _=>rfl),rfl⟩
  ·intro b off hp;rw[hb.frozen (hlt _ hp)];exact hfz b off hp
  ·exact hnd
end
section
variable {H:Type} {enc:qf × zF->H} {P:zy} {w:zx} {base:Nat} {spare:Nat->Bool} {held:Bool} {r:Reach} {b0:Nat}
end
end Go.Sx
end

section
namespace Go.Sx
open Go.RowKit Go.ChangeShapes Go.WideShapes
inductive K2 where
 |d (k:K)
 |s (ks:List K)
inductive T1 where
 |d (x:D)
 |r (c:Cont)
 |xl (X:XC)
inductive Cell2 (w:zx):K2->zF->T1->Prop where
 |d (k:K) (x:D) (h:k.fits x):Cell2 w (.d k) x.val (.d x)
 |s (ks:List K) (v:zF) (rows:List (List D)) (h0:0<ks.length) (h:∀r∈rows,jbo ks r) (hr:jaJ w v (.lits ks.length rows)):Cell2 w (.s ks) v (.r (.lits ks.length rows))
inductive Cells2 (w:zx):List K2->List zF->List T1->Prop where
 |nil:Cells2 w [] [] []
 |cons {k:K2} {v:zF} {t:T1} {ks:List K2} {vs:List zF} {ts:List T1} (h:Cell2 w k v t) (r:Cells2 w ks vs ts):Cells2 w (k::ks) (v::vs) (t::ts)
def Cells2.append {w:zx} {ks ks':List K2} {vs vs':List zF} {ts ts':List T1} (h:Cells2 w ks vs ts) (h':Cells2 w ks' vs' ts'):Cells2 w (ks++ks') (vs++vs') (ts++ts'):=by
 induction h with
 |nil=>exact h'
 |cons h r ih=>exact .cons h ih
def jfq (g:qf->Option (List K2)) (P:zy):Nat->List Field->Option (List K2)
 |_,[]=>some []
 |n,f::fs=>match g f.type with
  |none=>none
  |some ks=>if f.offset=n∧P.cellsOf f.type=ks.length then(jfq g P (n+ks.length) fs).map (ks ++ ·)else none
def jf0 (P:zy):Nat->qf->Option (List K2)
 |0,_=>none
 |d+1,t=>match jhQ P d t with
  |some ks=>some (ks.map .d)
  |none=>match P.underlying t with
   |some (.slice e)=>match jhQ P d e with
    |some (k::ks)=>if P.cellsOf e=ks.length+1 then some [.s (k::ks)]else none
    |_=>none
   |some (.struct fs)=>match jfq (jf0 P d) P 0 fs.toList with
    |some ks=>if P.cellsOf t=ks.length then some ks else none
    |none=>none
   |some (.array n e)=>match jf0 P d e with
    |some ks=>if P.cellsOf t=n*ks.length∧P.cellsOf e=ks.length then some (zr n ks).flatten else none
    |none=>none
   |_=>none
section
variable {H:Type} {enc:qf × zF->H} {P:zy} {w:zx} {base:Nat} {spare:Nat->Bool} {held:Bool}
def jA5 {ks:List K} {ds:List D} (h:jbo ks ds):Cells2 w (ks.map .d) (ds.map D.val) (ds.map .d):=by
 induction ks generalizing ds with
 |nil=>cases ds with
  |nil=>exact .nil
  |cons _ _=>exact h.elim
 |cons k ks ih=>cases ds with
  |nil=>exact h.elim
  |cons d ds=>exact .cons (.d k d h.1) (ih h.2)
def jkh {g:qf->Option (List K2)} {m:Nat} (ih:∀t ks cs x,g t=some ks->xz enc P w base spare held m t cs=some x->∃ts,Cells2 w ks cs ts) :
  ∀(fs:List Field) (n:Nat) (ks:List K2) (cs:List zF),jfq g P n fs=some ks->cs.length=n+ks.length->(∀f∈fs,∃x,xz enc P w base spare held m f.type ((cs.drop f.offset).take (P.cellsOf f.type))=some x) ->
   ∃ts,Cells2 w ks (cs.drop n) ts
 |[],n,ks,cs,hk,hl,_=>by
  simp only[jfq,zi]at hk;subst hk;refine⟨[],?_⟩;simp at hl;rw[yV (by omega)];exact .nil
 |f::fs,n,ks,cs,hk,hl,h=>by
  simp only[jfq]at hk;split at hk
  ·cases hk
  ·rename_i kf hg;split at hk
   ·rename_i hc;cases hr:jfq g P (n+kf.length) fs with
    |none=>simp[hr]at hk
    |some kr =>
     simp only[hr,zQ,zi]at hk;subst hk;obtain⟨x,hx⟩:=h f zV;rw[hc.1,hc.2]at hx;obtain⟨ts0,h0⟩:=ih f.type kf _ x hg hx;obtain⟨ts1,h1⟩:=jkh ih fs (n+kf.length) kr cs hr (by rw[hl,qb];omega) (fun f' hf'=>h f' (zR _ hf'));refine⟨ts0++ts1,?_⟩;have e:cs.drop n=(cs.drop n).take kf.length++cs.drop (n+kf.length):=by rw[<-jf];exact(xi _ _).symm
     rw[e];exact h0.append h1
   ·cases hk
def jl0 {ks:List K2} {e:qf} {m:Nat} (ih:∀cs x,xz enc P w base spare held m e cs=some x->∃ts,Cells2 w ks cs ts) :
  ∀(n:Nat) (cs:List zF),cs.length=n*ks.length->(∀i,i<n->∃x,xz enc P w base spare held m e ((cs.drop (i*ks.length)).take ks.length)=some x)->∃ts,Cells2 w (zr n ks).flatten cs ts
 |0,cs,hl,_=>by
  have:cs=[]:=by simpa using hl
  subst this;exact⟨[],.nil⟩
 |n+1,cs,hl,h=>by
  obtain⟨x,hx⟩:=h 0 (by omega);obtain⟨t0,h0⟩:=ih _ x hx
  obtain⟨t1,h1⟩:=jl0 ih n (cs.drop ks.length) (by rw[xf,hl,qo];omega) (fun i hi=>by
   obtain⟨y,hy⟩:=h (i+1) (by omega);refine⟨y,?_⟩;rw[jf];rw[show ks.length+i*ks.length=(i+1)*ks.length by rw[qo];omega];exact hy)
  refine⟨t0++t1,?_⟩;have:=h0.append h1;simpa [List.replicate_succ]using this
def jfG:∀(d:Nat) (t:qf) (ks:List K2) (fuel:Nat) (cs:List zF) (x:DataW H × List gq),jf0 P d t=some ks->xz enc P w base spare held fuel t cs=some x->∃ts,Cells2 w ks cs ts
 |0,_,_,_,_,_,h,_=>by cases h
 |d+1,t,ks,fuel,cs,x,hk,hx=>by
  unfold jf0 at hk;split at hk
  ·rename_i ks' hks;cases hk;obtain⟨ds,rfl,h2⟩:=jgB d t ks' fuel cs x hks hx;exact⟨_,jA5 h2⟩
  ·split at hk
   ·rename_i e ht;split at hk
    ·rename_i k ks' hks;split at hk
     ·rename_i hc;cases hk;obtain⟨v,rows,rfl,h2,h3,_⟩:=jzl ht hks (by simpa using hc) (by simp) hx;exact⟨_,.cons (.s _ v rows (by simp) h2 h3) .nil⟩
     ·cases hk
    ·cases hk
   ·rename_i fs ht;split at hk
    ·rename_i ks' hks;split at hk
     ·rename_i hc;cases hk;obtain⟨xs,n,rfl,_,hl,hxl,hf⟩:=gy ht hx
      have:=jkh (enc:=enc) (w:=w) (base:=base) (spare:=spare) (held:=held) (g:=jf0 P d) (m:=n) (fun t ks cs x h1 h2=>jfG d t ks n cs x h1 h2) fs.toList 0 ks cs hks (by rw[hl,hc];omega) (fun f hfm=>by
       obtain⟨i,hi,hfi⟩:=yl.1 hfm;have hi':i<fs.size:=by simpa using hi
       have h1:=hf i f (by rw[qE hi'];simpa using hfi);exact⟨xs[i]'(by omega),by rw[h1,zJ]⟩)
      simpa using this
     ·cases hk
    ·cases hk
   ·rename_i n e ht;split at hk
    ·rename_i ks' hks;split at hk
     ·rename_i hc;cases hk;obtain⟨xs,m,rfl,_,hl,hxl,hf⟩:=fR ht hx
      exact jl0 (fun cs x h=>jfG d e ks' m cs x hks h) n cs (by rw[hl,hc.1]) (fun i hi=>by
       have h1:=hf i hi;rw[hc.2]at h1;exact⟨xs[i]'(by omega),by rw[h1,zJ]⟩)
     ·cases hk
    ·cases hk
   ·cases hk
end
inductive T1Is (w:zx):zF->T1->Prop where
 |d (x:D):T1Is w x.val (.d x)
 |r (v:zF) (c:Cont) (he:0<c.e) (h:jaJ w v c):T1Is w v (.r c)
 |xl (v:zF) (X:XC) (h:IsX (fun k=>k<w.heap.size) w v X):T1Is w v (.xl X)
def jn6 {w:zx} {v:zF} {t:T1} (h:Cell2 w (.d (.i .i64)) v t):∃n:Int,T1Is w v (.d (.i .i64 n))∧inI n:=by
 cases h with
 |d k x h =>
  cases x with
  |i k n =>
   obtain⟨rfl,hw⟩:=h;exact⟨n,.d _,by unfold inI;simpa [Lit.wf,kM,kN,ku,kG]using hw⟩
  |_=>exact h.elim
def jue {w:zx} {v:zF} {t:T1} (h:Cell2 w (.d .s) v t):∃n:ByteArray,T1Is w v (.d (.s n))∧n.size<=maxLen:=by
 cases h with
 |d k x h =>
  cases x with
  |s n=>exact⟨n,.d _,h⟩
  |_=>exact h.elim
def jq9 {w:zx} {n:Nat} {v:zF} {t:T1} (h:Cell2 w (.s (zr n (.i .i64))) v t):∃l:List (List Int),T1Is w v (.r (.recs n l))∧∀r∈l,r.length=n∧∀x∈r,inI x:=by
 cases h with
 |s ks v rows h0 h2 h3 =>
  obtain⟨l,h5,h6,h7⟩:=jzm h2;subst h5;rw[List.length_replicate]at h0 h3;exact⟨l,.r v _ h0 (juc h3 (by simp[Cont.n]) (jzn fun r hr=>(h7 r hr).1)),h7⟩
def jl1 {w:zx} {v:zF} {t:T1} (h:Cell2 w (.s [.i .i64]) v t):∃l:List Int,T1Is w v (.r (.ints .i64 l))∧∀x∈l,inI x:=by
 obtain⟨l,h2,h3⟩:=jq9 (n:=1) h;cases h2 with
 |r _ _ _ h2 =>
  refine⟨l.map (fun r=>r.getD 0 0),.r v _ (Nat.succ_pos 0) (juc h2 (by simp[Cont.n]) ?_),fun x hx=>?_⟩
  ·simp only[Cont.flat];rename_i he;clear h2 he
   induction l with
   |nil=>rfl
   |cons r l ih =>
    rw[zM,xp,xp,ih (fun r hr=>h3 r (zR _ hr))];rfl
  ·obtain⟨r,hr,rfl⟩:=qu.1 hx;have:=h3 r hr
   match r,this with
   |[y],this=>exact this.2 y (by simp)
section
variable [Globs]
inductive T2 where
 |c (t:T1)
 |a (l:List T1)
inductive T1sAre (w:zx):List zF->List T1->Prop where
 |nil:T1sAre w [] []
 |cons {v:zF} {t:T1} {vs:List zF} {ts:List T1} (h:T1Is w v t) (r:T1sAre w vs ts):T1sAre w (v::vs) (t::ts)
inductive T2Is (w:zx):zF->T2->Prop where
 |c {v:zF} {t:T1} (h:T1Is w v t):T2Is w v (.c t)
 |a {vs:List zF} {ts:List T1} (h:T1sAre w vs ts):T2Is w (.agg vs.toArray) (.a ts)
inductive T2sAre (w:zx):List zF->List T2->Prop where
 |nil:T2sAre w [] []
 |cons {v:zF} {t:T2} {vs:List zF} {ts:List T2} (h:T2Is w v t) (r:T2sAre w vs ts):T2sAre w (v::vs) (t::ts)
structure TB where
 cs:List C
 hp:Hp
 n:Nat
def T1.bld (n:Nat):T1->TB
 | .d x=>⟨[.d x],[],n⟩
 | .r c=>⟨[.o n],[(n,.ext c)],n+1⟩
 | .xl X=>⟨[.o n],[(n,.xext X)],n+1⟩
def jpA:Nat->List T1->TB
 |n,[]=>⟨[],[],n⟩
 |n,t::l=>let a:=t.bld n;let b:=jpA a.n l; ⟨a.cs++b.cs,b.hp++a.hp,b.n⟩
structure TV where
 vs:List V
 hp:Hp
 n:Nat
def T2.bld (n:Nat):T2->TV
 | .c t=>let a:=t.bld n; ⟨[.w (.c (jgt a.cs))],a.hp,a.n⟩
 | .a l=>let a:=jpA n l; ⟨[.w (.a a.cs)],a.hp,a.n⟩
def jcH:Nat->List T2->TV
 |n,[]=>⟨[],[],n⟩
 |n,t::l=>let a:=t.bld n;let b:=jcH a.n l; ⟨a.vs++b.vs,b.hp++a.hp,b.n⟩
def Hk (w:zx) (v:zF):O->Prop
 | .ext c=>jaJ w v c∧0<c.e
 | .xext X=>IsX (fun k=>k<w.heap.size) w v X
 |_=>False
structure TOK (w:zx) (n:Nat) (U U':Env) (vals:List zF) (cs:List C) (hp:Hp) (n':Nat):Prop where
 agree:jae n U U'
 le:n<=n'
 val:cs.map (C.val U')=vals
 lt:∀c∈cs,C.lt n' c
 heap:∀k o,find hp k=some o->n<=k∧k<n'∧Hk w (U' k) o
def T1.bld_ok {w:zx} {v:zF} {t:T1} (h:T1Is w v t) (n:Nat) (U:Env):∃U',TOK w n U U' [v] (t.bld n).cs (t.bld n).hp (t.bld n).n:=by
 cases h with
 |d x=>exact⟨U,jae.refl _ _,zu _,rfl,(fun c hc=>by simp only[T1.bld,zY]at hc;subst hc;trivial),fun _ _ h=>by cases h⟩
 |r v c he h =>
  refine⟨upd U n v,jal _ _ _,qt _,by simp[T1.bld,C.val],(fun c hc=>by simp only[T1.bld,zY]at hc;subst hc;exact zo n),fun k o hf=>?_⟩;simp only[T1.bld,find]at hf;split at hf
  ·rename_i e;subst e;cases hf;exact⟨zu _,zo _,by rw[upd_same];exact⟨h,he⟩⟩
  ·cases hf
 |xl v X h =>
  refine⟨upd U n v,jal _ _ _,qt _,by simp[T1.bld,C.val],(fun c hc=>by simp only[T1.bld,zY]at hc;subst hc;exact zo n),fun k o hf=>?_⟩;simp only[T1.bld,find]at hf;split at hf
  ·rename_i e;subst e;cases hf;exact⟨zu _,zo _,by rw[upd_same];exact h⟩
  ·cases hf
def TOK.append {w:zx} {n n1 n2:Nat} {U U1 U2:Env} {a b:List zF} {ca cb:List C} {ha hb:Hp} (h1:TOK w n U U1 a ca ha n1) (h2:TOK w n1 U1 U2 b cb hb n2):TOK w n U U2 (a++b) (ca++cb) (hb++ha) n2:=by
 refine⟨h1.agree.trans h2.agree h1.le,qx h1.le h2.le,?_,?_,?_⟩
 ·rw[xb,h2.val,<-h1.val]
  congr 1
  exact z8 fun c hc=>C.val_agree h2.agree (h1.lt c hc)
 ·intro c hc;rcases qq.1 hc with hc|hc
  ·exact C.lt_mono h2.le (h1.lt c hc)
  ·exact h2.lt c hc
 ·intro k o hf;rw[jat]at hf;cases hg:find hb k with
  |some o2 =>
   rw[hg]at hf;cases hf;obtain⟨q1,q2,q3⟩:=h2.heap k o hg;exact⟨qx h1.le q1,q2,q3⟩
  |none =>
   rw[hg]at hf;obtain⟨q1,q2,q3⟩:=h1.heap k o hf;exact⟨q1,zC q2 h2.le,by rw[h2.agree k q2];exact q3⟩
def jA6 {w:zx} {vs:List zF} {ts:List T1} (h:T1sAre w vs ts):∀(n:Nat) (U:Env),∃U',TOK w n U U' vs (jpA n ts).cs (jpA n ts).hp (jpA n ts).n:=by
 induction h with
 |nil=>exact fun n U=>⟨U,jae.refl _ _,zu _,rfl,(fun _ h=>by cases h),fun _ _ h=>by cases h⟩
 |cons h r ih =>
  intro n U;obtain⟨U1,k1⟩:=T1.bld_ok h n U;obtain⟨U2,k2⟩:=ih _ U1;exact⟨U2,k1.append k2⟩
structure TVOK (w:zx) (n:Nat) (U U':Env) (vals:List zF) (vs:List V) (hp:Hp) (n':Nat):Prop where
 agree:jae n U U'
 le:n<=n'
 val:vs.map (V.val U')=vals
 lt:∀c∈vs,V.lt n' c
 heap:∀k o,find hp k=some o->n<=k∧k<n'∧Hk w (U' k) o
def T2.bld_ok {w:zx} {v:zF} {t:T2} (h:T2Is w v t) (n:Nat) (U:Env):∃U',TVOK w n U U' [v] (t.bld n).vs (t.bld n).hp (t.bld n).n:=by
 cases h with
 | @c v t h =>
  obtain⟨U',k⟩:=T1.bld_ok h n U;have hone:∃c,(t.bld n).cs=[c]:=by cases t<;>exact⟨_,rfl⟩
  obtain⟨c,hc⟩:=hone;have hval:=k.val;have hlt:=k.lt;rw[hc]at hval hlt;refine⟨U',k.agree,k.le,?_,?_,k.heap⟩
  ·simp only[T2.bld,hc,jgt,zM,qR,V.val,W.val];simpa using hval
  ·intro y hy;simp only[T2.bld,hc,jgt,zY]at hy;subst hy;exact hlt c zV
 | @a vs ts h =>
  obtain⟨U',k⟩:=jA6 h n U;refine⟨U',k.agree,k.le,?_,?_,k.heap⟩
  ·simp only[T2.bld,zM,qR,V.val,W.val,k.val]
  ·intro y hy;simp only[T2.bld,zY]at hy;subst hy;exact k.lt
def jA7 {w:zx} {vs:List zF} {ts:List T2} (h:T2sAre w vs ts):∀(n:Nat) (U:Env),∃U',TVOK w n U U' vs (jcH n ts).vs (jcH n ts).hp (jcH n ts).n:=by
 induction h with
 |nil=>exact fun n U=>⟨U,jae.refl _ _,zu _,rfl,(fun _ h=>by cases h),fun _ _ h=>by cases h⟩
 | @cons v t vs ts h r ih =>
  intro n U;obtain⟨U1,k1⟩:=T2.bld_ok h n U;obtain⟨U2,k2⟩:=ih (t.bld n).n U1;refine⟨U2,k1.agree.trans k2.agree k1.le,qx k1.le k2.le,?_,?_,?_⟩
  ·simp only[jcH,xb,k2.val]
   have:(t.bld n).vs.map (V.val U2)=[v]:=by
    rw[<-k1.val];exact z8 fun c hc=>V.val_agree k2.agree (k1.lt c hc)
   rw[this];rfl
  ·intro c hc;rcases qq.1 hc with hc|hc
   ·exact V.lt_mono k2.le (k1.lt c hc)
   ·exact k2.lt c hc
  ·intro k o hf;have hf:find ((jcH (t.bld n).n ts).hp++(t.bld n).hp) k=some o:=hf;rw[jat]at hf;cases hg:find (jcH (t.bld n).n ts).hp k with
   |some o2 =>
    rw[hg]at hf;cases hf;obtain⟨q1,q2,q3⟩:=k2.heap k o hg;exact⟨qx k1.le q1,q2,q3⟩
   |none =>
    rw[hg]at hf;obtain⟨q1,q2,q3⟩:=k1.heap k o hf;exact⟨q1,zC q2 k2.le,by rw[k2.agree k q2];exact q3⟩
def jxI {P:zy} {w:zx} {f:Nat} {shs:List SV} {g:List Lf->Option GT} {vs:List zF} {ts:List T2} {ls:List Lf} {am:List C} {ob:Prop} {b:Bool} {fn:Func} (hok:jaf P f true (jai shs g)) (hargs:T2sAre w vs ts)
  (hto:jjD (jcH 0 ts).hp shs (jcH 0 ts).vs=some (ls,am)) (hg:g ls=some (.leaf ob [.c (.d (.b b))])) (ho:ob) (hb:b=true)
  (hfn:P.funcs[f]?=some fn) (hbody:fn.body=some (fn.body.getD .skip)) (hn:(fn.name == "runtime.NumGoroutine")=false) (hgl:jbx (fun k=>k<w.heap.size) w) :
  Calls P f vs.toArray w fun e w'=>e=.returned (.bool true)∧xA w.heap.size w w':=by
 subst hb;obtain⟨U,k⟩:=jA7 hargs 0 (fun _=>qe)
 have hh:HRel U (kd fun k=>k<w.heap.size) (jcH 0 ts).hp (jcH 0 ts).n w:=by
  refine⟨fun x o hf=>?_,fun x o x' o' q hf hf' _ hb=>?_,hgl⟩
  ·obtain⟨_,q2,q3⟩:=k.heap x o hf;cases o with
   |ext c=>exact⟨q2,trivial,q3.1,jaJ.lt q3.1 q3.2⟩
   |xext X=>exact⟨q2,trivial,q3⟩
   |_=>exact q3.elim
  ·obtain⟨_,_,q3⟩:=k.heap x o hf;cases o with
   |ext c=>cases hb
   |xext X=>cases hb
   |_=>exact q3.elim
 have:=(hok.sound hfn hbody hn).sound U (kd fun k=>k<w.heap.size) w (jcH 0 ts).vs (jcH 0 ts).hp (jcH 0 ts).n ((GT.leaf ob [.c (.d (.b true))]).toRT am (jcH 0 ts).hp (jcH 0 ts).n) (by
  unfold jai;rw[hto];dsimp only;rw[hg]) ho k.lt hh (fun k hk=>jbe.1 hk)
 rw[k.val]at this;refine this.mono ?_;rintro e w' ⟨U',rfl,hl⟩;exact⟨rfl,hl.mono rfl⟩
end
end Go.Sx
end

section
namespace Go.Sx
open Go.RowKit Go.ChangeShapes Go.WideShapes
def jBr (w:zx) (ks:List K2) (v:zF):Prop :=
 ∃(n:Nat) (us:Nat->List zF) (ts:Nat->List T1) (a:Option Addr) (cap:Nat),(∀i,i<n->Cells2 w ks (us i) (ts i))∧v=.slice a n cap∧(n<=cap∧(a=none->cap=0)) ∧
  (0<n->∃b off,a=some ⟨b,off,none⟩∧b<w.heap.size∧∀i j,i<n->j<ks.length->w.cell? ⟨b,off+(i*ks.length+j),none⟩=(us i)[j]?)
inductive K3 where
 |k (k:K2)
 |x (ks:List K2)
inductive Cell3 (w:zx):K3->zF->Prop where
 |k (k:K2) (v:zF) (t:T1) (h:Cell2 w k v t):Cell3 w (.k k) v
 |x (ks:List K2) (v:zF) (h0:0<ks.length) (h:jBr w ks v):Cell3 w (.x ks) v
inductive Cells3 (w:zx):List K3->List zF->Prop where
 |nil:Cells3 w [] []
 |cons {k:K3} {v:zF} {ks:List K3} {vs:List zF} (h:Cell3 w k v) (r:Cells3 w ks vs):Cells3 w (k::ks) (v::vs)
def Cells3.append {w:zx} {ks ks':List K3} {vs vs':List zF} (h:Cells3 w ks vs) (h':Cells3 w ks' vs'):Cells3 w (ks++ks') (vs++vs'):=by
 induction h with
 |nil=>exact h'
 |cons h r ih=>exact .cons h ih
def jA8 {w:zx} {ks:List K2} {vs:List zF} {ts:List T1} (h:Cells2 w ks vs ts):Cells3 w (ks.map .k) vs:=by
 induction h with
 |nil=>exact .nil
 |cons h r ih=>exact .cons (.k _ _ _ h) ih
def jfr (g:qf->Option (List K3)) (P:zy):Nat->List Field->Option (List K3)
 |_,[]=>some []
 |n,f::fs=>match g f.type with
  |none=>none
  |some ks=>if f.offset=n∧P.cellsOf f.type=ks.length then(jfr g P (n+ks.length) fs).map (ks ++ ·)else none
def jl2 (P:zy):Nat->qf->Option (List K3)
 |0,_=>none
 |d+1,t=>match jf0 P d t with
  |some ks=>some (ks.map .k)
  |none=>match P.underlying t with
   |some (.slice e)=>match jf0 P d e with
    |some (k::ks)=>if P.cellsOf e=ks.length+1 then some [.x (k::ks)]else none
    |_=>none
   |some (.struct fs)=>match jfr (jl2 P d) P 0 fs.toList with
    |some ks=>if P.cellsOf t=ks.length then some ks else none
    |none=>none
   |_=>none
def Cells2.len {w:zx} {ks:List K2} {vs:List zF} {ts:List T1} (h:Cells2 w ks vs ts):vs.length=ks.length∧ts.length=ks.length:=by
 induction h with
 |nil=>exact⟨rfl,rfl⟩
 |cons h r ih=>exact⟨by simp[ih.1],by simp[ih.2]⟩
section
variable {H:Type} {enc:qf × zF->H} {P:zy} {w:zx} {base:Nat} {spare:Nat->Bool} {held:Bool}
def jxJ {t e:qf} {ks:List K2} {d fuel:Nat} {cs:List zF} {x:DataW H × List gq} (ht:P.underlying t=some (.slice e)) (hk:jf0 P d e=some ks) (hc:P.cellsOf e=ks.length) (h0:0<ks.length)
  (hx:xz enc P w base spare held fuel t cs=some x):∃v,cs=[v]∧jBr w ks v:=by
 rcases fT ht hx with ⟨rfl,rfl⟩|⟨a,len,cap,elems,rest,n,rfl,rfl,rfl,hb,hl,hm,hel,hi,_,_⟩
 ·exact⟨_,rfl,0,fun _=>[],fun _=>[],none,0,fun i hi=>by omega,rfl,⟨zu _,fun _=>rfl⟩,fun h=>by omega⟩
 ·have hget:∀i,i<len->∃p:List zF × List T1,Cells2 w ks p.1 p.2∧∀j,j<ks.length->w.cell? ((a.add (i*ks.length)).add j)=p.1[j]?:=fun i hil=>by
   have h1:=hi i hil;rw[hc]at h1;have h2:elems[i]?=some (elems[i]'(by omega)):=zJ (by omega);rw[h2]at h1;obtain⟨cs',hcs,htr⟩:=zD.1 h1;obtain⟨ts,hts⟩:=jfG d e ks n cs' _ hk htr;obtain⟨_,hcl,hat⟩:=fG hcs;exact⟨(cs',ts),hts,fun j hj=>hat j hj⟩
  let R:Nat->List zF × List T1:=fun i=>if h:i<len then jr (hget i h)else([],[])
  have hR:∀i (h:i<len),Cells2 w ks (R i).1 (R i).2∧∀j,j<ks.length->w.cell? ((a.add (i*ks.length)).add j)=(R i).1[j]?:=fun i h=>by
   have e:R i=jr (hget i h):=dif_pos h;rw[e];exact jT (hget i h)
  refine⟨_,rfl,len,fun i=>(R i).1,fun i=>(R i).2,some a,cap,fun i h=>(hR i h).1,rfl,⟨hl,fun h=>by cases h⟩,fun hn=>?_⟩;have hlen:=(hR 0 hn).1.len.1
  have hcell0:w.cell? ((a.add (0*ks.length)).add 0)=some ((R 0).1[0]'(by omega)):=by
   rw[(hR 0 hn).2 0 h0,zJ]
  have hsp:a.spot=none:=by
   have h1:=hcell0;simp[j7]at h1;cases hs:a.spot with
   |none=>rfl
   |some s =>
    exfalso;unfold fc at h1;simp only[hs]at h1;split at h1
    ·simp at h1
    ·cases h1
  obtain⟨b,off,sp⟩:=a;simp only at hsp;subst hsp;refine⟨b,off,rfl,?_,fun i j hi hj=>?_⟩
  ·have h1:=hcell0;rw[jaL,jaL]at h1;exact qj w _ h1
  ·have:=(hR i hi).2 j hj;rw[jaL,jaL,qU]at this;exact this
def jki {g:qf->Option (List K3)} {m:Nat} (ih:∀t ks cs x,g t=some ks->xz enc P w base spare held m t cs=some x->Cells3 w ks cs) :
  ∀(fs:List Field) (n:Nat) (ks:List K3) (cs:List zF),jfr g P n fs=some ks->cs.length=n+ks.length->(∀f∈fs,∃x,xz enc P w base spare held m f.type ((cs.drop f.offset).take (P.cellsOf f.type))=some x) ->
   Cells3 w ks (cs.drop n)
 |[],n,ks,cs,hk,hl,_=>by
  simp only[jfr,zi]at hk;subst hk;simp at hl;rw[yV (by omega)];exact .nil
 |f::fs,n,ks,cs,hk,hl,h=>by
  simp only[jfr]at hk;split at hk
  ·cases hk
  ·rename_i kf hg;split at hk
   ·rename_i hc;cases hr:jfr g P (n+kf.length) fs with
    |none=>simp[hr]at hk
    |some kr =>
     simp only[hr,zQ,zi]at hk;subst hk;obtain⟨x,hx⟩:=h f zV;rw[hc.1,hc.2]at hx;have h0:=ih f.type kf _ x hg hx;have h1:=jki ih fs (n+kf.length) kr cs hr (by rw[hl,qb];omega) (fun f' hf'=>h f' (zR _ hf'));have e:cs.drop n=(cs.drop n).take kf.length++cs.drop (n+kf.length):=by rw[<-jf];exact(xi _ _).symm
     rw[e];exact h0.append h1
   ·cases hk
def jnb:∀(d:Nat) (t:qf) (ks:List K3) (fuel:Nat) (cs:List zF) (x:DataW H × List gq),jl2 P d t=some ks->xz enc P w base spare held fuel t cs=some x->Cells3 w ks cs
 |0,_,_,_,_,_,h,_=>by cases h
 |d+1,t,ks,fuel,cs,x,hk,hx=>by
  unfold jl2 at hk;split at hk
  ·rename_i ks' hks;cases hk;obtain⟨ts,h2⟩:=jfG d t ks' fuel cs x hks hx;exact jA8 h2
  ·split at hk
   ·rename_i e ht;split at hk
    ·rename_i k ks' hks;split at hk
     ·rename_i hc;cases hk;obtain⟨v,rfl,h2⟩:=jxJ ht hks (by simpa using hc) (by simp) hx;exact .cons (.x _ v (by simp) h2) .nil
     ·cases hk
    ·cases hk
   ·rename_i fs ht;split at hk
    ·rename_i ks' hks;split at hk
     ·rename_i hc;cases hk;obtain⟨xs,n,rfl,_,hl,hxl,hf⟩:=gy ht hx
      have:=jki (enc:=enc) (w:=w) (base:=base) (spare:=spare) (held:=held) (g:=jl2 P d) (m:=n) (fun t ks cs x h1 h2=>jnb d t ks n cs x h1 h2) fs.toList 0 ks cs hks (by rw[hl,hc];omega) (fun f hfm=>by
       obtain⟨i,hi,hfi⟩:=yl.1 hfm;have hi':i<fs.size:=by simpa using hi
       have h1:=hf i f (by rw[qE hi'];simpa using hfi);exact⟨xs[i]'(by omega),by rw[h1,zJ]⟩)
      simpa using this
     ·cases hk
    ·cases hk
   ·cases hk
def jxK {r:Reach} {b0:Nat} {t:qf} {d:Nat} {ks:List K3} {v:zF} {x:DataW H} {p:List gq} (ht:jbj P t=some true) (hk:jl2 P d t=some ks)
  (hval:kH P w r b0 t v) (h:DataW.Trod enc P w base spare held t v x p):∃vs,v=.agg (List.toArray vs)∧Cells3 w ks vs:=by
 obtain⟨fuel,hx⟩:=h;have h1:=jnb d t ks fuel _ _ hk hx
 have hv:∃cs,v=.agg cs:=by
  unfold kH at hval;cases hU:P.underlying t with
  |none=>simp[jbj,hU]at ht
  |some u =>
   rw[hU]at hval;cases u with
   |struct fs=>obtain⟨cs,h,_⟩:=hval;exact⟨cs,h⟩
   |array n e=>obtain⟨cs,h,_⟩:=hval;exact⟨cs,h⟩
   |_=>simp[jbj,hU]at ht
 obtain⟨cs,rfl⟩:=hv;exact⟨cs.toList,by simp,h1⟩
end
def T1.nc:T1->NC
 | .d x=>.d x
 | .r c=>.r c
 | .xl _=>.d (.v qe)
section
variable [Globs]
def jhR {w:zx} {v:zF} {t:T1} (h:T1Is w v t) (hx:∀X,t≠.xl X):t.nc.at (fun k=>k<w.heap.size) w v:=by
 cases h with
 |d x=>exact rfl
 |r v c he h=>exact⟨h,jaJ.lt h he⟩
 |xl v X h=>exact(hx X rfl).elim
abbrev jxL:List K2:=[.d .s,.d (.i .i64),.s [.i .i64],.s [.i .i64],.s [.i .i64],.d (.i .i64),.s (zr 5 (.i .i64)),.d (.i .i64)]
abbrev jfH:List NK:=zS
def jn7 {w:zx} {vs:List zF} {ts:List T1} (h:Cells2 w jxL vs ts):∃r:List NC,jcx jfH r∧r.length=8∧vs.length=8∧∀j u,vs[j]?=some u->(r.getD j (.d (.v qe))).at (fun k=>k<w.heap.size) w u:=by
 rcases h with _|⟨k0,r0⟩
 rcases r0 with _|⟨k1,r1⟩
 rcases r1 with _|⟨k2,r2⟩
 rcases r2 with _|⟨k3,r3⟩
 rcases r3 with _|⟨k4,r4⟩
 rcases r4 with _|⟨k5,r5⟩
 rcases r5 with _|⟨k6,r6⟩
 rcases r6 with _|⟨k7,r7⟩
 cases r7;obtain⟨a0,e0,_⟩:=jue k0;obtain⟨a1,e1,_⟩:=jn6 k1;obtain⟨a2,e2,_⟩:=jl1 k2;obtain⟨a3,e3,_⟩:=jl1 k3;obtain⟨a4,e4,_⟩:=jl1 k4;obtain⟨a5,e5,_⟩:=jn6 k5;obtain⟨a6,e6,_⟩:=jq9 k6;obtain⟨a7,e7,_⟩:=jn6 k7;refine⟨[.d (.s a0),.d (.i .i64 a1),.r (.ints .i64 a2),.r (.ints .i64 a3),.r (.ints .i64 a4),.d (.i .i64 a5),.r (.recs 5 a6),.d (.i .i64 a7)],⟨rfl,fun j k x hk hx=>?_⟩,rfl,rfl,fun j u hu=>?_⟩
 ·match j,hk,hx with
  |0,hk,hx=>cases hk;cases hx;rfl
  |1,hk,hx=>cases hk;cases hx;rfl
  |2,hk,hx=>cases hk;cases hx;rfl
  |3,hk,hx=>cases hk;cases hx;rfl
  |4,hk,hx=>cases hk;cases hx;rfl
  |5,hk,hx=>cases hk;cases hx;rfl
  |6,hk,hx=>cases hk;cases hx;rfl
  |7,hk,hx=>cases hk;cases hx;rfl
  |j+8,hk,hx=>simp at hk
 ·match j,hu with
  |0,hu=>cases hu;exact jhR e0 (fun X h=>by cases h)
  |1,hu=>cases hu;exact jhR e1 (fun X h=>by cases h)
  |2,hu=>cases hu;exact jhR e2 (fun X h=>by cases h)
  |3,hu=>cases hu;exact jhR e3 (fun X h=>by cases h)
  |4,hu=>cases hu;exact jhR e4 (fun X h=>by cases h)
  |5,hu=>cases hu;exact jhR e5 (fun X h=>by cases h)
  |6,hu=>cases hu;exact jhR e6 (fun X h=>by cases h)
  |7,hu=>cases hu;exact jhR e7 (fun X h=>by cases h)
  |j+8,hu=>simp at hu
def jxM {w:zx} {v:zF} (h:Cell3 w (.x jxL) v):∃l:List (List NC),T1Is w v (.xl (.st jfH l)):=by
 cases h with
 |x ks v h0 h =>
  obtain⟨n,us,ts,a,cap,h1,rfl,h3,h4⟩:=h
  let R:Nat->List NC:=fun i=>if h:i<n then jr (jn7 (h1 i h))else[]
  have hR:∀i (h:i<n),jcx jfH (R i)∧(R i).length=8∧(us i).length=8∧∀j u,(us i)[j]?=some u->((R i).getD j (.d (.v qe))).at (fun k=>k<w.heap.size) w u:=fun i h=>by
   have e:R i=jr (jn7 (h1 i h)):=dif_pos h;rw[e];exact jT (jn7 (h1 i h))
  have hrows:∀r∈(zG n).map R,jcx jfH r:=fun r hr=>by
   obtain⟨i,hi,rfl⟩:=qu.1 hr;exact(hR i (xw.1 hi)).1
  obtain⟨m1,m2,m3⟩:=(XC.st jfH []).cell_mk hrows;have m1:(XC.st jfH ((zG n).map R)).n=((zG n).map R).length:=m1;have m3:∀i j,i<((zG n).map R).length->j<8->(XC.st jfH ((zG n).map R)).cell i j=(((zG n).map R).getD i []).getD j (.d (.v qe)):=m3;have hn:(XC.st jfH ((zG n).map R)).n=n:=by rw[m1];simp
  refine⟨(zG n).map R,.xl _ _ ⟨a,cap,by rw[hn],by rw[hn];exact h3,fun h=>?_⟩⟩;rw[hn]at h;obtain⟨b,off,rfl,hb,hc⟩:=h4 h;refine⟨b,off,rfl,hb,fun i j hi hj=>?_⟩;rw[hn]at hi;have hj:j<8:=hj;obtain⟨_,q2,q3,q4⟩:=hR i hi;have hu:(us i)[j]?=some ((us i)[j]'(by omega)):=zJ (by omega);refine⟨_,(hc i j hi hj).trans hu,?_⟩;rw[m3 i j (by simpa using hi) hj];have:((zG n).map R).getD i []=R i:=by simp[za,hi]
  rw[this];exact q4 j _ hu
end
end Go.Sx
end
