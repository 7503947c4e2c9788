/- Part 2 of the proof of EngineBlocks: the executor, the mirrors of the functions, the plain facts. -/
import Derived.Test.YtigliehhpdpaoaaGreatPA
import Derived.WalkKit
set_option maxRecDepth 100000
set_option linter.unusedSectionVars false
set_option linter.unusedSimpArgs false
set_option linter.unusedVariables false
set_option linter.defProp false
open Array renaming ext'->xf,getD_eq_getD_getElem?->xO,getElem?_eq_getElem->xm,length_toList->yr,replicate->xZ,size_append->fR,toList_append->fF
open Bool renaming and_eq_true->zk
open Classical renaming propDecidable->jV
open Function renaming comp_def->xS
open Go renaming Deferred->yK,FloatKind->qd,Oper->qu,Operand->zZ,Program->zP,ResultVar->gE,Value->zs,World->zr,asIntOf->jr,cell_of_row->xP,execOp->xg,grownCap->j3,grownCap_le_maxLen->fL,growslice_fits->fp,heap_alloc_new->jd,invoke->gc,madeCells->jT,maxLen->g8,newRow->gL,resolve->jy,rounds_succ->ki,run_append_grow->kl,run_underlying->zX,setRow_heap->jh,setRow_other->yC,size_zeroCells->ft,typeInfo->yX,undef->zJ,wp_loop_rounds->kt,wp_mono->yl,yielded->fc,zeroValue->yH
open Go.Act renaming put->jO
open Go.Builtin renaming append_->yJ,firstCells->fK,lenOf->kw,zeroCells->qV
open Go.Code renaming rounds->fy
open Go.Conv renaming floatToFloat->j4
open Go.Deferred renaming ofValue->gY
open Go.FloatKind renaming decode->qM,encode->jw
open Go.Instr renaming buildSlice->yQ,loadAt->jY,sliceBounds->yb,storeAt->ja,sureAddr->xh
open Go.Op renaming floatArith->gp
open Go.Question renaming forced->gz,nanBits->f5,nanConv->f6
open Go.Region renaming wanted->yP
open Go.Result renaming andThen_ok->zn
open Go.RowKit renaming Below->yn
open Go.RowKit.Below renaming refl->xM
open Go.Sem renaming run_bind->zq,run_pure->zt
open Go.Value renaming float->yW,ownBlock->zU
open Go.World renaming cell?_of_block->xj,ownsRow_nil->xU
open Ieee.Datum renaming isNaN->jz
open Iff renaming rfl->ko
open Int renaming le_refl->yN
open List renaming all_eq_true->zy,append_assoc->qF,eq_nil_of_length_eq_zero->z5,eq_of_mem_replicate->xN,ext_getElem?->xA,flatMap_def->f0,flatten_cons->yI,getD->zb,getD_eq_getElem?_getD->qJ,getElem?_append_left->qf,getElem?_append_right->qj,getElem?_cons_zero->xq,getElem?_drop->yA,getElem?_eq_getElem->zH,getElem?_eq_none->z7,getElem?_eq_some_iff->zC,getElem?_map->zR,getElem?_set->xT,getElem?_take->qg,getElem_mem->zW,getElem_of_mem->xF,headD_cons->yx,length_append->qc,length_cons->zB,length_drop->xy,length_flatMap->fE,length_map->qh,length_nil->qe,length_replicate->yc,length_take->xn,map_append->xa,map_cons->zL,map_nil->xp,map_toArray->yj,mem_append->qR,mem_append_left->yF,mem_append_right->yz,mem_cons->qr,mem_cons_of_mem->zu,mem_cons_self->zw,mem_map->qn,nil_append->qS,nodup_cons->jN,range->zm,replicate->zh,size_toArray->xJ,take_append_drop->xQ,take_left->fu,take_of_length_le->xW
open Nat renaming add_assoc->xL,add_mul->qE,add_sub_cancel_left->gW,add_zero->xH,beq->zF,blt->xD,blt_eq->qL,div_add_mod->yu,div_lt_of_lt_mul->yE,eq_of_beq_eq_true->zi,le_mul_of_pos_right->jU,le_of_ble_eq_true->zQ,le_refl->zp,le_succ->xu,le_trans->xb,lt_of_lt_of_le->zG,lt_succ_of_lt->jZ,lt_succ_self->zo,lt_trichotomy->gJ,mod_lt->ya,mul_assoc->ym,mul_comm->xI,mul_eq_zero->gy,mul_le_mul_right->qb,not_lt_zero->ye,succ_eq_add_one->jG,succ_pos->jj,zero_add->qa,zero_le->xE,zero_mul->yd
open Ne renaming symm->jc
open Option renaming bind_eq_some_iff->zK,bind_some->zV,getD_some->z9,map_eq_some_iff->z4,map_some->qk
open Option.some renaming inj->yf,injEq->zj
open Prod.mk renaming injEq->qp
section
open Go.RowKit
namespace Go.Sx
def jjs {k k':qd} (h:jbG k k'=true):k=k':=by cases k<;>cases k' <;> first|rfl|cases h
def jfn {k:NK} {x:NC} (h:jbL k x=true):k.norm x=x:=by
 unfold jbL at h;split at h
 ·have:=of_decide_eq_true h;subst this;rfl
 ·rfl
 ·have:=jjs h;subst this;rfl
 ·rfl
 ·have:=of_decide_eq_true h;subst this;rfl
 ·have:=zi h;subst this;rfl
 ·have:=jjs h;subst this;rfl
 ·rfl
 ·rfl
 ·split at h
  ·rename_i hk;have:=jjs hk;subst this;have:=zi h;subst this;rfl
  ·cases h
 ·cases h
def XC.sh_len (X:XC):X.sh.length=X.e:=by cases X<;>rfl
def jcP (sh:List NK) (r:List NC):Prop:=r.length=sh.length∧∀(j:Nat) (k:NK) (x:NC),sh[j]?=some k->r[j]?=some x->jbL k x=true
def jwP {k:IntKind} {x:NC} (h:jbL (.ints k) x=true):x=.r (.ints k x.toInts):=(jfn h).symm
def jwQ {k:qd} {x:NC} (h:jbL (.flts k) x=true):x=.r (.floats k x.toFlts):=(jfn h).symm
def jzh {k:qd} {e:Nat} {x:NC} (h:jbL (.frs k e) x=true):x=.r (.frs k e x.toFrs):=(jfn h).symm
def jwR {e:Nat} {x:NC} (h:jbL (.recs e) x=true):x=.r (.recs e x.toRecs):=(jfn h).symm
def jcL {k:NK} {r:List NC} (h:jcP [k] r):∃x,r=[x]∧jbL k x=true:=by
 obtain⟨h1,h2⟩:=h
 match r,h1 with
 |[x],_=>exact⟨x,rfl,h2 0 k x rfl rfl⟩
def jwS {sh:List NK} {r:List NC} (h:jcP sh r) {j:Nat} (hj:j<sh.length):(sh.getD j .b).norm (r.getD j (.d (.v zJ)))=r.getD j (.d (.v zJ)):=by
 obtain⟨h1,h2⟩:=h;have hj':j<r.length:=by omega
 have:=h2 j sh[j] r[j] (by simp[hj]) (by simp[hj']);simp only[qJ,zH hj,zH hj',z9];exact jfn this
def XC.cell_put (X:XC) {i:Nat} {r:List NC} (h:jcP X.sh r) (hi:i<X.n) :
  (X.put i r).n=X.n∧(X.put i r).e=X.e∧(X.put i r).sh=X.sh∧∀i' j,j<X.e->(X.put i r).cell i' j=if i'=i then r.getD j (.d (.v zJ))else X.cell i' j:=by
 cases X with
 |st sh l =>
  refine⟨by simp[XC.put,XC.n],rfl,rfl,fun i' j hj=>?_⟩;simp only[XC.put,XC.cell]
  by_cases e:i'=i
  ·subst e;rw[if_pos rfl,show(l.set i' r).getD i' []=r by simp[zb,show i'<l.length from hi]];exact jwS h hj
  ·rw[if_neg e,show(l.set i r).getD i' []=l.getD i' [] by simp[zb,xT,jc e]]
 |ii k l =>
  obtain⟨x,rfl,hx⟩:=jcL h;refine⟨by simp[XC.put,XC.n],rfl,rfl,fun i' j hj=>?_⟩;obtain rfl:j=0:=by simp only[XC.e]at hj;omega
  simp only[XC.put,XC.cell]
  by_cases e:i'=i
  ·subst e;rw[if_pos rfl];simp only[yx,zb,xT,show i'<l.length from hi,if_true,z9,xq];exact(jwP hx).symm
  ·rw[if_neg e];simp[zb,xT,jc e]
 |ff k l =>
  obtain⟨x,rfl,hx⟩:=jcL h;refine⟨by simp[XC.put,XC.n],rfl,rfl,fun i' j hj=>?_⟩;obtain rfl:j=0:=by simp only[XC.e]at hj;omega
  simp only[XC.put,XC.cell]
  by_cases e:i'=i
  ·subst e;rw[if_pos rfl];simp only[yx,zb,xT,show i'<l.length from hi,if_true,z9,xq];exact(jwQ hx).symm
  ·rw[if_neg e];simp[zb,xT,jc e]
 |bb k e0 l =>
  obtain⟨x,rfl,hx⟩:=jcL h;refine⟨by simp[XC.put,XC.n],rfl,rfl,fun i' j hj=>?_⟩;obtain rfl:j=0:=by simp only[XC.e]at hj;omega
  simp only[XC.put,XC.cell]
  by_cases e:i'=i
  ·subst e;rw[if_pos rfl];simp only[yx,zb,xT,show i'<l.length from hi,if_true,z9,xq];exact(jzh hx).symm
  ·rw[if_neg e];simp[zb,xT,jc e]
 |rr e0 l =>
  obtain⟨x,rfl,hx⟩:=jcL h;refine⟨by simp[XC.put,XC.n],rfl,rfl,fun i' j hj=>?_⟩;obtain rfl:j=0:=by simp only[XC.e]at hj;omega
  simp only[XC.put,XC.cell]
  by_cases e:i'=i
  ·subst e;rw[if_pos rfl];simp only[yx,zb,xT,show i'<l.length from hi,if_true,z9,xq];exact(jwR hx).symm
  ·rw[if_neg e];simp[zb,xT,jc e]
def XC.cell_mk (X:XC) {rs:List (List NC)} (h:∀r∈rs,jcP X.sh r) :
  (X.mk rs).n=rs.length∧(X.mk rs).e=X.e∧∀i j,i<rs.length->j<X.e->(X.mk rs).cell i j=(rs.getD i []).getD j (.d (.v zJ)):=by
 have hrow:∀i,i<rs.length->jcP X.sh (rs.getD i []):=fun i hi=>by
  have:rs.getD i []=rs[i]:=by simp[zb,hi]
  rw[this];exact h _ (zW hi)
 cases X with
 |st sh l=>exact⟨rfl,rfl,fun i j hi hj=>jwS (hrow i hi) hj⟩
 |ii k l =>
  refine⟨by simp[XC.mk,XC.n],rfl,fun i j hi hj=>?_⟩;obtain rfl:j=0:=by simp only[XC.e]at hj;omega
  obtain⟨x,hx1,hx⟩:=jcL (hrow i hi);have h2:rs[i]?=some [x]:=by rw[<-hx1];simp[zb,hi]
  simp only[XC.mk,XC.cell,zb,zR,h2,qk,z9,yx,xq];exact(jwP hx).symm
 |ff k l =>
  refine⟨by simp[XC.mk,XC.n],rfl,fun i j hi hj=>?_⟩;obtain rfl:j=0:=by simp only[XC.e]at hj;omega
  obtain⟨x,hx1,hx⟩:=jcL (hrow i hi);have h2:rs[i]?=some [x]:=by rw[<-hx1];simp[zb,hi]
  simp only[XC.mk,XC.cell,zb,zR,h2,qk,z9,yx,xq];exact(jwQ hx).symm
 |bb k e l =>
  refine⟨by simp[XC.mk,XC.n],rfl,fun i j hi hj=>?_⟩;obtain rfl:j=0:=by simp only[XC.e]at hj;omega
  obtain⟨x,hx1,hx⟩:=jcL (hrow i hi);have h2:rs[i]?=some [x]:=by rw[<-hx1];simp[zb,hi]
  simp only[XC.mk,XC.cell,zb,zR,h2,qk,z9,yx,xq];exact(jzh hx).symm
 |rr e l =>
  refine⟨by simp[XC.mk,XC.n],rfl,fun i j hi hj=>?_⟩;obtain rfl:j=0:=by simp only[XC.e]at hj;omega
  obtain⟨x,hx1,hx⟩:=jcL (hrow i hi);have h2:rs[i]?=some [x]:=by rw[<-hx1];simp[zb,hi]
  simp only[XC.mk,XC.cell,zb,zR,h2,qk,z9,yx,xq];exact(jwR hx).symm
def XC.rep_mk (X:XC) (n:Nat) (r:List NC):X.rep n r=X.mk (zh n r):=by
 cases X<;>simp[XC.rep,XC.mk]
def jgl {α U:Type} (f:List α->U) (l l':List (List α)) (i:Nat):f ((l++l').getD i [])=if i<l.length then f (l.getD i [])else f (l'.getD (i-l.length) []):=by
 by_cases hi:i<l.length
 ·rw[if_pos hi];simp[zb,qf hi]
 ·rw[if_neg hi];simp[zb,qj (Nat.le_of_not_lt hi)]
def XC.app_spec {X Y Z:XC} (h:X.app Y=some Z):Z.n=X.n+Y.n∧Z.e=X.e∧Y.e=X.e∧Z.sh=X.sh∧∀i j,Z.cell i j=if i<X.n then X.cell i j else Y.cell (i-X.n) j:=by
 unfold XC.app at h;split at h<;>try (cases h;done)
 all_goals
  split at h
  ·rename_i e
   first|subst e|(obtain⟨rfl,rfl⟩:=e)
   cases h;refine⟨by simp[XC.n],rfl,rfl,rfl,fun i j=>?_⟩;simp only[XC.cell,XC.n]
   first
    |exact jgl (fun r=>(NK.norm _ (r.getD j _))) _ _ _
    |exact jgl (fun r=>NC.r (.ints _ r)) _ _ _
    |exact jgl (fun r=>NC.r (.floats _ r)) _ _ _
    |exact jgl (fun r=>NC.r (.frs _ _ r)) _ _ _
    |exact jgl (fun r=>NC.r (.recs _ r)) _ _ _
  ·cases h
section
variable [Globs] {P:zP} {I:Env} {B:Kd} {nx:Nat} {hp:Hp} {w:zr} {rd:zZ->Option V} {a:Act} {sp:jab}
def jt3 {X:XC} {i j:Nat} {Q:Bd} {u:zs} (h:(X.cell i j).at Q w u):u.oneCell'=true:=by
 have key:∀x:NC,(match x with | .d d=>d.one=true | .r _=>True)->x.at Q w u->u.oneCell'=true:=by
  intro x hx h;cases x with
  |d d=>rw[show u=d.val from h];exact D.one_val hx
  |r c=>obtain⟨⟨a,cap,rfl,_⟩,_⟩:=h;exact jy8
 refine key _ ?_ h;cases X with
 |st sh l=>simp only[XC.cell];cases sh.getD j .b<;>simp only[NK.norm]<;>trivial
 |_=>trivial
def jkZ:O->Bool| .row _ _=>true|_=>false
def jCA {h:Nat} {o:O} {c:Cont} (hh:HRel I B hp nx w) (hf:find hp h=some o) (hc:o.cont=some c) (ho:jkZ o=true∨∃c',o=.fext c'):∃B',Grow B B' false w w∧HRel I B' ((h,.fext c)::hp) nx w:=by
 have hok:=hh.ok h o hf
 let B':Kd:=⟨fun k=>B.kp k∨o.blk (I h)=some k,fun k=>B.fr k∨o.blk (I h)=some k,B.mu,fun k hk=>hk.imp (B.sub k) id,fun k hk=>hk.elim (B.dis k) fun e=>Classical.byContradiction fun hc=>(O.blk_lt hok.2.2 e).2 (.inr hc)⟩
 have hle:B.Le B':=⟨fun k hk=>.inl hk,fun k hk=>.inl hk⟩
 have hlm:B.LeM B':=fun _ _ h=>h;refine⟨B',⟨hle,fun k hk=>hk.elim (fun h=>h.elim (fun h=>.inl (.inl h)) fun e=>.inr (O.blk_lt hok.2.2 e).1) fun h=>.inl (.inr h),fun k hk=>hk.imp id fun e hc=>(O.blk_lt hok.2.2 e).2 (.inl hc),fun h=>by cases h⟩,?_,?_,hh.glob.sub hle.kp⟩
 ·intro k o1 hk;simp only[find]at hk;split at hk
  ·rename_i e;subst e;cases hk;refine⟨hok.1,trivial,jcc hok.2.2 hc,fun a n cap hv hn=>?_⟩;cases o with
   |row ty c'=>exact .inr (by simp[O.blk,hv,zU])
   |fext c'=>exact .inl (hok.2.2.2 a n cap hv hn)
   |_=>rcases ho with ho|⟨_,ho⟩<;>cases ho
  ·rename_i hne;have h1:=hh.ok k o1 hk;refine⟨h1.1,h1.2.1,O.ok_moreB hle hlm h1.2.2 fun b hb hB=>?_⟩;rcases hB with (hB|hB)|hB
   ·exact(O.blk_lt h1.2.2 hb).2 (.inl hB)
   ·exact hh.apart h o k o1 b hf hk hne hB hb
   ·exact(O.blk_lt h1.2.2 hb).2 (.inr hB)
 ·intro k o1 k' o1' b hk hk' hne hb hb';simp only[find]at hk hk';split at hk
  ·cases hk;cases hb
  ·split at hk'
   ·cases hk';cases hb'
   ·exact hh.apart k o1 k' o1' b hk hk' hne hb hb'
def joe (hh:HRel I B hp nx w):∀hs:List Nat,(∀h∈hs,∃o c,find hp h=some o∧o.cont=some c∧jkZ o=true) -> ∃B',Grow B B' false w w∧HRel I B' (frz hp hs) nx w∧(∀h∈hs,∀o c,find hp h=some o->o.cont=some c->find (frz hp hs) h=some (.fext c))∧∀h,h∉hs->find (frz hp hs) h=find hp h
 |[],_=>⟨B,Grow.refl _ _ _ _,hh,(fun _ h=>by cases h),fun _ _=>rfl⟩
 |h::r,hr=>by
  obtain⟨B1,g1,h1,h2,h3⟩:=joe hh r fun x hx=>hr x (zu _ hx);obtain⟨o,c,hf,hc,ho⟩:=hr h zw
  have key:∃o1,find (frz hp r) h=some o1∧o1.cont=some c∧(jkZ o1=true∨∃c',o1=.fext c'):=by
   by_cases hm:h∈r
   ·exact⟨_,h2 h hm o c hf hc,rfl,.inr ⟨c,rfl⟩⟩
   ·exact⟨o,(h3 h hm).trans hf,hc,.inl ho⟩
  obtain⟨o1,k1,k2,k3⟩:=key;obtain⟨B2,g2,h4⟩:=jCA h1 k1 k2 k3
  have e:frz hp (h::r)=(h,.fext c)::frz hp r:=by
   show(match(find (frz hp r) h).bind O.cont with|some c=>(h,O.fext c)::frz hp r|none=>frz hp r)=_
   rw[k1];simp only[zV,k2]
  refine⟨B2,g1.trans g2 (zp _) (zp _),by rw[e];exact h4,fun x hx o' c' hf' hc'=>?_,fun x hx=>?_⟩
  ·rw[e];simp only[find];split
   ·rename_i e1;subst e1;rw[hf]at hf';cases hf';rw[hc]at hc';cases hc';rfl
   ·rename_i hne;rcases qr.1 hx with rfl|hx
    ·exact absurd rfl hne
    ·exact h2 x hx o' c' hf' hc'
  ·rw[e];simp only[find];rw[if_neg (fun e=>hx (by rw[e];exact zw))];exact h3 x fun hm=>hx (zu _ hm)
def jps {k:NK} {x:NC} (h:jpk k=some x):jbL k x=true∧∀(Q:Bd) (w:zr),x.at Q w (.slice none 0 0):=by
 have key:∀(c:Cont),c.n=0->∀(Q:Bd) (w:zr),(NC.r c).at Q w (.slice none 0 0):=fun c hc Q w =>
  ⟨⟨none,0,by rw[hc],⟨by omega,fun _=>rfl⟩,fun h=>by omega⟩,fun a n cap hv _=>by cases hv⟩
 unfold jpk at h;split at h<;>cases h
 ·exact⟨by simp[jbL],key _ rfl⟩
 ·exact⟨by simp[jbL],key _ rfl⟩
 ·rename_i k;exact⟨by cases k<;>rfl,key _ rfl⟩
 ·exact⟨rfl,key _ rfl⟩
 ·exact⟨rfl,key _ rfl⟩
 ·rename_i k e;exact⟨by cases k<;>simp[jbL,jbG],key _ rfl⟩
def jnw (hh:HRel I B hp nx w) {k:NK} {c:C} {x:NC} {g:Option Nat} (h:jir hp k c=some (x,g)):jbL k x=true∧(∀h,g=some h->∃o c',find hp h=some o∧o.cont=some c'∧jkZ o=true) ∧
  ∀B' hp',HRel I B' hp' nx w->(∀k,B.fr k->B'.fr k)->(∀h,g=some h->∀o c',find hp h=some o->o.cont=some c'->find hp' h=some (.fext c'))->x.at B'.fr w (c.val I):=by
 unfold jir at h;split at h
 ·split at h
  ·rename_i y hy;cases h;have:=jps hy;exact⟨this.1,(fun _ h=>by cases h),fun B' hp' _ _ _=>this.2 _ _⟩
  ·cases h
 ·split at h
  ·rename_i hk;cases h;exact⟨hk,(fun _ h=>by cases h),fun B' hp' _ _ _=>rfl⟩
  ·cases h
 ·rename_i h0;split at h
  ·rename_i ty c0 hf;split at h
   ·rename_i hk;cases h;refine⟨hk,fun h e=>?_,fun B' hp' hh' _ hfr=>?_⟩
    ·cases e;exact⟨_,_,hf,rfl,rfl⟩
    ·exact(hh'.ok _ _ (hfr h0 rfl _ _ hf rfl)).2.2
   ·cases h
  ·rename_i c0 hf;split at h
   ·rename_i hk;cases h;refine⟨hk,(fun _ h=>by cases h),fun B' hp' hh' hle _=>?_⟩;have:=(hh.ok _ _ hf).2.2;exact⟨this.1,jaW hle this.2⟩
   ·cases h
  ·cases h
 ·cases h
def jdi (hh:HRel I B hp nx w):∀{sh:List NK} {cs:List C} {r:List NC} {hs:List Nat},jbA hp sh cs=some (r,hs) -> jcP sh r∧cs.length=sh.length∧(∀h∈hs,∃o c',find hp h=some o∧o.cont=some c'∧jkZ o=true) ∧ ∀B' hp',HRel I B' hp' nx w->(∀k,B.fr k->B'.fr k)->(∀h∈hs,∀o c',find hp h=some o->o.cont=some c'->find hp' h=some (.fext c'))->∀(j:Nat) (x:NC) (c:C),r[j]?=some x->cs[j]?=some c->x.at B'.fr w (c.val I)
 |[],[],r,hs,h=>by
  simp only[jbA,zj,qp]at h;obtain⟨rfl,rfl⟩:=h;exact⟨⟨rfl,fun j k x h=>by simp at h⟩,rfl,(fun _ h=>by cases h),fun _ _ _ _ _ j x c h=>by simp at h⟩
 |[],c::cs,r,hs,h=>by simp[jbA]at h
 |k::sh,[],r,hs,h=>by simp[jbA]at h
 |k::sh,c::cs,r,hs,h=>by
  simp only[jbA]at h;split at h
  ·rename_i x g l gs hx hl;simp only[zj,qp]at h;obtain⟨rfl,rfl⟩:=h;obtain⟨a1,a2,a3⟩:=jnw hh hx;obtain⟨b1,b2,b3,b4⟩:=jdi hh hl
   have hmem:∀h,h∈(match g with|some h=>h::gs|none=>gs)<->g=some h∨h∈gs:=fun h=>by
    cases g with
    |none=>simp
    |some y=>simp[eq_comm]
   refine⟨⟨by simp[b1.1],fun j k' x' hj hx'=>?_⟩,by simp[b2],fun h hm=>?_,fun B' hp' hh' hle hfr j x' c' hj hc=>?_⟩
   ·cases j with
    |zero=>simp at hj hx';subst hj;subst hx';exact a1
    |succ j=>exact b1.2 j k' x' (by simpa using hj) (by simpa using hx')
   ·rcases(hmem h).1 hm with e|e
    ·exact a2 h e
    ·exact b3 h e
   ·cases j with
    |zero =>
     simp at hj hc;subst hj;subst hc;exact a3 B' hp' hh' hle fun h e=>hfr h ((hmem h).2 (.inl e))
    |succ j=>exact b4 B' hp' hh' hle (fun h hm=>hfr h ((hmem h).2 (.inr hm))) j x' c' (by simpa using hj) (by simpa using hc)
  ·cases h
def jgm (hh:HRel I B hp nx w):HRel I B (jaj hp) nx w:=by
 refine⟨fun h o hf=>?_,fun k o1 k' o1' b hk hk' hne hb hb'=>?_,hh.glob⟩
 ·obtain⟨_,_,h3,h4,h5,_,_⟩:=jaI hh hf;exact⟨h3,h4,h5⟩
 ·obtain⟨o2,h2,_,_,_,_,h7⟩:=jaI hh hk;obtain⟨o3,h3,_,_,_,_,h8⟩:=jaI hh hk';exact hh.apart k o2 k' o3 b h2 h3 hne (h7 b hb) (h8 b hb')
def jwT {X:XC} {ty:Nat} {us:List zs} (hB:Old B w) (hm:X.n<=9223372036854775807) (hl:us.length=X.n*X.e) (hat:∀i j,i<X.n->j<X.e->∃u,us[i*X.e+j]?=some u∧(X.cell i j).at B.fr w u) :
  (O.xrow ty X).ok (upd I nx (.slice (some ⟨w.heap.size,0,none⟩) X.n X.n)) B (w.alloc (.cells us.toArray ty)) nx:=by
 have hbel:yn w.heap.size w (w.alloc (.cells us.toArray ty)):=(xM _ w).alloc (zp _) _;refine⟨us,⟨by omega,.inr ⟨w.heap.size,X.n,_,by simp,xE _,jd w _,zp _,by simpa [g8]using hm,by simp[hl],?_⟩⟩,fun i j hi hj=>?_,fun k hk hc=>?_⟩
 ·rw[<-hl];exact xW (by simp)
 ·obtain⟨u,hu,hux⟩:=hat i j hi hj;exact⟨u,hu,NC.at_bel hux (jtD hbel hB)⟩
 ·simp[zU]at hk;have:=hB k hc;omega
def jfo {α:Type} {e:Nat}:∀{l:List (List α)},(∀r∈l,r.length=e)->∀{i j:Nat},j<e->l.flatten[i*e+j]?=(l[i]?).bind fun r=>r[j]?
 |[],_,i,j,_=>by simp
 |r::l,h,0,j,hj=>by
  have hr:=h r zw;rw[yI,yd,qa,qf (by omega)];simp
 |r::l,h,i+1,j,hj=>by
  have hr:=h r zw;have e1:(i+1)*e+j=r.length+(i*e+j):=by rw[hr,qE];omega
  rw[yI,e1,qj (by omega)];have:=jfo (l:=l) (fun x hx=>h x (zu _ hx)) (i:=i) hj;simpa using this
def jv0 {o:qu} {t elem e b:Nat} {x y:zZ} {k k':IntKind} {n m:Int} {u u':V} {z:List C} {X0:XC} {r:List NC} {hs:List Nat} (hh:HRel I B hp nx w) (hB:Old B w) (hr:jaB I nx rd a) (ho:o.op=.makeSlice t x y)
  (hu:P.underlying t=some (.slice elem)) (hx:rd x=some u) (hx':u.int?=some (k,n)) (hy:rd y=some u') (hy':u'.int?=some (k',m))
  (hz:jaA P elem=some z) (hsz:szT P elem=some (e+1)) (hb:jaU P elem=some b) (hzl:z.length=e+1) (hc:jbA [] X0.sh z=some (r,hs))
  (hob:0<=n∧n=m∧(b:Int)*n<=281474976710656∧n<=9223372036854775807) :
  jaD P I B nx a w o ⟨0<=n∧n=m∧(b:Int)*n<=281474976710656∧n<=9223372036854775807,.w (.c (.o nx)),(nx,.xrow elem (X0.rep n.toNat r))::hp,nx+1⟩ true:=by
 obtain⟨h0,rfl,h2,h3⟩:=hob;have h1:=hr _ _ hx;have h1':=hr _ _ hy;rw[V.int?_eq hx']at h1;rw[V.int?_eq hy']at h1';have hh0:HRel I B [] nx w:=hh.sub fun _ _ h=>by cases h
 obtain⟨c1,c2,_,c4⟩:=jdi hh0 hc
 have hs0:hs=[]:=by
  cases hs with
  |nil=>rfl
  |cons y l=>obtain⟨o,c',hf,_⟩:=(jdi hh0 hc).2.2.1 y zw;cases hf
 subst hs0;have hat0:=c4 B [] hh0 (fun _ h=>h) (fun _ h=>by cases h);have hmk:=X0.cell_mk (rs:=zh n.toNat r) (fun x hx=>by rw[xN hx];exact c1);rw[<-XC.rep_mk]at hmk;simp only[yc]at hmk;have hXe:X0.e=e+1:=by rw[<-X0.sh_len,<-c2,hzl]
 cases hi:P.info? elem with
 |none=>simp[szT,hi]at hsz
 |some i =>
  have hsz':i.size=e+1:=by simpa [szT,hi]using hsz
  have hby:i.bytes=b:=by simpa [jaU,hi]using hb
  cases hzz:i.zero with
  |none=>simp[jaA,hi,hzz]at hz
  |some zv =>
   obtain⟨v,hv,hvc,_⟩:=jaX (P:=P) (w:=w) (I:=I) hz
   have hvz:v=zv:=by
    simp[yH,yX,hi,hzz]at hv;exact hv.symm
   subst hvz;have hm:=run_make (P:=P) w t elem i v hu hi hzz k k' n n h0 (yN _) (by rw[hby];exact h2) h3
   have hcells:jT v.cells (n.toNat*i.size)=((zh n.toNat (z.map (C.val I))).flatten).toArray:=by
    apply xf;have:=jf6 v.cells n.toNat;have hvs:v.cells.size=e+1:=by rw[hvc];simp[hzl]
    rw[hvs]at this;rw[hsz',this,hvc]
   rw[hcells]at hm
   have hlen:((zh n.toNat (z.map (C.val I))).flatten).length=(X0.rep n.toNat r).n*(X0.rep n.toNat r).e:=by
    rw[hmk.1,hmk.2.1,hXe,jnu];simp[hzl]
   have hok:=jwT (I:=I) (nx:=nx) (ty:=elem) hB (show(X0.rep n.toNat r).n<=_ by rw[hmk.1];omega) hlen (fun i j hi hj=>by
    rw[hmk.1]at hi;rw[hmk.2.1]at hj ⊢;rw[hmk.2.2 i j hi hj];have hz':j<z.length:=by omega
    have hr':j<r.length:=by rw[c1.1,X0.sh_len];exact hj
    refine⟨(z[j]).val I,?_,?_⟩
    ·rw[hXe];have:=jfo (e:=e+1) (l:=zh n.toNat (z.map (C.val I))) (fun x hx=>by rw[xN hx];simp[hzl]) (i:=i) (j:=j) (by omega);rw[this];simp[hi,hz']
    ·have:((zh n.toNat r).getD i []).getD j (.d (.v zJ))=r[j]:=by simp[zb,hi,hr']
     rw[this];exact hat0 j r[j] z[j] (by simp) (by simp))
   rw[hmk.1]at hok
   refine jap (I':=upd I nx (.slice (some ⟨w.heap.size,0,none⟩) n.toNat n.toNat)) (w':=w.alloc (.cells ((zh n.toNat (z.map (C.val I))).flatten).toArray elem)) ?_
    (jbm hh hB _ _ _ (.xrow elem (X0.rep n.toNat r)) rfl rfl (show V.lt (nx+1) (.w (.c (.o nx)))from zo nx) true trivial hok (by simp[O.blk,zU]))
   unfold xg;simp only[ho,h1.2,h1'.2,vi_val,zq,hm,zn,zt];simp[V.val,W.val,C.val]
def jzi (off:Nat):∀(vs:List C) (k:Nat) (pre mid post:List C),pre.length=off+k->mid.length=vs.length -> (vs.zipIdx k).foldl (fun cs (c,j)=>cs.set (off+j) c) (pre++mid++post)=pre++vs++post
 |[],k,pre,mid,post,hp,hm=>by
  have:mid=[]:=z5 (by simpa using hm);subst this;rfl
 |v::vs,k,pre,mid,post,hp,hm=>by
  cases mid with
  |nil=>simp at hm
  |cons m mid =>
   simp only[List.zipIdx_cons,List.foldl_cons]
   have e1:(pre++m::mid++post).set (off+k) v=(pre++[v])++mid++post:=by
    rw[<-hp,qF,List.set_append_right _ _ (zp _)];simp
   rw[e1,jzi off vs (k+1) (pre++[v]) mid post (by simp;omega) (by simpa using hm)];simp
def jof {e:Nat}:∀(parts:List (Nat × W)) (m:Nat) (pre post:List C),pre.length=m*e->post.length=parts.length*e->(∀(i:Nat) (p:Nat × W),parts[i]?=some p->p.1=m+i∧p.2.cells.length=e) -> jdx (fun i=>some (i*e,e)) (pre++post) parts=some (pre++parts.flatMap fun p=>p.2.cells)
 |[],m,pre,post,_,hl,_=>by
  have:post=[]:=z5 (by simpa using hl);subst this;rfl
 |(i,u)::parts,m,pre,post,hp,hl,h=>by
  have h0:=h 0 (i,u) rfl;obtain⟨rfl,hu⟩:i=m∧u.cells.length=e:=by simpa using h0
  have hpl:post=post.take e++post.drop e:=(xQ e post).symm;have hle:e<=post.length:=by rw[hl];simp[qE]
  simp only[jdx];rw[if_pos ⟨hu,by simp only[qc];omega⟩];have e1:=jzi (i*e) u.cells 0 pre (post.take e) (post.drop e) (by omega) (by simp;omega);rw[qF,xQ]at e1
  rw[e1,jof parts (i+1) (pre++u.cells) (post.drop e) (by simp[hu,hp,qE]) (by simp[hl,qE]) (fun j p hj=>by
   have:=h (j+1) p (by simpa using hj);exact⟨by omega,this.2⟩)]
  simp
def jk0 (hh:HRel I B hp nx w) {sh:List NK}:∀{l:List (Nat × W)} {n:Nat} {rs:List (List NC)} {hs:List Nat},jf7 hp sh n l=some (rs,hs) -> rs.length=l.length∧(∀r∈rs,jcP sh r)∧(∀(i:Nat) (p:Nat × W),l[i]?=some p->p.1=n+i∧p.2.cells.length=sh.length)∧(∀h∈hs,∃o c',find hp h=some o∧o.cont=some c'∧jkZ o=true) ∧
  ∀B' hp',HRel I B' hp' nx w->(∀k,B.fr k->B'.fr k)->(∀h∈hs,∀o c',find hp h=some o->o.cont=some c'->find hp' h=some (.fext c')) -> ∀(i j:Nat) (r:List NC) (p:Nat × W) (x:NC) (c:C),rs[i]?=some r->l[i]?=some p->r[j]?=some x->p.2.cells[j]?=some c->x.at B'.fr w (c.val I)
 |[],n,rs,hs,h=>by
  simp only[jf7,zj,qp]at h;obtain⟨rfl,rfl⟩:=h;exact⟨rfl,(fun _ h=>by cases h),(fun _ _ h=>by simp at h),(fun _ h=>by cases h),fun _ _ _ _ _ i j r p x c h=>by simp at h⟩
 |(i,u)::l,n,rs,hs,h=>by
  simp only[jf7]at h;split at h
  ·rename_i x g rest gs hin hx hl;simp only[zj,qp]at h;obtain⟨rfl,rfl⟩:=h;have hin:=zi hin;subst hin;obtain⟨a1,a2,a3,a4⟩:=jdi hh hx;obtain⟨b1,b2,b3,b4,b5⟩:=jk0 hh hl;refine⟨by simp[b1],fun r hr=>?_,fun j p hj=>?_,fun h hm=>?_,fun B' hp' hh' hle hfr i' j r p y c h1 h2 h3 h4=>?_⟩
   ·rcases qr.1 hr with rfl|hr
    ·exact a1
    ·exact b2 r hr
   ·cases j with
    |zero=>simp at hj;subst hj;exact⟨rfl,a2⟩
    |succ j=>have:=b3 j p (by simpa using hj);exact⟨by omega,this.2⟩
   ·rcases qR.1 hm with hm|hm
    ·exact a3 h hm
    ·exact b4 h hm
   ·cases i' with
    |zero =>
     simp at h1 h2;subst h1;subst h2;exact a4 B' hp' hh' hle (fun h hm=>hfr h (yF _ hm)) j y c h3 h4
    |succ i'=>exact b5 B' hp' hh' hle (fun h hm=>hfr h (yz _ hm)) i' j r p y c (by simpa using h1) (by simpa using h2) h3 h4
  ·cases h
def jiu {elem n e:Nat} {parts:List (Nat × W)} {z out:List C} (hh:HRel I B hp nx w) (hz:jaA P elem=some z) (hs:szT P elem=some (e+1)) (hzl:z.length=e+1) (hle:n*(e+1)<=4096)
  (hout:jdx (fun i=>some (i*(e+1),e+1)) (zh n z).flatten parts=some out) (hp':∀x∈parts,x.2.one hp=true∧x.2.lt nx) (t:Nat) (hu:P.underlying t=some (.slice elem)) :
  (yQ t n (parts.map fun x=>(x.1,x.2.val I)).toArray).run P w=.ok (.slice (some ⟨w.heap.size,0,none⟩) n n) (w.alloc (.cells (out.map (C.val I)).toArray elem)):=by
 obtain⟨v,hv,hvc,hlt⟩:=jaX (P:=P) (w:=w) (I:=I) hz
 have hf:=jd7 (I:=I) _ hh parts _ out hout hp' (fun c hc=>by
  obtain⟨l,hl,hc'⟩:=List.mem_flatten.1 hc;rw[xN hl]at hc';exact hlt nx c hc')
 have hvs:v.cells.size=e+1:=by rw[hvc];simp[hzl]
 have e1:¬(n*(e+1)>2^24):=by omega
 have hcells:∀zz:Array zs,(n*(e+1)≠0->zz=v.cells)->(Array.range (n*(e+1))).map (zz[· % zz.size]!)=((zh n z).flatten.map (C.val I)).toArray:=by
  intro zz hzz
  by_cases h0:n*(e+1)=0
  ·have hn0:n=0:=by
    rcases gy.1 h0 with h|h
    ·exact h
    ·omega
   subst hn0;simp
  ·rw[hzz h0];have:=jf6 v.cells n;apply xf;simp only[jT,hvs]at this;simp only[hvs];rw[this,hvc];simp
 have hfin:(do
   let some cells:=Instr.fill (fun i=>some (i*(e+1),e+1)) ((zh n z).flatten.map (C.val I)).toArray (parts.map fun x=>(x.1,x.2.val I))|stuck "buildSlice: a part of the wrong size"
   pure (.slice (some (<-gL elem cells)) n n):Sem zs).run P w=.ok (.slice (some ⟨w.heap.size,0,none⟩) n n) (w.alloc (.cells (out.map (C.val I)).toArray elem)):=by
  simp only[hf.1,gL,zq,run_newObj,zn,zt];rfl
 by_cases h0:n*(e+1)=0
 ·have hn0:n=0:=by
   rcases gy.1 h0 with h|h
   ·exact h
   ·omega
  subst hn0;have h3:=hcells #[] (fun h=>absurd h0 h);have e2:¬(0*(e+1)>2^24):=by omega
  simp only[yQ,zq,zX hu,zn,jaR w hs,jG];rw[if_neg e2,if_pos h0];simp only[zq,zt,zn,h3];exact hfin
 ·simp only[yQ,zq,zX hu,zn,jaR w hs,jG];rw[if_neg e1,if_neg h0];simp only[zq,zt,zn,hv,hcells v.cells (fun _=>rfl)];exact hfin
def jt4 {o:qu} {t n elem e:Nat} {parts:Array (Nat × zZ)} {l:List (Nat × W)} {z:List C} {X0:XC} {rs:List (List NC)} {hs:List Nat} (hh:HRel I B hp nx w) (hB:Old B w) (hr:jaB I nx rd a) (ho:o.op=.buildSlice t n parts)
  (hu:P.underlying t=some (.slice elem)) (hl:jcB rd hp parts.toList=some l) (hz:jaA P elem=some z) (hsz:szT P elem=some (e+1)) (hzl:z.length=e+1) (hXe:X0.sh.length=e+1) (hn:l.length=n) (hle:n*(e+1)<=4096)
  (hc:jf7 hp X0.sh 0 l=some (rs,hs)) :
  jaD P I B nx a w o ⟨True,.w (.c (.o nx)),(nx,.xrow elem (X0.mk rs))::frz hp hs,nx+1⟩ false:=by
 have hps:=jdG hr parts.toList l hl;obtain⟨c1,c2,c3,c4,c5⟩:=jk0 hh hc;obtain⟨B',g,hh',f1,f2⟩:=joe hh hs c4;have hat:=c5 B' _ hh' g.le.fr f1;have hmk:=X0.cell_mk c2;have he:X0.e=e+1:=by rw[<-X0.sh_len,hXe]
 have hfill:=jof (e:=e+1) l 0 [] (zh n z).flatten (by simp) (by simp[hn,hzl]) (fun i p hi=>by have:=c3 i p hi;rw[hXe]at this;exact this);rw[qS,qS]at hfill;have hrun:=jiu (I:=I) hh hz hsz hzl hle hfill hps.2 t hu;have hB':=g.old hB;have hfl:(l.flatMap fun p=>p.2.cells)=(l.map fun p=>p.2.cells).flatten:=by rw[f0]
 have hok:=jwT (I:=I) (nx:=nx) (ty:=elem) (X:=X0.mk rs) (us:=(l.flatMap fun p=>p.2.cells).map (C.val I)) hB' (by rw[hmk.1,c1,hn];have:=xb (jU n (jj e)) hle;omega) (by
   rw[hmk.1,hmk.2.1,he,c1];simp only[qh,fE]
   have:(l.map fun p=>p.2.cells.length)=zh l.length (e+1):=by
    apply xA;intro i;rw[zR];cases hi:l[i]? with
    |none=>rw[z7 (by simpa using hi)];rfl
    |some p =>
     have:=(c3 i p hi).2;have hlt:=(zC.1 hi).1;simp[hlt,this,hXe]
   rw[this];simp) (fun i j hi hj=>by
   rw[hmk.1]at hi;rw[hmk.2.1]at hj ⊢;rw[hmk.2.2 i j hi hj];have hil:i<l.length:=by omega
   have hp:=c3 i l[i] (by simp[hil]);have hjc:j<(l[i]).2.cells.length:=by omega
   have hrr:=c2 rs[i] (zW hi);have hjr:j<(rs[i]).length:=by rw[hrr.1,X0.sh_len];exact hj
   refine⟨((l[i]).2.cells[j]).val I,?_,?_⟩
   ·rw[zR,hfl,he]
    have:=jfo (e:=e+1) (l:=l.map fun p=>p.2.cells) (fun x hx=>by
     obtain⟨p,hp,rfl⟩:=qn.1 hx;obtain⟨q,hq,rfl⟩:=xF hp;have:=(c3 q l[q] (by simp[hq])).2;omega) (i:=i) (j:=j) (by omega)
    rw[this];simp[hil,hjc]
   ·have e2:(rs.getD i []).getD j (.d (.v zJ))=(rs[i])[j]:=by simp[zb,hi,hjr]
    rw[e2];exact hat i j rs[i] l[i] (rs[i])[j] ((l[i]).2.cells[j]) (by simp[hi]) (by simp[hil]) (by simp[hjr]) (by simp[hjc]))
 rw[hmk.1,c1,hn]at hok;have hla:=jbm (r:=⟨True,.w (.c (.o nx)),(nx,.xrow elem (X0.mk rs))::frz hp hs,nx+1⟩) hh' hB' (.slice (some ⟨w.heap.size,0,none⟩) n n) ((l.flatMap fun p=>p.2.cells).map (C.val I)).toArray elem (.xrow elem (X0.mk rs)) rfl rfl (show V.lt (nx+1) (.w (.c (.o nx)))from zo nx) false trivial hok (by simp[O.blk,zU]);refine jap (I':=upd I nx (.slice (some ⟨w.heap.size,0,none⟩) n n)) (w':=w.alloc (.cells ((l.flatMap fun p=>p.2.cells).map (C.val I)).toArray elem)) ?_ ⟨hla.agree,hla.lt,hla.le,?_,hla.below.mono g.le.kp,hla.mono,hla.fresh⟩
 ·unfold xg
  have he2:(parts.map fun(i,x)=>(i,a.eval x))=(l.map fun x=>(x.1,x.2.val I)).toArray:=by
   rw[<-hps.1];apply xf;simp
  simp only[ho,he2,zq,hrun,zn,zt];simp[V.val,W.val,C.val]
 ·obtain⟨B2,g2,h2⟩:=hla.heap;exact⟨B2,g.weak.trans g2.weak (zp _) hla.below.size,h2⟩
def jb4 {us vs:List zs} {off t:Nat} (h:off+vs.length<=us.length):(us.take off++vs++us.drop (off+vs.length))[t]?=if off<=t∧t<off+vs.length then vs[t-off]? else us[t]?:=by
 have hl:(us.take off).length=off:=by simp;omega
 by_cases h1:t<off
 ·rw[if_neg (by omega),qF,qf (by omega),qg,if_pos h1]
 ·by_cases h2:t<off+vs.length
  ·rw[if_pos ⟨by omega,h2⟩,qF,qj (by omega),qf (by omega),hl]
  ·rw[if_neg (by omega),qj (by simp;omega),yA]
   congr 1
   simp only[qc,hl];omega
def jzj {hs:List Nat}:∀{k:Nat} {r:Nat} {c:Cont} {fl:Bool},find (frz (jaj hp) hs) k≠some (.view r c fl):=by
 induction hs with
 |nil =>
  intro k r c fl h;simp only[frz,jay]at h;cases hf:find hp k with
  |none=>simp[hf]at h
  |some o=>cases o<;>simp[hf]at h
 |cons h0 hs ih =>
  intro k r c fl h;simp only[frz]at h;split at h
  ·simp only[find]at h;split at h
   ·cases h
   ·exact ih h
  ·exact ih h
def jAQ {hs:List Nat}:∀{k r i e j ty:Nat} {c:Cont},find (frz (jaj hp) hs) k≠some (.sub r i e j ty c):=by
 induction hs with
 |nil =>
  intro k r i e j ty c h;simp only[frz,jay]at h;cases hf:find hp k with
  |none=>simp[hf]at h
  |some o=>cases o<;>simp[hf]at h
 |cons h0 hs ih =>
  intro k r i e j ty c h;simp only[frz]at h;split at h
  ·simp only[find]at h;split at h
   ·cases h
   ·exact ih h
  ·exact ih h
def jk1 {o:qu} {t h i j ty:Nat} {x y:zZ} {u:W} {X X':XC} {hs:List Nat} (hh:HRel I B hp nx w) (hB:Old B w) (hr:jaB I nx rd a) (ho:o.op=.store t x y)
  (hx:rd x=some (.w (.c (.p h i X.e j)))) (hy:rd y=some (.w u)) (hone:u.one hp=true) (hall:(u.cells.all fun c=>c.one hp)=true) (hs1:szT P t=some u.cells.length) (hf:find hp h=some (.xrow ty X)) (hi:i<X.n)
  (hjl:j+u.cells.length<=X.e) (hcs:∀g∈hs,∃o c',find hp g=some o∧o.cont=some c'∧jkZ o=true) (hX:X'.n=X.n∧X'.e=X.e)
  (hcell:∀B' hp',HRel I B' hp' nx w->(∀k,B.fr k->B'.fr k)->(∀g∈hs,∀o c',find hp g=some o->o.cont=some c'->find hp' g=some (.fext c')) -> ∀i' j',i'<X.n->j'<X.e->if i'=i∧j<=j'∧j'<j+u.cells.length then ∃c,u.cells[j' - j]?=some c∧(X'.cell i' j').at B'.fr w (c.val I)else X'.cell i' j'=X.cell i' j') :
  jaD P I B nx a w o ⟨i<X.n,vu,(h,.xrow ty X')::frz (jaj hp) hs,nx⟩ false:=by
 have h1:=hr _ _ hx;have h2:=hr _ _ hy;obtain⟨hlt,hol,us,⟨hlen,hcase⟩,hat,hBk⟩:=hh.ok h _ hf;rcases hcase with ⟨_,hn⟩|⟨g,cap,cur,hk,_,hheap,hncap,hcapm,hcsz,htk⟩
 ·omega
 have hvf:∀g∈hs,∃o c',find (jaj hp) g=some o∧o.cont=some c'∧jkZ o=true:=fun g hg=>by
  obtain⟨o,c',h3,h4,h5⟩:=hcs g hg;refine⟨o,c',?_,h4,h5⟩;rw[jay,h3];cases o<;>first|rfl|cases h5
 obtain⟨B',gr,hh',f1,f2⟩:=joe (jgm hh) hs hvf
 have hcell:=hcell B' _ hh' gr.le.fr (fun g hg o c' h3 h4=>by
  obtain⟨o2,c2,h5,h6,h7⟩:=hcs g hg;rw[h3]at h5;cases h5;refine f1 g hg o c' ?_ h4;rw[jay,h3];cases o<;>first|rfl|cases h7)
 have hhs:h∉hs:=fun hm=>by
  obtain⟨o2,c2,h5,h6,h7⟩:=hcs h hm;rw[hf]at h5;cases h5;cases h7
 have hf':find (frz (jaj hp) hs) h=some (.xrow ty X):=by rw[f2 h hhs,jay,hf];rfl
 have hB'g:¬B'.all g:=by
  have:=(hh'.ok h _ hf').2.2;obtain⟨_,_,_,h9⟩:=this;exact h9 g (by rw[hk];rfl)
 have hc:=W.cells_val hh hone;have hvs:(u.val I).cells.size=u.cells.length:=by rw[hc];simp
 have hin:i*X.e+j+u.cells.length<=X.n*X.e:=by
  have:(i+1)*X.e<=X.n*X.e:=qb _ hi;rw[qE]at this;omega
 have hcapsz:X.n*X.e<=cap*X.e:=qb _ hncap;have hst:=jbM (P:=P) (t:=t) (g:=g) (off:=i*X.e+j) (v:=u.val I) (by rw[hvs];exact hs1) hheap (by rw[hvs,hcsz];omega) (by rw[hc];exact jcK hh hall);refine jcn (I':=I) (w':=w.setRow g ((cur.toList.take (i*X.e+j)++(u.val I).cells.toList++cur.toList.drop (i*X.e+j+(u.val I).cells.size)).toArray)) ?_ rfl ?_
 ·unfold xg;have h1v:a.eval x=.pointer (some ⟨g,i*X.e+j,none⟩):=by rw[h1.2];simp[C.val,hk,base]
  have h2v:a.eval y=u.val I:=h2.2;simp only[ho,h1v,h2v,ja,xh,zq,zt,zn,hst]
 ·have hbel:Bel B' w (w.setRow g ((cur.toList.take (i*X.e+j)++(u.val I).cells.toList++cur.toList.drop (i*X.e+j+(u.val I).cells.size)).toArray)):=jci hB'g;refine⟨jah.refl _ _,trivial,zp _,⟨B',gr.later (by simp),?_⟩,hbel.mono gr.le.kp,(fun h=>by cases h),fun h=>by cases h⟩;have hul:us.length=X.n*X.e:=hlen;have hcur:cur.toList=us++cur.toList.drop (X.n*X.e):=by rw[<-htk];exact(xQ _ _).symm
  have hvl:(u.val I).cells.toList=u.cells.map (C.val I):=by rw[hc]
  have htake:(cur.toList.take (i*X.e+j)++(u.val I).cells.toList++cur.toList.drop (i*X.e+j+(u.val I).cells.size)).take (X.n*X.e)=us.take (i*X.e+j)++u.cells.map (C.val I)++us.drop (i*X.e+j+(u.cells.map (C.val I)).length):=by
   rw[hvl,hvs];apply xA;intro t;have hcl:cur.toList.length=cap*X.e:=by simp[hcsz]
   have s1:=jb4 (us:=cur.toList) (vs:=u.cells.map (C.val I)) (off:=i*X.e+j) (t:=t) (by simp only[qh];omega);have s2:=jb4 (us:=us) (vs:=u.cells.map (C.val I)) (off:=i*X.e+j) (t:=t) (by simp only[qh];omega);simp only[qh]at s1 s2 ⊢;rw[qg,s1,s2]
   by_cases ht:t<X.n*X.e
   ·rw[if_pos ht];have:us[t]?=cur.toList[t]?:=by rw[<-htk,qg,if_pos ht]
    rw[this]
   ·rw[if_neg ht,if_neg (by omega)];exact(z7 (by omega)).symm
  have hw:=HRel.write (w':=w.setRow g ((cur.toList.take (i*X.e+j)++(u.val I).cells.toList++cur.toList.drop (i*X.e+j+(u.val I).cells.size)).toArray)) (o':=.xrow ty X') hh' hf' (g:=g) (by simp[O.blk,hk,zU]) (fun k _ hne=>yC w g k _ hne) ?_ trivial (by simp[O.blk,hk,zU])
  ·refine hw.sub fun k o1 hk1=>?_;simp only[find]at hk1 ⊢;split at hk1
   ·rename_i e;rw[if_pos e];exact hk1
   ·rename_i e;rw[if_neg e,jay,hk1];cases o1 with
    |view r c fl=>exact absurd hk1 jzj
    |sub r i e j ty c=>exact absurd hk1 jAQ
    |_=>rfl
  ·refine⟨us.take (i*X.e+j)++u.cells.map (C.val I)++us.drop (i*X.e+j+(u.cells.map (C.val I)).length),⟨?_,.inr ⟨g,cap,_,by rw[hX.1];exact hk,xE _,jh w g _ _ ty (0,0) hheap,by rw[hX.1];exact hncap,hcapm,?_,by rw[hX.1,hX.2];exact htake⟩⟩,fun i' j' hi' hj'=>?_,fun k hk2=>?_⟩
   ·simp only[hX.1,hX.2,qc,xn,xy,qh];omega
   ·simp only[hX.2,xJ,qc,xn,xy,yr,hvs];omega
   ·rw[hX.1]at hi';rw[hX.2]at hj' ⊢;have s2:=jb4 (us:=us) (vs:=u.cells.map (C.val I)) (off:=i*X.e+j) (t:=i' * X.e+j') (by simp only[qh];omega);have hc':=hcell i' j' hi' hj'
    have hiff:(i*X.e+j<=i' * X.e+j'∧i' * X.e+j'<i*X.e+j+u.cells.length)<->(i'=i∧j<=j'∧j'<j+u.cells.length):=by
     constructor
     ·rintro ⟨a1,a2⟩
      have:i'=i:=by
       rcases gJ i' i with h3|h3|h3
       ·have:(i' + 1)*X.e<=i*X.e:=qb _ h3;rw[qE]at this;omega
       ·exact h3
       ·have:(i+1)*X.e<=i' * X.e:=qb _ h3;rw[qE]at this;omega
      subst this;exact⟨rfl,by omega,by omega⟩
     ·rintro ⟨rfl,a1,a2⟩;exact⟨by omega,by omega⟩
    simp only[qh]at s2 ⊢;rw[s2]
    by_cases hin2:i'=i∧j<=j'∧j'<j+u.cells.length
    ·rw[if_pos (hiff.2 hin2)];rw[if_pos hin2]at hc';obtain⟨c,hc1,hc2⟩:=hc';obtain⟨rfl,a1,a2⟩:=hin2;refine⟨c.val I,?_,NC.at_bel hc2 (hbel.mono B'.sub)⟩;rw[zR,show i' * X.e+j' - (i' * X.e+j)=j' - j by omega,hc1];rfl
    ·rw[if_neg (fun h=>hin2 (hiff.1 h))];rw[if_neg hin2]at hc';obtain⟨v,hv,hvx⟩:=hat i' j' hi' hj';refine⟨v,hv,?_⟩;rw[hc'];exact NC.at_bel (NC.at_mono gr.le.fr hvx) (hbel.mono B'.sub)
   ·have:=(hh'.ok h _ hf').2.2;obtain⟨_,_,_,h9⟩:=this;exact h9 k hk2
def jej {t ty elem e b:Nat} {i:TypeInfo} {z:zs} (hu:P.underlying t=some (.slice elem)) (hi:P.info? elem=some i) (hz:i.zero=some z) (hsz:i.size=e+1) (hby:i.bytes=b) (hzs:z.cells.size=e+1)
  {v xv:zs} {n m:Nat} {xs news:List zs} (hown:w.ownsRow 0 elem (e+1) v n xs) (hl:news.length=m*(e+1)) (h1:∀u∈news,u.oneCell'=true)
  (hx:(xv=.slice none 0 0∧m=0)∨∃ad c,xv=.slice (some ad) m c∧∀j u,news[j]?=some u->w.cell? (ad.add j)=some u)
  (h63:n+m<=9223372036854775807) (hbytes:(n+m)*b<=140737488355328) :
  ∃v' w',(yJ #[t,t] ty #[v,xv]).run P w=.ok v' w'∧w'.ownsRow 0 elem (e+1) v' (n+m) (xs++news)∧w.grownBy w' v.ownBlock ∧
   ∀k,v'.ownBlock=some k->v.ownBlock=some k∨w.heap.size<=k:=by
 rcases hx with ⟨rfl,rfl⟩|⟨ad,c,rfl,hnews⟩
 ·-- nothing is appended
  have hne:news=[]:=z5 (by simpa using hl);subst hne;have hszT:szT P elem=some (e+1):=by simp[szT,hi,hsz]
  refine⟨v,w,?_,by simpa using hown,⟨rfl,rfl,rfl,zp _,fun _ _ _=>rfl⟩,fun k hk=>.inl hk⟩;rcases hown.2 with ⟨rfl,rfl⟩|⟨g,cap,cur,rfl,hb,hg,hnc,_⟩
  ·simp[yJ,zX hu,jaR w hszT,kw,fK]
  ·simp[yJ,zX hu,jaR w hszT,kw,fK,hnc,storeCells]
 ·obtain⟨v',w',hrun,hown',hgrown,hnil⟩:=run_append_own (P:=P) w 0 t ty elem i z (e+1) b hu hi hz hsz hby hzs (jj e) v n xs hown ad m c news hl hnews h1 (by simpa [g8]using h63) hbytes (xE _);refine⟨v',w',hrun,hown',hgrown,fun k hk=>?_⟩;rcases hown.2 with ⟨rfl,rfl⟩|⟨g,cap,cur,rfl,hbg,hg,hnc,hcm,hcs,htk⟩
  ·by_cases hm:m=0
   ·have:=hnil.2 ⟨rfl,hm⟩;subst this;simp[zU]at hk
   ·have hr2:=run_append_nil (P:=P) w t ty elem i z hu hi hz ad m c news (by rw[hsz];exact hl) hnews (by omega) (by omega) (by rw[hby];have hb:=hbytes;simp only[qa]at hb;omega);rw[hrun]at hr2;cases hr2;simp[zU]at hk;exact .inr (by omega)
  ·by_cases hroom:n+m<=cap
   ·have hfit:n*i.size+news.length<=cur.size:=by rw[hl,hcs,hsz,<-qE];exact qb _ hroom
    have hr2:=run_append_room (P:=P) w t ty elem i hu hi g n cap cur hg ad m c news (by rw[hsz];exact hl) hnews h1 hroom hfit;rw[hrun]at hr2;cases hr2;exact .inl hk
   ·have holds:∀j u,xs[j]?=some u->w.cell? ((⟨g,0,none⟩:Addr).add j)=some u:=hown.cells (g:=g) rfl;have hr2:=kl (P:=P) w t ty elem i z hu hi hz ⟨g,0,none⟩ n cap xs (by rw[hsz];exact hown.1) holds ad m c news (by rw[hsz];exact hl) hnews (by omega) (by omega) (fp (by omega) (by rw[hby];exact hbytes));rw[hrun]at hr2;cases hr2;simp[zU]at hk;exact .inr (by omega)
def jc6 {w':zr} {row:Option Nat} (hg:w.grownBy w' row) (h:∀k,row=some k->¬B.all k) (hB:Old B w):Bel B w w' :=⟨hg.os,hg.tape,hg.output,hg.size,fun k hk=>hg.block k (hB k (.inl hk)) (fun e=>h k e.symm (.inl hk))⟩
def HRel.grow {w':zr} {v v':zs} {o':O} {hp1:Hp} (hh:HRel I B hp nx w) (hB:Old B w) (hg:w.grownBy w' v.ownBlock) (hgB:∀k,v.ownBlock=some k->¬B.all k)
  (hp1s:∀k o,find hp1 k=some o->find (jaj hp) k=some o∨o=.dead∧k<nx) (hfree:∀k o g,find hp1 k=some o->o.blk (I k)=some g->v.ownBlock≠some g)
  (ho:o'.ok (upd I nx v') B w' nx) (hl:o'.lt (nx+1)) (hb:∀k,o'.blk v'=some k->v.ownBlock=some k∨w.heap.size<=k) :
  HRel (upd I nx v') B ((nx,o')::hp1) (nx+1) w':=by
 have hag:=jar I nx v'
 have old:∀k o,find hp1 k=some o->k<nx∧o.lt nx∧o.ok I B w k∧o.isV=false:=by
  intro k o hk;rcases hp1s k o hk with h|⟨h,h2⟩
  ·obtain⟨_,_,h3,h4,h5,h6,_⟩:=jaI hh h;exact⟨h3,h4,h5,h6⟩
  ·subst h;exact⟨h2,trivial,trivial,rfl⟩
 have blklt:∀k o g,find hp1 k=some o->o.blk (I k)=some g->g<w.heap.size:=fun k o g hk hbk=>(O.blk_lt (old k o hk).2.2.1 hbk).1;refine⟨?_,?_,hh.glob.bel (jc6 hg hgB hB)⟩
 ·intro k o hk;simp only[find]at hk;split at hk
  ·rename_i e;subst e;cases hk;exact⟨by omega,hl,ho⟩
  ·obtain⟨h3,h4,h5,h6⟩:=old k o hk;refine⟨by omega,O.lt_mono (xu nx) h4,?_⟩;refine O.ok_agree hag h3 h4 ?_;cases hv:v.ownBlock with
   |none =>
    exact O.ok_except (g:=w.heap.size) (fun b hb2 _=>hg.block b hb2 (by rw[hv];simp)) (fun hc=>Nat.lt_irrefl _ (hB _ hc)) h5 (fun e=>by have:=blklt k o _ hk e;omega) h6
   |some g =>
    exact O.ok_except (g:=g) (fun b hb2 hne=>hg.block b hb2 (by rw[hv];simpa using hne)) (hgB g hv) h5 (fun e=>hfree k o g hk e hv) h6
 ·intro k o1 k' o1' b hk hk' hne hbk hbk';simp only[find]at hk hk';split at hk
  ·rename_i e;subst e;cases hk;rw[if_neg hne]at hk';obtain⟨h3,_,_,_⟩:=old k' o1' hk';rw[upd_same]at hbk;rw[hag k' h3]at hbk';rcases hb b hbk with h|h
   ·exact hfree k' o1' b hk' hbk' h
   ·have:=blklt k' o1' b hk' hbk';omega
  ·split at hk'
   ·rename_i e;subst e;cases hk';obtain⟨h3,_,_,_⟩:=old k o1 hk;rw[upd_same]at hbk';rw[hag k h3]at hbk;rcases hb b hbk' with h|h
    ·exact hfree k o1 b hk hbk h
    ·have:=blklt k o1 b hk hbk;omega
   ·obtain⟨h3,_,_,_⟩:=old k o1 hk;obtain⟨h3',_,_,_⟩:=old k' o1' hk';rw[hag k h3]at hbk;rw[hag k' h3']at hbk';rcases hp1s k o1 hk with h|⟨h,_⟩
    ·rcases hp1s k' o1' hk' with h' | ⟨h',_⟩
     ·obtain⟨o2,h2,_,_,_,_,h7⟩:=jaI hh h;obtain⟨o3,h3,_,_,_,_,h8⟩:=jaI hh h';exact hh.apart k o2 k' o3 b h2 h3 hne (h7 b hbk) (h8 b hbk')
     ·subst h';simp[O.blk]at hbk'
    ·subst h;simp[O.blk]at hbk
def jcD {v:V} {hs:Option Nat} {cs:Option Cont} (hh:HRel I B hp nx w) (h:jbT hp v=some (hs,cs)) :
  (hs=none∧cs=none∧v.val I=.slice none 0 0)∨∃k o c,hs=some k∧cs=some c∧v.val I=I k∧find hp k=some o∧o.cont=some c∧jaH w (I k) c:=by
 unfold jbT at h;split at h
 ·rename_i k;split at h
  ·rename_i c hc;cases h;cases hf:find hp k with
   |none=>simp[hf]at hc
   |some o =>
    simp only[hf,zV]at hc;exact .inr ⟨k,o,c,rfl,rfl,rfl,hf,hc,jcc (hh.ok k o hf).2.2 hc⟩
  ·cases h
 ·cases h;exact .inl ⟨rfl,rfl,rfl⟩
 ·cases h
def Cont.one_all {c:Cont} (h:c.one=true):∀x∈c.flat,x.val.oneCell'=true:=by
 intro x hx;cases c with
 |ints k l=>simp[Cont.flat]at hx;obtain⟨y,_,rfl⟩:=hx;rfl
 |floats k l=>simp[Cont.flat]at hx;obtain⟨y,_,rfl⟩:=hx;rfl
 |strs l=>simp[Cont.flat]at hx;obtain⟨y,_,rfl⟩:=hx;rfl
 |bools l=>simp[Cont.flat]at hx;rcases hx with ⟨_,rfl⟩|⟨_,rfl⟩<;>rfl
 |recs e l=>simp[Cont.flat,jjh]at hx;obtain⟨y,_,i,_,rfl⟩:=hx;rfl
 |lits e l=>exact D.one_val (zy.1 h x hx)
 |frs k e l=>simp[Cont.flat,frD]at hx;obtain⟨y,_,i,_,rfl⟩:=hx;rfl
def jog {v:V} {X0 X:XC} {hs:Option Nat} {ty:Nat} (hh:HRel I B hp nx w) (h:xOf hp X0 v=some (hs,ty,X)) :
  (hs=none∧X=X0∧v.val I=.slice none 0 0)∨∃k,hs=some k∧v.val I=I k∧find hp k=some (.xrow ty X):=by
 unfold xOf at h;split at h
 ·rename_i k;split at h
  ·rename_i ty' X' hf;simp only[zj,qp]at h;obtain⟨rfl,rfl,rfl⟩:=h;exact .inr ⟨k,rfl,rfl,hf⟩
  ·cases h
 ·simp only[zj,qp]at h;obtain⟨rfl,rfl,rfl⟩:=h;exact .inl ⟨rfl,rfl,rfl⟩
 ·cases h
def jwU {P:zP} {t:TypeId} {X:XC} (h:xcT P t=some X):X.n=0:=by
 unfold xcT at h;split at h
 ·split at h
  ·split at h<;>cases h;rfl
  ·split at h<;>cases h<;>rfl
  ·cases h
 ·cases h
def jsQ {o:qu} {t elem e b:Nat} {s x:zZ} {c:Call} {us ux:V} {hs hx:Option Nat} {ty ty':Nat} {X0 X1 X2 X3:XC} {z:List C} (hh:HRel I B hp nx w) (hB:Old B w) (hr:jaB I nx rd a)
  (ho:o.op=.call c) (hcal:c.callee=.builtin .append) (hargs:c.args=#[s,x]) (hts:c.argTypes=#[t,t]) (hu:P.underlying t=some (.slice elem))
  (hrs:rd s=some us) (hrx:rd x=some ux) (hX0:xcT P elem=some X0) (hss:xOf hp X0 us=some (hs,ty,X1)) (hsx:xOf hp X0 ux=some (hx,ty',X2)) (hz:jaA P elem=some z) (hsz:szT P elem=some (e+1)) (hby:jaU P elem=some b)
  (hty:∀h,hs=some h->ty=elem) (h3:X1.app X2=some X3) (hzl:z.length=e+1) (he1:X1.sh.length=e+1)
  (hob:(X1.n+X2.n)*b<=140737488355328∧X1.n+X2.n<=9223372036854775807) (r:Res) (hrn:r.nx=nx+1) (hrv:r.v=.w (.c (.o nx)))
  (hrh:r.hp=(nx,.xrow elem X3)::(match hs with|some h=>(h,.dead)::jaj hp|none=>jaj hp)) :
  jaD P I B nx a w o r false:=by
 obtain⟨a1,a2,a3,a4,a5⟩:=XC.app_spec h3;have he:X1.e=e+1:=by rw[<-X1.sh_len,he1]
 have hvs:=(hr _ _ hrs).2;have hvx:=(hr _ _ hrx).2;have h00:=jwU hX0;cases hi:P.info? elem with
 |none=>simp[szT,hi]at hsz
 |some i =>
  have hsz':i.size=e+1:=by simpa [szT,hi]using hsz
  have hby':i.bytes=b:=by simpa [jaU,hi]using hby
  cases hzz:i.zero with
  |none=>simp[jaA,hi,hzz]at hz
  |some zv =>
   obtain⟨v0,hv0,hvc,_⟩:=jaX (P:=P) (w:=w) (I:=I) hz
   have hvz:v0=zv:=by
    simp[yH,yX,hi,hzz]at hv0;exact hv0.symm
   subst hvz;have hzs:v0.cells.size=e+1:=by rw[hvc];simp[hzl]
   obtain⟨us1,hown,hat1,hblk⟩:∃us1,w.ownsRow 0 elem (e+1) (us.val I) X1.n us1∧(∀i j,i<X1.n->j<X1.e->∃u,us1[i*X1.e+j]?=some u∧(X1.cell i j).at B.fr w u) ∧
     (∀k,(us.val I).ownBlock=some k->∃h o,hs=some h∧find hp h=some o∧o.blk (I h)=some k):=by
    rcases jog hh hss with ⟨rfl,rfl,hv⟩|⟨k,rfl,hv,hf⟩
    ·rw[hv,h00];exact⟨[],xU w 0 elem (e+1),(fun i j hi=>absurd hi (ye _)),fun k hk=>by simp[zU]at hk⟩
    ·have hte:=hty k rfl;subst hte;obtain⟨us1,q1,q2,q3⟩:=(hh.ok k _ hf).2.2;rw[hv];exact⟨us1,by rw[<-he];exact q1,q2,fun g hg=>⟨k,_,rfl,hf,hg⟩⟩
   obtain⟨us2,hlen2,hat2,hsrc⟩:∃us2:List zs,us2.length=X2.n*(e+1)∧(∀i j,i<X2.n->j<X2.e->∃u,us2[i*X2.e+j]?=some u∧(X2.cell i j).at B.fr w u) ∧
     (((ux.val I)=.slice none 0 0∧X2.n=0)∨∃ad cc,(ux.val I)=.slice (some ad) X2.n cc∧∀j u,us2[j]?=some u->w.cell? (ad.add j)=some u):=by
    rcases jog hh hsx with ⟨rfl,rfl,hv⟩|⟨k,rfl,hv,hf⟩
    ·exact⟨[],by simp[h00],(fun i j hi=>by omega),.inl ⟨hv,h00⟩⟩
    ·obtain⟨us2,q1,q2,q3⟩:=(hh.ok k _ hf).2.2;rcases q1 with ⟨ql,⟨q4,q5⟩|⟨g,cap,cur,q4,q5,q6,q7,q8,q9,q10⟩⟩
     ·exact⟨[],by simp[q5],(fun i j hi=>by omega),.inl ⟨by rw[hv,q4],q5⟩⟩
     ·refine⟨us2,by rw[ql,a3,he],q2,.inr ⟨⟨g,0,none⟩,cap,by rw[hv,q4],fun j u hj=>?_⟩⟩;rw[jaT,qa,xP w g _ cur ty' (0,0) q6];rw[<-q10,qg]at hj;split at hj
      ·simpa using hj
      ·cases hj
   have hone:∀u∈us2,u.oneCell'=true:=fun u hu2=>by
    obtain⟨q,hq,rfl⟩:=xF hu2;have he0:0<X2.e:=by omega
    have hql:q<X2.n*X2.e:=by rw[a3,he,<-hlen2];exact hq
    have hdiv:q/X2.e<X2.n:=yE (by rw[xI];exact hql);obtain⟨u,hu3,hux⟩:=hat2 (q/X2.e) (q%X2.e) hdiv (ya _ he0);rw[show q/X2.e*X2.e+q%X2.e=q by rw[xI];exact yu q X2.e,zH hq]at hu3;cases hu3;exact jt3 hux
   obtain⟨v',w',hrun,hown',hgrown,hwhere⟩:=jej (ty:=o.type) hu hi hzz hsz' hby' hzs hown (news:=us2) (m:=X2.n) hlen2 hone hsrc hob.2 hob.1
   have hgB:∀k,(us.val I).ownBlock=some k->¬B.all k:=fun k hk=>by
    obtain⟨h,ob,_,hf,hbo⟩:=hblk k hk;exact(O.blk_lt (hh.ok h ob hf).2.2 hbo).2
   have hbl:=jc6 hgrown hgB hB;have hl1:us1.length=X1.n*(e+1):=hown.1;refine jap (I':=upd I nx v') (w':=w') ?_ ?_
   ·unfold xg;simp only[ho,hcal,jy,hargs,hts,yj,zL,xp,zq,zt,zn,gc,builtin,hvs,hvx,hrun];simp[hrv,V.val,W.val,C.val]
   ·refine⟨jar _ _ _,by rw[hrv,hrn];exact zo nx,by omega,HRel.gr ?_,hbl,(fun h=>by cases h),fun h=>by cases h⟩;rw[hrh,hrn];refine HRel.grow hh hB hgrown hgB ?_ ?_ ?_ trivial (fun k hk=>hwhere k hk)
    ·intro k o1 hk;cases hs with
     |none=>exact .inl hk
     |some h =>
      simp only[find]at hk;split at hk
      ·rename_i e;cases hk;refine .inr ⟨rfl,?_⟩;rcases jog hh hss with ⟨h',_,_⟩|⟨k2,h',_,hf⟩
       ·cases h'
       ·cases h';rw[<-e];exact(hh.ok _ _ hf).1
      ·exact .inl hk
    ·intro k o1 g hk hbk hvg;obtain⟨h,ob,rfl,hf,hbo⟩:=hblk g hvg;simp only[find]at hk;split at hk
     ·cases hk;simp[O.blk]at hbk
     ·rename_i hne;obtain⟨o2,h2',_,_,_,_,h7⟩:=jaI hh hk;exact hh.apart h ob k o2 g hf h2' hne hbo (h7 g hbk)
    ·refine⟨us1++us2,?_,fun i' j' hi' hj'=>?_,fun k hk hc=>?_⟩
     ·rw[upd_same,a1,a2,he];exact hown'
     ·rw[a1]at hi';rw[a2]at hj' ⊢;rw[a5];split
      ·rename_i hlt;obtain⟨u,q1,q2⟩:=hat1 i' j' hlt hj';refine⟨u,?_,NC.at_bel q2 (hbl.mono B.sub)⟩;rw[qf (zC.1 q1).1];exact q1
      ·rename_i hge;obtain⟨u,q1,q2⟩:=hat2 (i' - X1.n) j' (by omega) (by rw[a3];exact hj');refine⟨u,?_,NC.at_bel q2 (hbl.mono B.sub)⟩
       have e2:i' * X1.e+j'=us1.length+((i' - X1.n)*X2.e+j'):=by
        rw[hl1,a3,he,<-xL,<-qE]
        congr 2
        omega
       rw[e2,qj (by omega),gW];exact q1
     ·rw[upd_same]at hk;rcases hwhere k hk with h|h
      ·exact hgB k h hc
      ·have:=hB k hc;omega
def jwV {sh:List NK} {r:List NC} {j:Nat} {x:NC} {k:NK} (hk:sh[j]?=some k) (hx:jbL k x=true):jcP sh (jfx sh r j x)∧∀m,m<sh.length->(jfx sh r j x).getD m (.d (.v zJ))=if m=j then x else(sh.getD m .b).norm (r.getD m (.d (.v zJ))):=by
 have hg:∀m,m<sh.length->(jfx sh r j x)[m]?=some (if m=j then x else(sh.getD m .b).norm (r.getD m (.d (.v zJ)))):=fun m hm=>by
  unfold jfx;rw[zR,List.getElem?_range hm];simp only[qk,zj]
  by_cases e:m=j
  ·subst e;simp
  ·rw[if_neg e];have:zF m j=false:=by cases hb:zF m j with|false=>rfl|true=>exact absurd (zi hb) e
   rw[this];rfl
 have hnorm:∀(k:NK) (y:NC),jbL k (k.norm y)=true:=fun k y=>by
  cases k<;>simp[NK.norm,jbL]<;>(try (rename_i k;cases k<;>rfl))
  all_goals (rename_i k e;cases k<;>simp[jbG])
 refine⟨⟨by simp[jfx],fun m k' y hm hy=>?_⟩,fun m hm=>by rw[qJ,hg m hm];rfl⟩;have hml:=(zC.1 hm).1;rw[hg m hml]at hy;cases hy;split
 ·rename_i e;subst e;rw[hk]at hm;cases hm;exact hx
 ·rw[show sh.getD m .b=k' by simp[zb,hm]];exact hnorm k' _
def jv1 {o:qu} {r:Res} (hh:HRel I B hp nx w) (hB:Old B w) (hr:jaB I nx rd a) (h:jg7 P o.op rd hp nx=some r) (hob:r.ob) :
  jaD P I B nx a w o r (jau sp o.op rd):=by
 unfold jg7 at h;split at h
 ·rename_i t l c hop;split at h
  ·rename_i elem k n k' m hu hl hc;split at h
   ·rename_i X0 z b e hX hz hb hs;split at h
    ·rename_i r0 hs0 hcs hzl;cases h;obtain⟨ul,hul,hul'⟩:=zK.1 hl;obtain⟨uc,huc,huc'⟩:=zK.1 hc;simp only[hop,jau];exact jv0 hh hB hr hop hu hul hul' huc huc' hz hs hb (zi hzl) hcs hob
    ·cases h
   ·cases h
  ·cases h
 ·rename_i t n parts hop;split at h
  ·rename_i elem l hnt hu hl;split at h
   ·rename_i X0 z e hX hz hs;split at h
    ·rename_i rs hs0 hcs hn hzl hXe hle;cases h;simp only[hop,jau,hnt];exact jt4 hh hB hr hop hu hl hz hs (zi hzl) (zi hXe) (zi hn) (zQ hle) hcs
    ·cases h
   ·cases h
  ·cases h
 ·rename_i t x y hop;split at h
  ·rename_i h0 i e j u hx hy;split at h
   ·rename_i ty X sz hf hs;split at h
    ·rename_i hone hall he hXe he1 hsu;have he:=zi he;subst he;have hXe:=zi hXe;have he1:=zQ he1;have hsu:=zi hsu;subst hsu;split at h
     ·rename_i hse;have hse:=zi hse;split at h
      ·rename_i r0 hs0 hj hcs;have hj:=zi hj;subst hj;cases h;obtain⟨c1,c2,c3,c4⟩:=jdi hh hcs;have hput:=X.cell_put c1 hob;simp only[hop,jau];refine jk1 hh hB hr hop hx hy hone hall hs hf hob (by omega) c3 ⟨hput.1,hput.2.1⟩ fun B' hp' hh' hle hfr i' j' hi' hj'=>?_;rw[hput.2.2.2 i' j' hj']
       by_cases e:i'=i
       ·subst e;rw[if_pos ⟨rfl,xE _,by omega⟩,if_pos rfl];have hju:j'<u.cells.length:=by omega
        have hjr:j'<r0.length:=by rw[c1.1,hXe];exact hj'
        refine⟨u.cells[j'],by simp[hju],?_⟩;rw[show r0.getD j' (.d (.v zJ))=r0[j'] by simp[zb,hjr]];exact c4 B' hp' hh' hle hfr j' r0[j'] u.cells[j'] (by simp[hjr]) (by simp[hju])
       ·rw[if_neg (fun h=>e h.1),if_neg e]
      ·cases h
     ·split at h
      ·rename_i c0 k huc hk;split at h
       ·rename_i x0 g0 hc0;cases h;obtain⟨c1,c2,c3⟩:=jnw hh hc0;have hjl:j<X.e:=by rw[<-X.sh_len];exact(zC.1 hk).1
        have hrow:jcP X.sh (X.row i j x0)∧∀m,m<X.e->(X.row i j x0).getD m (.d (.v zJ))=if m=j then x0 else X.cell i m:=by
         cases X with
         |st sh l=>exact jwV hk c1
         |_ =>
          all_goals
           simp only[XC.e]at hjl;obtain rfl:j=0:=by omega
           simp only[XC.sh,xq,zj]at hk;subst hk;refine⟨⟨rfl,fun m k' y hm hy=>?_⟩,fun m hm=>?_⟩
           ·cases m with
            |zero=>simp[XC.sh]at hm;simp[XC.row]at hy;subst hm;subst hy;exact c1
            |succ m=>simp[XC.sh]at hm
           ·simp only[XC.e]at hm;obtain rfl:m=0:=by omega
            rfl
        have hput:=X.cell_put hrow.1 hob;simp only[hop,jau];refine jk1 hh hB hr hop hx hy hone hall hs hf hob (by rw[huc];simp;omega) (fun g hg=>?_) ⟨hput.1,hput.2.1⟩ fun B' hp' hh' hle hfr i' j' hi' hj'=>?_
        ·cases g0 with
         |none=>simp at hg
         |some y=>simp at hg;subst hg;exact c2 _ rfl
        ·rw[hput.2.2.2 i' j' hj',huc]
         by_cases e:i'=i
         ·subst e;rw[if_pos rfl,hrow.2 j' hj']
          by_cases e2:j'=j
          ·subst e2;rw[if_pos ⟨rfl,zp _,by simp⟩,if_pos rfl];refine⟨c0,by simp,c3 B' hp' hh' hle fun g hg=>hfr g ?_⟩;rw[hg];simp
          ·rw[if_neg (by simp;omega),if_neg e2]
         ·rw[if_neg (fun h=>e h.1),if_neg e]
       ·cases h
      ·cases h
    ·cases h
   ·cases h
  ·cases h
 ·rename_i c hop;split at h
  ·rename_i s x t t' hcal hargs hts;split at h
   ·rename_i elem htt hu;have htt:=zi htt;subst htt;split at h
    ·rename_i X0 z e b hX hz hs hb;split at h
     ·rename_i hs0 ty X1 hx0 ty' X2 h1 h2;split at h
      ·rename_i X3 h3 hty hty' hzl he1;cases h;obtain⟨us,hus,hus'⟩:=zK.1 h1;obtain⟨ux,hux,hux'⟩:=zK.1 h2;have e1:c.args=#[s,x]:=by apply xf;simpa using hargs
       have e2:c.argTypes=#[t,t]:=by apply xf;simpa using hts
       simp only[hop,jau,hcal];exact jsQ hh hB hr hop hcal e1 e2 hu hus hux hX hus' hux' hz hs hb (fun h e=>by subst e;exact zi hty) h3 (zi hzl) (zi he1) hob _ rfl rfl rfl
      ·cases h
     ·cases h
    ·cases h
   ·cases h
  ·cases h
 ·cases h
end
end Go.Sx
end

section
open Go.RowKit
namespace Go.Sx
def jhR:∀{l:List Nat},jfm l=true->l.Nodup
 |[],_=>List.nodup_nil
 |h::r,hd=>by
  simp only[jfm]at hd;split at hd
  ·cases hd
  ·rename_i hc;exact jN.2 ⟨(fun hm=>by rw[List.contains_iff_mem.2 hm]at hc;cases hc),jhR hd⟩
def jdj {hp:Hp} {k:Nat}:∀{hs:List Nat},find (jdf hp hs) k=if k∈hs then some .dead else find hp k
 |[]=>by simp[jdf]
 |h::r=>by
  simp only[jdf,find,jdj (hs:=r),qr]
  by_cases e:h=k
  ·subst e;simp
  ·rw[if_neg e];have:(k=h∨k∈r)<->k∈r:=⟨fun x=>x.resolve_left (fun y=>e y.symm),.inr⟩
   simp only[this]
def jco {w w':zr} {ty e n:Nat} {v:zs} {cs:List zs} (h:w.ownsRow 0 ty e v n cs) (hw:∀k,v.ownBlock=some k->w'.heap[k]?=w.heap[k]?):w'.ownsRow 0 ty e v n cs:=by
 refine⟨h.1,?_⟩;rcases h.2 with hn|⟨g,cap,cur,h1,h2,h3,h4⟩
 ·exact .inl hn
 ·exact .inr ⟨g,cap,cur,h1,h2,(hw g (by simp[h1,zU])).trans h3,h4⟩
def jcd {B:Kd} {w w':zr} {g ty:Nat} {v:zs} {x:NC} (h:x.own B w g ty v) (hw:∀k,v.ownBlock=some k->w'.heap[k]?=w.heap[k]?):x.own B w' g ty v:=by
 cases x with
 |d x=>exact h
 |r c=>exact⟨jco h.1 hw,h.2⟩
def jeM {B B':Kd} {w:zr} {g g' ty:Nat} {v:zs} {x:NC} (h:x.own B w g ty v) (hm:∀k,v.ownBlock=some k->B.mu k=some g->B'.mu k=some g'):x.own B' w g' ty v:=by
 cases x with
 |d x=>exact h
 |r c=>exact⟨h.1,fun k hk=>hm k hk (h.2 k hk)⟩
def jcp {B:Kd} {w:zr} {g ty k:Nat} {v:zs} {X:XC} {i j:Nat} (h:(X.cell i j).own B w g ty v) (hk:v.ownBlock=some k):B.mu k=some g:=by
 cases hc:X.cell i j with
 |r c=>rw[hc]at h;exact h.2 k hk
 |d d =>
  rw[hc]at h;have e:v=d.val:=h;subst e;exfalso
  have key:∀x:NC,(match x with | .d (.i _ _) | .d (.b _) | .d (.f _ _) | .d (.s _)=>True | .d _=>False | .r _=>True)->x=.d d->False:=fun x hx e=>by
   subst e;cases d<;>first|exact hx|cases hk
  refine key (X.cell i j) ?_ hc;cases X with
  |st sh l=>simp only[XC.cell];cases sh.getD j .b<;>simp only[NK.norm]
  |_=>trivial
section
variable [Globs] {P:zP} {I:Env} {B:Kd} {nx:Nat} {hp:Hp} {w:zr} {rd:zZ->Option V} {a:Act} {sp:jab}
def jk2 {k:NK} {t q:Nat} {x:NC} {g:Option Nat} (h:jcg hp k t (.o q)=some (x,g)):g=some q:=by
 simp only[jcg]at h;split at h
 ·split at h
  ·cases h;rfl
  ·cases h
 ·cases h
def jgn (hh:HRel I B hp nx w) {k:NK} {t:Nat} {c:C} {x:NC} {g:Option Nat} (h:jcg hp k t c=some (x,g)):jbL k x=true ∧ (∀q,g=some q->c=.o q∧∃t' c',find hp q=some (.row t' c'))∧(∀q,(c.val I).ownBlock=some q->∃h,g=some h∧c=.o h) ∧
  ∀(B':Kd) (go:Nat),(∀q,g=some q->∀b,(I q).ownBlock=some b->B'.mu b=some go)->x.own B' w go t (c.val I):=by
 unfold jcg at h;split at h
 ·split at h
  ·rename_i y hy;cases h;have:=jps hy;refine⟨this.1,(fun _ h=>by cases h),(fun q hq=>by cases hq),fun B' go _=>?_⟩
   have hn:∃c0,x=.r c0∧c0.n=0:=by
    unfold jpk at hy;split at hy<;>cases hy<;>exact⟨_,rfl,rfl⟩
   obtain⟨c0,rfl,h0⟩:=hn;refine⟨?_,fun q hq=>by cases hq⟩;have hfl:c0.flat=[]:=z5 (by rw[Cont.flat_length,h0,yd]);rw[hfl,h0];exact xU w 0 t c0.e
  ·cases h
 ·rename_i d _;split at h
  ·rename_i hk;cases h;refine⟨hk,(fun _ h=>by cases h),(fun q hq=>?_),fun B' go _=>rfl⟩;unfold jbL at hk;split at hk<;>first|(rename_i e1 e2;cases e2;cases hq)|(rename_i e2;cases e2;done)|skip
   all_goals first|cases hq|cases hk
  ·cases h
 ·rename_i h0;split at h
  ·rename_i ty c0 hf;split at h
   ·rename_i hk ht;have ht:=zi ht;subst ht;cases h;refine⟨hk,fun q e=>?_,fun q hq=>⟨h0,rfl,rfl⟩,fun B' go hm=>?_⟩
    ·cases e;exact⟨rfl,_,_,hf⟩
    ·exact⟨(hh.ok h0 _ hf).2.2.1,fun b hb=>hm h0 rfl b hb⟩
   ·cases h
  ·cases h
 ·cases h
def jc4 (hh:HRel I B hp nx w):∀{sh:List NK} {ts:List Nat} {cs:List C} {r:List NC} {hs:List Nat},jaO hp sh ts cs=some (r,hs) -> jcP sh r∧cs.length=sh.length∧(∀q∈hs,C.o q∈cs∧∃t' c',find hp q=some (.row t' c'))∧(∀(j:Nat) (c:C) (q:Nat),cs[j]?=some c->(c.val I).ownBlock=some q->∃h∈hs,c=.o h) ∧ (hs.Nodup->∀(j j' h:Nat),cs[j]?=some (.o h)->cs[j']?=some (.o h)->h∈hs->j=j') ∧ ∀(B':Kd) (go:Nat),(∀q∈hs,∀b,(I q).ownBlock=some b->B'.mu b=some go)->∀(j:Nat) (x:NC) (c:C),r[j]?=some x->cs[j]?=some c->x.own B' w go (ts.getD j 0) (c.val I)
 |[],ts,[],r,hs,h=>by
  simp only[jaO,zj,qp]at h;obtain⟨rfl,rfl⟩:=h;exact⟨⟨rfl,fun j k x h=>by simp at h⟩,rfl,(fun _ h=>by cases h),(fun j c q h=>by simp at h),(fun _ j j' h hj=>by simp at hj),fun _ _ _ j x c h=>by simp at h⟩
 |[],ts,c::cs,r,hs,h=>by simp[jaO]at h
 |k::sh,ts,[],r,hs,h=>by simp[jaO]at h
 |k::sh,ts,c::cs,r,hs,h=>by
  simp only[jaO]at h;split at h
  ·rename_i x g l gs hx hl;simp only[zj,qp]at h;obtain⟨rfl,rfl⟩:=h;obtain⟨a1,a2,a3,a4⟩:=jgn hh hx;obtain⟨b1,b2,b3,b4,b5,b6⟩:=jc4 hh hl
   have hmem:∀h,h∈(match g with|some h=>h::gs|none=>gs)<->g=some h∨h∈gs:=fun h=>by
    cases g with
    |none=>simp
    |some y=>simp[eq_comm]
   have hts:∀j,ts.tail.getD j 0=ts.getD (j+1) 0:=fun j=>by cases ts<;>simp[zb]
   refine⟨⟨by simp[b1.1],fun j k' x' hj hx'=>?_⟩,by simp[b2],fun q hq=>?_,fun j c' q hj hq=>?_,fun hnd j j' h hj hj' hm=>?_,fun B' go hm j x' c' hj hc=>?_⟩
   ·cases j with
    |zero=>simp at hj hx';subst hj;subst hx';exact a1
    |succ j=>exact b1.2 j k' x' (by simpa using hj) (by simpa using hx')
   ·rcases(hmem q).1 hq with e|e
    ·have:=a2 q e;exact⟨by rw[this.1];exact zw,this.2⟩
    ·exact⟨zu _ (b3 q e).1,(b3 q e).2⟩
   ·cases j with
    |zero =>
     simp at hj;subst hj;obtain⟨h,e1,e2⟩:=a3 q hq;exact⟨h,(hmem h).2 (.inl e1),e2⟩
    |succ j =>
     obtain⟨h,e1,e2⟩:=b4 j c' q (by simpa using hj) hq;exact⟨h,(hmem h).2 (.inr e1),e2⟩
   ·-- positions
    have hnd2:gs.Nodup:=by
     cases g with
     |none=>exact hnd
     |some y=>exact(jN.1 hnd).2
    have head_in:∀{cs':List C} {q:Nat},c=.o q->g=some q:=fun e=>by
     subst e;exact jk2 hx
    have tail_in:∀{sh:List NK} {ts:List Nat} {cs:List C} {r:List NC} {hs:List Nat},jaO hp sh ts cs=some (r,hs)->∀(j q:Nat),cs[j]?=some (.o q)->q∈hs:=by
     intro sh
     induction sh with
     |nil=>intro ts cs r hs h j q hj;cases cs with
      |nil=>simp at hj
      |cons=>simp[jaO]at h
     |cons k sh ih =>
      intro ts cs r hs h j q hj;cases cs with
      |nil=>simp at hj
      |cons c cs =>
       simp only[jaO]at h;split at h
       ·rename_i x g l gs hx hl;simp only[zj,qp]at h;obtain⟨rfl,rfl⟩:=h;cases j with
        |zero =>
         simp at hj;subst hj;rw[jk2 hx];simp
        |succ j =>
         have:=ih hl j q (by simpa using hj);cases g with
         |none=>exact this
         |some y=>exact zu _ this
       ·cases h
    cases j with
    |zero =>
     cases j' with
     |zero=>rfl
     |succ j' =>
      simp at hj hj';have e1:=head_in (cs':=[]) hj;have e2:=tail_in hl j' h hj';subst e1;exact absurd e2 (jN.1 hnd).1
    |succ j =>
     cases j' with
     |zero =>
      simp at hj hj';have e1:=head_in (cs':=[]) hj';have e2:=tail_in hl j h hj;subst e1;exact absurd e2 (jN.1 hnd).1
     |succ j' =>
      simp at hj hj';rw[b5 hnd2 j j' h hj hj' (tail_in hl j h hj)]
   ·cases j with
    |zero =>
     simp at hj hc;subst hj;subst hc;have:=a4 B' go fun q e=>hm q ((hmem q).2 (.inl e))
     rwa [show ts.headD 0=ts.getD 0 0 by cases ts<;>rfl]at this
    |succ j =>
     have:=b6 B' go (fun q e=>hm q ((hmem q).2 (.inr e))) j x' c' (by simpa using hj) (by simpa using hc)
     rwa [hts]at this
  ·cases h
def jxN (hh:HRel I B hp nx w) {hs:List Nat} (hr:∀h∈hs,∃t c,find hp h=some (.row t c)) (go:Nat) :
  ∃B',Grow B B' false w w∧B.LeM B'∧HRel I B' (jdf hp hs) nx w∧(∀h∈hs,∀k,(I h).ownBlock=some k->B'.mu k=some go)∧(∀k,B'.all k->B.all k∨∃h∈hs,(I h).ownBlock=some k)∧∀k,B'.kp k<->B.kp k:=by
 have hout:∀h∈hs,∀k,(I h).ownBlock=some k->¬B.all k∧k<w.heap.size:=fun h hm k hk=>by
  obtain⟨t,c,hf⟩:=hr h hm;have:=O.blk_lt (hh.ok h _ hf).2.2 (show(O.row t c).blk (I h)=some k from hk);exact⟨this.2,this.1⟩
 have dec:∀k,Decidable (∃h∈hs,(I h).ownBlock=some k):=fun k=>jV _
 let B':Kd:=⟨B.kp,B.fr,fun k=>@ite _ (∃h∈hs,(I h).ownBlock=some k) (dec k) (some go) (B.mu k),B.sub,fun k hk=>by
  show(if ∃h∈hs,(I h).ownBlock=some k then some go else B.mu k)=none
  rw[if_neg (fun⟨h,hm,hb⟩=>(hout h hm k hb).1 (.inl hk))];exact B.dis k hk⟩
 have hmu:∀k,B'.mu k=if ∃h∈hs,(I h).ownBlock=some k then some go else B.mu k:=fun k=>rfl
 have hlm:B.LeM B':=fun k g hk=>by
  rw[hmu,if_neg (fun⟨h,hm,hb⟩=>(hout h hm k hb).1 (.inr (by rw[hk];simp)))];exact hk
 have hle:B.Le B':=⟨fun _ h=>h,fun _ h=>h⟩
 have hall:∀k,B'.all k->B.all k∨∃h∈hs,(I h).ownBlock=some k:=fun k hk=>by
  rcases hk with hk|hk
  ·exact .inl (.inl hk)
  ·rw[hmu]at hk;split at hk
   ·rename_i h;exact .inr h
   ·exact .inl (.inr hk)
 refine⟨B',⟨hle,fun k hk=>(hall k hk).imp id fun⟨h,hm,hb⟩=>(hout h hm k hb).2,fun k hk=>.inl hk,fun h=>by cases h⟩,hlm,⟨fun k o hk=>?_,fun k o k' o' b hk hk' hne hb hb'=>?_,hh.glob⟩,fun h hm k hb=>by rw[hmu,if_pos ⟨h,hm,hb⟩],hall,fun k=>ko⟩
 ·rw[jdj]at hk;split at hk
  ·rename_i hm;cases hk;obtain⟨t,c,hf⟩:=hr k hm;exact⟨(hh.ok k _ hf).1,trivial,trivial⟩
  ·rename_i hm;have h1:=hh.ok k o hk;refine⟨h1.1,h1.2.1,O.ok_moreB hle hlm h1.2.2 fun b hb hB=>?_⟩;rcases hall b hB with h2|⟨h,hm2,h2⟩
   ·exact(O.blk_lt h1.2.2 hb).2 h2
   ·obtain⟨t,c,hf⟩:=hr h hm2;exact hh.apart h _ k o b hf hk (fun e=>hm (e ▸ hm2)) (show(O.row t c).blk (I h)=some b from h2) hb
 ·rw[jdj]at hk hk';split at hk
  ·cases hk;cases hb
  ·split at hk'
   ·cases hk';cases hb'
   ·exact hh.apart k o k' o' b hk hk' hne hb hb'
def jpt (hh:HRel I B hp nx w) {h h' k:Nat} {t t':Nat} {c c':Cont} (hf:find hp h=some (.row t c)) (hf':find hp h'=some (.row t' c')) (hne:h≠h') (hk:(I h).ownBlock=some k):(I h').ownBlock≠some k :=hh.apart h _ h' _ k hf hf' hne hk
def jzk {h i j ty:Nat} {ts:List Nat} {X:XC} {c:Cont} (hok:(O.mrow ty ts X none).ok I B w h) (hi:i<X.n) (hj:j<X.e) (hc:X.cell i j=.r c) (hlt:h<nx) :
  ∃u,w.cell? ⟨(base (I h)).block,(base (I h)).off+(i*X.e+j),none⟩=some u∧(O.sub h i X.e j (ts.getD j 0) c).ok (upd I nx u) B w nx:=by
 obtain⟨us,hr,hat,hd,hk⟩:=hok;rcases hr.2 with ⟨h1,hn⟩|⟨g,cap,cur,h1,h2,h3,h4,h5,h6,h7⟩
 ·omega
 ·obtain⟨u,hu,hux⟩:=hat i j hi hj (by simp);rw[hc]at hux
  have hcell:w.cell? ⟨(base (I h)).block,(base (I h)).off+(i*X.e+j),none⟩=some u:=by
   rw[h1];simp only[base,qa];rw[xP w g _ cur ty (0,0) h3];have h2:(cur.toList.take (X.n*X.e))[i*X.e+j]?=some u:=by rw[h7,hu]
   rw[qg]at h2;split at h2
   ·simpa using h2
   ·cases h2
  have hne:upd I nx u h=I h:=jar I nx u h hlt;refine⟨u,hcell,?_⟩;unfold O.ok;simp only;rw[upd_same,hne];exact⟨hux.1,hj,⟨_,_,_,h1,hi⟩,hcell,hux.2⟩
def jt5 {o:qu} {t h i e j ty:Nat} {ts:List Nat} {x:zZ} {X:XC} {c:Cont} (hh:HRel I B hp nx w) (hB:Old B w) (hr:jaB I nx rd a) (ho:o.op=.load t x) (hx:rd x=some (.w (.c (.p h i e j)))) (hf:find hp h=some (.mrow ty ts X none))
  (he:e=X.e) (hag:jbz P t=some false) (hj:j<X.e) (hc:X.cell i j=.r c) (hob:i<X.n) :
  jaD P I B nx a w o ⟨i<X.n,.w (.c (.o nx)),(nx,.sub h i X.e j (ts.getD j 0) c)::hp,nx+1⟩ true:=by
 subst he;have hlt:=(hh.ok h _ hf).1;obtain⟨u,hu,hok⟩:=jzk (nx:=nx) (hh.ok h _ hf).2.2 hob hj hc hlt;refine jap (I':=upd I nx u) (w':=w) ?_ (jdh hh hB u (.sub h i X.e j (ts.getD j 0) c) rfl rfl (show V.lt (nx+1) (.w (.c (.o nx)))from zo nx) true (jZ hlt) hok rfl);unfold xg;have hlv:=jaS (P:=P) w hag hu;simp[ho,(hr _ _ hx).2,C.val,jY,xh,hlv,V.val,W.val]
def jk3 {h i ty:Nat} {ts:List Nat} {X:XC} (hB:Old B w) (hi:i<X.n):∀(l:List NC) (us:List zs) (j nx:Nat) (hp:Hp) (I:Env),HRel I B hp nx w->h<nx->(O.mrow ty ts X none).ok I B w h->l.length=us.length->j+l.length=X.e -> (∀(m:Nat) (x:NC),l[m]?=some x->x=X.cell i (j+m))->(∀(m:Nat) (u:zs),us[m]?=some u->w.cell? ⟨(base (I h)).block,(base (I h)).off+(i*X.e+(j+m)),none⟩=some u∧∀d,X.cell i (j+m)=.d d->u=d.val) ->
  ∃I',jah nx I I'∧(jcC h i X.e ts j l nx hp).1.map (C.val I')=us∧(∀c∈(jcC h i X.e ts j l nx hp).1,C.lt (jcC h i X.e ts j l nx hp).2.2 c)∧nx<=(jcC h i X.e ts j l nx hp).2.2∧HRel I' B (jcC h i X.e ts j l nx hp).2.1 (jcC h i X.e ts j l nx hp).2.2 w ∧ (∀q o k,nx<=q->find (jcC h i X.e ts j l nx hp).2.1 q=some o->o.blk (I' q)≠some k)∧∀q,q<nx->find (jcC h i X.e ts j l nx hp).2.1 q=find hp q
 |[],us,j,nx,hp,I,hh,_,_,hl,_,_,_=>by
  have:us=[]:=z5 hl.symm;subst this;exact⟨I,jah.refl _ _,rfl,(fun c hc=>by cases hc),zp _,hh,(fun h o k hn hf=>by have:=(hh.ok h o hf).1;omega),fun _ _=>rfl⟩
 |x::l,[],j,nx,hp,I,_,_,_,hl,_,_,_=>by simp at hl
 |x::l,u::us,j,nx,hp,I,hh,hlt,hok,hl,hje,hx,hu=>by
  have hx0:=hx 0 x rfl;have hu0:=hu 0 u rfl;have hj:j<X.e:=by simp at hje;omega
  have hx2:∀(m:Nat) (y:NC),l[m]?=some y->y=X.cell i (j+1+m):=fun m y hy=>by
   have:=hx (m+1) y (by simpa using hy)
   rwa [show j+(m+1)=j+1+m by omega]at this
  have hu2:∀(m:Nat) (v:zs),us[m]?=some v->w.cell? ⟨(base (I h)).block,(base (I h)).off+(i*X.e+(j+1+m)),none⟩=some v∧∀d,X.cell i (j+1+m)=.d d->v=d.val:=fun m v hv=>by
   have:=hu (m+1) v (by simpa using hv)
   rwa [show j+(m+1)=j+1+m by omega]at this
  cases x with
  |d y =>
   obtain⟨I',hag,hm,hlt',hle,hh',hb,hfd⟩:=jk3 hB hi l us (j+1) nx hp I hh hlt hok (by simpa using hl) (by simp at hje;omega) hx2 hu2;refine⟨I',hag,?_,?_,hle,hh',hb,hfd⟩
   ·have:u=y.val:=hu0.2 y (by rw[xH]at hx0 ⊢;exact hx0.symm);simp only[jcC,zL,hm,C.val,this]
   ·intro c hc;simp only[jcC,qr]at hc;rcases hc with rfl|hc
    ·trivial
    ·exact hlt' c hc
  |r c =>
   obtain⟨u',hu',hsub⟩:=jzk (nx:=nx) hok hi hj (by rw[xH]at hx0;exact hx0.symm) hlt;rw[xH]at hu0;rw[hu0.1]at hu';cases hu';have hh1:HRel (upd I nx u) B ((nx,.sub h i X.e j (ts.getD j 0) c)::hp) (nx+1) w:=hh.add (xM _ w) hB (jar _ _ _) (jZ hlt) hsub (fun k hk=>by cases hk);have hIh:upd I nx u h=I h:=jar I nx u h hlt;obtain⟨I',hag,hm,hlt',hle,hh',hb,hfd⟩:=jk3 hB hi l us (j+1) (nx+1) _ _ hh1 (jZ hlt) (by unfold O.ok at hok ⊢;rw[hIh];exact hok) (by simpa using hl) (by simp at hje;omega) hx2 (by rw[hIh];exact hu2);have hag2:jah nx I I':=(jar I nx u).trans hag (xu nx);refine⟨I',hag2,?_,?_,Nat.le_of_succ_le hle,hh',fun q o k hn hf hk=>?_,fun q hq=>?_⟩
   ·simp only[jcC,zL,hm,C.val];rw[hag nx (zo nx),upd_same]
   ·intro d hd;simp only[jcC,qr]at hd;rcases hd with rfl|hd
    ·exact hle
    ·exact hlt' d hd
   ·by_cases e:q=nx
    ·subst e;have hf2:find (jcC h i X.e ts (j+1) l (q+1) ((q,.sub h i X.e j (ts.getD j 0) c)::hp)).2.1 q=some o:=hf;rw[hfd q (zo q)]at hf2;simp only[find,if_true,zj]at hf2;subst hf2;cases hk
    ·exact hb q o k (by omega) hf hk
   ·simp only[jcC];rw[hfd q (by omega)];simp only[find];rw[if_neg (by omega)]
def jt6 {o:qu} {t h i e sz ty:Nat} {ts:List Nat} {x:zZ} {X:XC} (hh:HRel I B hp nx w) (hB:Old B w) (hr:jaB I nx rd a) (ho:o.op=.load t x) (hx:rd x=some (.w (.c (.p h i e 0)))) (hf:find hp h=some (.mrow ty ts X none))
  (he:e=X.e) (hag:jbz P t=some true) (hs:szT P t=some sz) (hsz:sz=X.e) (hob:i<X.n) :
  jaD P I B nx a w o ⟨i<X.n,.w (.a (jcC h i X.e ts 0 ((zm X.e).map fun m=>X.cell i m) nx hp).1),(jcC h i X.e ts 0 ((zm X.e).map fun m=>X.cell i m) nx hp).2.1,(jcC h i X.e ts 0 ((zm X.e).map fun m=>X.cell i m) nx hp).2.2⟩ true:=by
 subst he;subst hsz;have hok:=hh.ok h _ hf;obtain⟨us0,hown,hat,_⟩:=hok.2.2
 obtain⟨b,cap,hv,hcells⟩:∃g cap,I h=.slice (some ⟨g,0,none⟩) X.n cap∧∀j,j<X.e->∃u,w.cell? ⟨g,i*X.e+j,none⟩=some u∧∀d,X.cell i j=.d d->u=d.val:=by
  rcases hown.2 with ⟨h1,hn⟩|⟨g,cap,cur,h1,h2,h3,h4,h5,h6,h7⟩
  ·omega
  ·refine⟨g,cap,h1,fun j hj=>?_⟩;obtain⟨u,hu,hux⟩:=hat i j hob hj (by simp);refine⟨u,?_,fun d hd=>by rw[hd]at hux;exact hux⟩;rw[xP w g _ cur ty (0,0) h3];have h2:(cur.toList.take (X.n*X.e))[i*X.e+j]?=some u:=by rw[h7,hu]
   rw[qg]at h2;split at h2
   ·simpa using h2
   ·cases h2
 obtain⟨us,hul,hus⟩:∃us:List zs,us.length=X.e∧∀j,j<X.e->∃u,us[j]?=some u∧w.cell? ⟨b,i*X.e+j,none⟩=some u∧∀d,X.cell i j=.d d->u=d.val:=by
  refine⟨(zm X.e).map fun j=>(w.cell? ⟨b,i*X.e+j,none⟩).getD zJ,by simp,fun j hj=>?_⟩;obtain⟨u,hu,hux⟩:=hcells j hj;exact⟨u,by simp[hj,hu],hu,hux⟩
 have hbase:base (I h)=⟨b,0,none⟩:=by rw[hv];rfl
 obtain⟨I',hag2,hm,hlt,hle,hh',hb,_⟩:=jk3 (w:=w) hB hob ((zm X.e).map fun m=>X.cell i m) us 0 nx hp I hh hok.1 hok.2.2 (by simp[hul]) (by simp) (fun m x hm=>by
  have hml:m<X.e:=by have:=(zC.1 hm).1;simpa using this
  simp[hml]at hm;rw[qa];exact hm.symm) (fun m u hu=>by
  have hml:m<X.e:=by rw[<-hul];exact(zC.1 hu).1
  obtain⟨u',hu',h2,h3⟩:=hus m hml;rw[hu]at hu';cases hu';rw[hbase,qa,qa];exact⟨h2,h3⟩)
 refine jap (I':=I') (w':=w) ?_ ⟨hag2,hlt,hle,hh'.gr,Bel.refl _ _,fun _=>xM _ _,fun _ h' o' k hn hf' hk=>absurd hk (hb h' o' k hn hf')⟩;unfold xg
 have hlv:=jcm (P:=P) w (a:=⟨b,i*X.e,none⟩) (cs:=us) hag (by rw[hul];exact hs) (fun j v hj=>by
  have hjl:j<X.e:=by rw[<-hul];exact(zC.1 hj).1
  obtain⟨u',hu',hcell,_⟩:=hus j hjl;rw[hj]at hu';cases hu';rw[jaT];exact hcell)
 simp[ho,(hr _ _ hx).2,C.val,hv,base,jY,xh,hlv,V.val,W.val,hm]
end
end Go.Sx
end

section
open Go.RowKit
namespace Go.Sx
section
variable [Globs] {P:zP} {I:Env} {B:Kd} {nx:Nat} {hp:Hp} {w:zr} {rd:zZ->Option V} {a:Act} {sp:jab}
def XC.row_spec (X:XC) {i j:Nat} {k:NK} {x:NC} (hk:X.sh[j]?=some k) (c1:jbL k x=true):jcP X.sh (X.row i j x)∧∀m,m<X.e->(X.row i j x).getD m (.d (.v zJ))=if m=j then x else X.cell i m:=by
 have hjl:j<X.e:=by rw[<-X.sh_len];exact(zC.1 hk).1
 cases X with
 |st sh l=>exact jwV hk c1
 |_ =>
  all_goals
   simp only[XC.e]at hjl;obtain rfl:j=0:=by omega
   simp only[XC.sh,xq,zj]at hk;subst hk;refine⟨⟨rfl,fun m k' y hm hy=>?_⟩,fun m hm=>?_⟩
   ·cases m with
    |zero=>simp[XC.sh]at hm;simp[XC.row]at hy;subst hm;subst hy;exact c1
    |succ m=>simp[XC.sh]at hm
   ·simp only[XC.e]at hm;obtain rfl:m=0:=by omega
    rfl
def jwW {i j i' j' e:Nat} (hj:j<e) (hj':j'<e) (h:i*e+j=i' * e+j'):i=i'∧j=j':=by
 have h1:i=i':=by
  rcases gJ i i' with h3|h3|h3
  ·have:(i+1)*e<=i' * e:=qb _ h3;rw[qE]at this;omega
  ·exact h3
  ·have:(i' + 1)*e<=i*e:=qb _ h3;rw[qE]at this;omega
 subst h1;exact⟨rfl,by omega⟩
def jk4 {o:qu} {t h i j ty:Nat} {ts ts1:List Nat} {x y:zZ} {u:W} {X X':XC} {ho:Option (Nat × Nat)} {sh1:List NK} {r:List NC} {hs:List Nat} {q:Prop} (hh:HRel I B hp nx w) (hr:jaB I nx rd a) (hop:o.op=.store t x y)
  (hx:rd x=some (.w (.c (.p h i X.e j)))) (hy:rd y=some (.w u)) (hone:u.one hp=true) (hall:(u.cells.all fun c=>c.one hp)=true) (hs1:szT P t=some u.cells.length) (hf:find hp h=some (.mrow ty ts X ho)) (hi:i<X.n)
  (hjl:j+u.cells.length<=X.e) (hco:jaO hp sh1 ts1 u.cells=some (r,hs)) (hnd:jfm hs=true) (hts:∀m,m<u.cells.length->ts1.getD m 0=ts.getD (j+m) 0) (hX:X'.n=X.n∧X'.e=X.e)
  (hcell:∀i' j',j'<X.e->X'.cell i' j'=if i'=i∧j<=j'∧j'<j+u.cells.length then r.getD (j' - j) (.d (.v zJ))else X.cell i' j')
  (hho:∀i0 j0,ho=some (i0,j0)->i0=i∧j<=j0∧j0<j+u.cells.length) :
  jaD P I B nx a w o ⟨q,vu,(h,.mrow ty ts X' none)::jdf (jaj hp) hs,nx⟩ false:=by
 have h1:=hr _ _ hx;have h2:=hr _ _ hy;obtain⟨hlt,hol,us,⟨hlen,hcase⟩,hat,hd,hBk⟩:=hh.ok h _ hf;rcases hcase with ⟨_,hn⟩|⟨g,cap,cur,hk,_,hheap,hncap,hcapm,hcsz,htk⟩
 ·omega
 have hbase:(base (I h)).block=g:=by rw[hk];rfl
 rw[hbase]at hat;obtain⟨c1,c2,c3,c4,c5,c6⟩:=jc4 hh hco;have c5:=c5 (jhR hnd)
 have hvf:∀q∈hs,∃t c,find (jaj hp) q=some (.row t c):=fun q hq=>by
  obtain⟨t',c',h3⟩:=(c3 q hq).2;exact⟨t',c',by rw[jay,h3];rfl⟩
 obtain⟨B',gr,hlm,hh',htag,hallB,hkp⟩:=jxN (jgm hh) hvf g
 have hhs:h∉hs:=fun hm=>by
  obtain⟨t',c',h3⟩:=(c3 h hm).2;rw[hf]at h3;cases h3
 have hf':find (jdf (jaj hp) hs) h=some (.mrow ty ts X ho):=by rw[jdj,if_neg hhs,jay,hf];rfl
 have hB'g:¬B'.all g:=by
  obtain⟨_,_,_,_,h9⟩:=(hh'.ok h _ hf').2.2;exact h9 g (by rw[hk];rfl)
 have hc:=W.cells_val hh hone;have hvs:(u.val I).cells.size=u.cells.length:=by rw[hc];simp
 have hin:i*X.e+j+u.cells.length<=X.n*X.e:=by
  have:(i+1)*X.e<=X.n*X.e:=qb _ hi;rw[qE]at this;omega
 have hcapsz:X.n*X.e<=cap*X.e:=qb _ hncap;have hst:=jbM (P:=P) (t:=t) (g:=g) (off:=i*X.e+j) (v:=u.val I) (by rw[hvs];exact hs1) hheap (by rw[hvs,hcsz];omega) (by rw[hc];exact jcK hh hall);obtain⟨w',hw'⟩:∃w',w'=w.setRow g ((cur.toList.take (i*X.e+j)++(u.val I).cells.toList++cur.toList.drop (i*X.e+j+(u.val I).cells.size)).toArray):=⟨_,rfl⟩
 rw[<-hw']at hst;refine jcn (I':=I) (w':=w') ?_ rfl ?_
 ·unfold xg;have h1v:a.eval x=.pointer (some ⟨g,i*X.e+j,none⟩):=by rw[h1.2];simp[C.val,hk,base]
  have h2v:a.eval y=u.val I:=h2.2;simp only[hop,h1v,h2v,ja,xh,zq,zt,zn,hst]
 ·have hbel:Bel B' w w':=by rw[hw'];exact jci hB'g
  have hsize:w'.heap.size=w.heap.size:=by rw[hw'];simp
  refine⟨jah.refl _ _,trivial,zp _,⟨B',gr.later (by omega),?_⟩,hbel.mono gr.le.kp,(fun h=>by cases h),fun h=>by cases h⟩;have hoth:∀k,k≠g->w'.heap[k]?=w.heap[k]?:=fun k hne=>by rw[hw'];exact yC w g k _ hne
  have hul:us.length=X.n*X.e:=hlen;have hvl:(u.val I).cells.toList=u.cells.map (C.val I):=by rw[hc]
  have htake:(cur.toList.take (i*X.e+j)++(u.val I).cells.toList++cur.toList.drop (i*X.e+j+(u.val I).cells.size)).take (X.n*X.e)=us.take (i*X.e+j)++u.cells.map (C.val I)++us.drop (i*X.e+j+(u.cells.map (C.val I)).length):=by
   rw[hvl,hvs];apply xA;intro t;have hcl:cur.toList.length=cap*X.e:=by simp[hcsz]
   have s1:=jb4 (us:=cur.toList) (vs:=u.cells.map (C.val I)) (off:=i*X.e+j) (t:=t) (by simp only[qh];omega);have s2:=jb4 (us:=us) (vs:=u.cells.map (C.val I)) (off:=i*X.e+j) (t:=t) (by simp only[qh];omega);simp only[qh]at s1 s2 ⊢;rw[qg,s1,s2]
   by_cases ht:t<X.n*X.e
   ·rw[if_pos ht];have:us[t]?=cur.toList[t]?:=by rw[<-htk,qg,if_pos ht]
    rw[this]
   ·rw[if_neg ht,if_neg (by omega)];exact(z7 (by omega)).symm
  have hiff:∀i' j',j'<X.e->((i*X.e+j<=i' * X.e+j'∧i' * X.e+j'<i*X.e+j+u.cells.length)<->(i'=i∧j<=j'∧j'<j+u.cells.length)):=fun i' j' hj'=>by
   constructor
   ·rintro ⟨a1,a2⟩
    have:i'=i:=by
     rcases gJ i' i with h3|h3|h3
     ·have:(i' + 1)*X.e<=i*X.e:=qb _ h3;rw[qE]at this;omega
     ·exact h3
     ·have:(i+1)*X.e<=i' * X.e:=qb _ h3;rw[qE]at this;omega
    subst this;exact⟨rfl,by omega,by omega⟩
   ·rintro ⟨rfl,a1,a2⟩;exact⟨by omega,by omega⟩
  have hget:∀i' j',j'<X.e->(us.take (i*X.e+j)++u.cells.map (C.val I)++us.drop (i*X.e+j+(u.cells.map (C.val I)).length))[i' * X.e+j']? =
    if i'=i∧j<=j'∧j'<j+u.cells.length then(u.cells[j' - j]?).map (C.val I)else us[i' * X.e+j']?:=fun i' j' hj'=>by
   have s2:=jb4 (us:=us) (vs:=u.cells.map (C.val I)) (off:=i*X.e+j) (t:=i' * X.e+j') (by simp only[qh];omega);simp only[qh]at s2 ⊢;rw[s2]
   by_cases hin2:i'=i∧j<=j'∧j'<j+u.cells.length
   ·rw[if_pos ((hiff i' j' hj').2 hin2),if_pos hin2,zR];obtain⟨rfl,_,_⟩:=hin2;rw[show i' * X.e+j' - (i' * X.e+j)=j' - j by omega]
   ·rw[if_neg (fun h=>hin2 ((hiff i' j' hj').1 h)),if_neg hin2]
  have hnew:∀(j':Nat) (k:Nat),(∃v,(u.cells[j' - j]?).map (C.val I)=some v∧v.ownBlock=some k)->∃q∈hs,u.cells[j' - j]?=some (.o q)∧(I q).ownBlock=some k:=fun j' k ⟨v,hv,hk'⟩=>by
   obtain⟨c,hc1,rfl⟩:=z4.1 hv;obtain⟨q,hq,rfl⟩:=c4 _ c k hc1 hk';exact⟨q,hq,hc1,hk'⟩
  have hrowout:∀q∈hs,∀k,(I q).ownBlock=some k->¬B.all k:=fun q hq k hk'=>by
   obtain⟨t',c',h3⟩:=(c3 q hq).2;exact(O.blk_lt (hh.ok q _ h3).2.2 (show(O.row t' c').blk (I q)=some k from hk')).2
  have hhole:∀i' j',¬(i'=i∧j<=j'∧j'<j+u.cells.length)->ho≠some (i',j'):=fun i' j' hn e=>hn (hho i' j' e);refine HRel.write (o':=.mrow ty ts X' none) hh' hf' (g:=g) (by simp[O.blk,hk,zU]) (fun k _ hne=>hoth k hne) ?_ trivial (by simp[O.blk,hk,zU]) |>.sub fun k o1 hk1=>?_
  ·refine⟨us.take (i*X.e+j)++u.cells.map (C.val I)++us.drop (i*X.e+j+(u.cells.map (C.val I)).length),⟨?_,.inr ⟨g,cap,_,by rw[hX.1];exact hk,xE _,by rw[hw'];exact jh w g _ _ ty (0,0) hheap,by rw[hX.1];exact hncap,hcapm,?_,by rw[hX.1,hX.2];exact htake⟩⟩,fun i' j' hi' hj' _=>?_,fun i1 j1 i2 j2 v1 v2 k hi1 hj1 hi2 hj2 hne _ _ hg1 hg2 hk1 hk2=>?_,fun k hk2=>?_⟩
   ·simp only[hX.1,hX.2,qc,xn,xy,qh];omega
   ·simp only[hX.2,xJ,qc,xn,xy,yr,hvs];omega
   ·rw[hX.1]at hi';rw[hX.2]at hj' ⊢;rw[hbase,hget i' j' hj',hcell i' j' hj']
    by_cases hin2:i'=i∧j<=j'∧j'<j+u.cells.length
    ·rw[if_pos hin2,if_pos hin2];obtain⟨rfl,a1,a2⟩:=hin2;have hju:j' - j<u.cells.length:=by omega
     have hjr:j' - j<r.length:=by rw[c1.1,<-c2];exact hju
     have hown:=c6 B' g htag (j' - j) r[j' - j] u.cells[j' - j] (by simp[hjr]) (by simp[hju]);refine⟨(u.cells[j' - j]).val I,by simp[hju],?_⟩;rw[show r.getD (j' - j) (.d (.v zJ))=r[j' - j] by simp[zb,hjr]];rw[hts _ hju,show j+(j' - j)=j' by omega]at hown;refine jcd hown fun k hk'=>hoth k fun e=>?_;obtain⟨q,hq,hcq⟩:=c4 (j' - j) u.cells[j' - j] k (by simp[hju]) hk';rw[hcq]at hk';exact hB'g (.inr (by rw[<-e,htag q hq k hk'];simp))
    ·rw[if_neg hin2,if_neg hin2];obtain⟨v,hv,hvx⟩:=hat i' j' hi' hj' (hhole i' j' hin2);refine⟨v,hv,jcd (jeM hvx fun k _ hm=>hlm k g hm) fun k hk'=>hoth k fun e=>?_⟩;have:=jcp hvx hk';exact hB'g (.inr (by rw[<-e,hlm k g this];simp))
   ·rw[hX.1]at hi1 hi2;rw[hX.2]at hj1 hj2 hg1 hg2;rw[hget i1 j1 hj1]at hg1;rw[hget i2 j2 hj2]at hg2
    by_cases hin1:i1=i∧j<=j1∧j1<j+u.cells.length
    ·rw[if_pos hin1]at hg1;obtain⟨q1,hq1,hc1,hb1⟩:=hnew j1 k ⟨v1,hg1,hk1⟩
     by_cases hin2:i2=i∧j<=j2∧j2<j+u.cells.length
     ·rw[if_pos hin2]at hg2;obtain⟨q2,hq2,hc2,hb2⟩:=hnew j2 k ⟨v2,hg2,hk2⟩
      by_cases e:q1=q2
      ·subst e;have:=c5 _ _ q1 hc1 hc2 hq1;exact hne (by rw[hin1.1,hin2.1];congr 1;omega)
      ·obtain⟨t1,d1,h3⟩:=(c3 q1 hq1).2;obtain⟨t2,d2,h4⟩:=(c3 q2 hq2).2;exact jpt hh h3 h4 e hb1 hb2
     ·rw[if_neg hin2]at hg2;obtain⟨v,hv,hvx⟩:=hat i2 j2 hi2 hj2 (hhole i2 j2 hin2);rw[hv]at hg2;cases hg2;exact hrowout q1 hq1 k hb1 (.inr (by rw[jcp hvx hk2];simp))
    ·rw[if_neg hin1]at hg1
     by_cases hin2:i2=i∧j<=j2∧j2<j+u.cells.length
     ·rw[if_pos hin2]at hg2;obtain⟨q2,hq2,hc2,hb2⟩:=hnew j2 k ⟨v2,hg2,hk2⟩;obtain⟨v,hv,hvx⟩:=hat i1 j1 hi1 hj1 (hhole i1 j1 hin1);rw[hv]at hg1;cases hg1;exact hrowout q2 hq2 k hb2 (.inr (by rw[jcp hvx hk1];simp))
     ·rw[if_neg hin2]at hg2;exact hd i1 j1 i2 j2 v1 v2 k hi1 hj1 hi2 hj2 hne (hhole i1 j1 hin1) (hhole i2 j2 hin2) hg1 hg2 hk1 hk2
   ·obtain⟨_,_,_,_,h9⟩:=(hh'.ok h _ hf').2.2;exact h9 k hk2
  ·simp only[find]at hk1 ⊢;split at hk1
   ·rename_i e;rw[if_pos e];exact hk1
   ·rename_i e;rw[if_neg e,jay,hk1];rw[jdj]at hk1;split at hk1
    ·cases hk1;rfl
    ·rw[jay]at hk1;cases hfk:find hp k with
     |none=>simp[hfk]at hk1
     |some ok =>
      simp only[hfk,qk,zj]at hk1;subst hk1;cases ok<;>rfl
def O.ok_in {h g g1:Nat} {w':zr} (hw:∀k,k≠g1->w'.heap[k]?=w.heap[k]?) (hg:B.mu g1=some g):∀{o:O},o.ok I B w h->o.blk (I h)≠some g->o.isV=false->o.ok I B w' h:=by
 intro o hok hb hv;have hall:∀k,¬B.all k->k≠g1:=fun k hk e=>hk (.inr (by rw[e,hg];simp));have hkpn:∀k,B.kp k->k≠g1:=fun k hk e=>by rw[e]at hk;rw[B.dis g1 hk]at hg;cases hg
 have hrow:∀{v:zs} {c:Cont},jaH w v c->jbK B.kp v->jaH w' v c:=fun hr ho=>by
  obtain⟨a',cap,h1,h2,h3⟩:=hr;refine⟨a',cap,h1,h2,fun hn=>?_⟩;obtain⟨b,off,hab,hx⟩:=h3 hn;subst hab;exact⟨b,off,rfl,fun j x hj=>(xj (w:=w) (hw b (hkpn b (ho _ _ _ h1 hn)))).trans (hx j x hj)⟩
 have hatm:∀{v:zs} {x:NC},x.at B.kp w v->x.at B.kp w' v:=fun {v x} h=>by
  cases x with
  |d x=>exact h
  |r c=>exact⟨hrow h.1 h.2,h.2⟩
 cases o with
 |view=>cases hv
 |sub=>cases hv
 |dead=>trivial
 |nan=>exact hok
 |err=>exact hok
 |atom=>exact hok
 |box ty cs =>
  obtain⟨k,h1,h2,h3⟩:=hok;exact⟨k,h1,h2,(hw k (hall k h2)).trans h3⟩
 |row ty c=>exact⟨jco hok.1 fun k hk=>hw k (hall k (hok.2 k hk)),hok.2⟩
 |ext c=>exact⟨hrow hok.1 hok.2,hok.2⟩
 |ebox cs =>
  obtain⟨k,o,h1,h2,h3⟩:=hok;exact⟨k,o,h1,h2,fun j c hj=>(xj (w:=w) (hw k (hkpn k h2))).trans (h3 j c hj)⟩
 |arr ty e r =>
  obtain⟨k,h1,h2,h3⟩:=hok;exact⟨k,h1,h2,(hw k (hall k h2)).trans h3⟩
 |xext X =>
  obtain⟨a',cap,h1,h2,h3⟩:=hok;refine⟨a',cap,h1,h2,fun hn=>?_⟩;obtain⟨b,off,hab,hB,hx⟩:=h3 hn;refine⟨b,off,hab,hB,fun i j hi hj=>?_⟩;obtain⟨u,hu,hux⟩:=hx i j hi hj;exact⟨u,(xj (w:=w) (hw b (hkpn b hB))).trans hu,hatm hux⟩
 |fext c=>exact⟨hrow hok.1 (jaW B.sub hok.2),hok.2⟩
 |xrow ty X =>
  obtain⟨us,hr,hi,hk⟩:=hok;refine⟨us,jco hr fun k h1=>hw k (hall k (hk k h1)),fun i j h1 h2=>?_,hk⟩;obtain⟨u,hu,hux⟩:=hi i j h1 h2;refine⟨u,hu,?_⟩;cases hc:X.cell i j with
  |d x=>rw[hc]at hux;exact hux
  |r c=>rw[hc]at hux;exact⟨hrow hux.1 (jaW B.sub hux.2),hux.2⟩
 |trow ty ts X m =>
  obtain⟨us,hr,hi,hd,hk⟩:=hok;refine⟨us,jco hr fun k h1=>hw k (hall k (hk k h1)),fun i j h1 h2=>?_,hd,hk⟩;obtain⟨u,hu,hux,hua⟩:=hi i j h1 h2;refine⟨u,hu,fun h3=>jcd (hux h3) fun k hk'=>hw k fun e=>?_,fun h3=>hatm (hua h3)⟩;have:=jcp (hux h3) hk';rw[e,hg]at this;apply hb;rcases hr.2 with ⟨_,hn⟩|⟨q,cap,cur,q1,_⟩
  ·omega
  ·rw[q1]at this ⊢;simp only[base,zj]at this;simp[O.blk,zU,this]
 |mrow ty ts X ho =>
  obtain⟨us,hr,hi,hd,hk⟩:=hok;refine⟨us,jco hr fun k h1=>hw k (hall k (hk k h1)),fun i j h1 h2 h3=>?_,hd,hk⟩;obtain⟨u,hu,hux⟩:=hi i j h1 h2 h3;refine⟨u,hu,jcd hux fun k hk'=>hw k fun e=>?_⟩;have:=jcp hux hk';rw[e,hg]at this;apply hb;rcases hr.2 with ⟨_,hn⟩|⟨q,cap,cur,q1,_⟩
  ·omega
  ·rw[q1]at this ⊢;simp only[base,zj]at this;simp[O.blk,zU,this]
def jxO {r e j k:Nat}:find (jmK r e j hp) k=(find hp k).map fun o=>match o with
 | .view _ _ _=>.dead
 | .sub r2 i2 e2 j2 t2 c2=>match zF r2 r,zF e2 e,zF j2 j with|true,true,false=>.sub r2 i2 e2 j2 t2 c2|_,_,_=>.dead
 |o=>o:=by
 induction hp with
 |nil=>rfl
 |cons x l ih =>
  obtain⟨q,o⟩:=x;simp only[jmK,zL,find]at *;split
  ·rfl
  ·exact ih
def jt7 {o:qu} {t h i j r i0 e0 j0 t0 ty:Nat} {ts:List Nat} {x y:zZ} {u:W} {c c':Cont} {ds:List D} {X:XC} {k:NK} (hh:HRel I B hp nx w) (hr:jaB I nx rd a) (hop:o.op=.store t x y)
  (hx:rd x=some (.w (.c (.p h i c.e j)))) (hy:rd y=some (.w u)) (hone:u.one hp=true) (hs:szT P t=some u.cells.length) (hall:(u.cells.all fun c=>c.one hp)=true)
  (hf:find hp h=some (.sub r i0 e0 j0 t0 c)) (hds:jbh u.cells=some ds) (hupd:jpp c c' i j ds) (he0:0<c.e) (hi:i<c.n) (hfr:find hp r=some (.mrow ty ts X none)) (he:e0=X.e) (hk:X.sh[j0]?=some k) (hnk:jbL k (.r c')=true) (htt:ts.getD j0 0=t0) :
  jaD P I B nx a w o ⟨i<c.n,vu,(r,.mrow ty ts (X.put i0 (X.row i0 j0 (.r c'))) none)::(h,.sub r i0 e0 j0 t0 c')::jmK r e0 j0 hp,nx⟩ false:=by
 subst he;have h1:=hr _ _ hx;have h2:=hr _ _ hy;obtain⟨hlt,hol,⟨hlen1,hcase1⟩,hj0,⟨a0,n0,cap0,hIr,hi0⟩,hcell,htag⟩:=hh.ok h _ hf;obtain⟨hltr,_,us,⟨hlen,hcase⟩,hat,hd,hBk⟩:=hh.ok r _ hfr;rcases hcase1 with ⟨_,hn⟩|⟨g1,cap1,cur1,hk1,_,hheap1,hncap1,hcapm1,hcs1,htk1⟩
 ·omega
 rcases hcase with ⟨hI,hn⟩|⟨g,cap,cur,hkr,_,hheap,hncap,hcapm,hcsz,htk⟩
 ·rw[hI]at hIr;cases hIr;omega
 have hi0':i0<X.n:=by rw[hkr]at hIr;cases hIr;exact hi0
 have hbase:base (I r)=⟨g,0,none⟩:=by rw[hkr];rfl
 rw[hbase]at hat htag hcell;have hmu1:B.mu g1=some g:=htag g1 (by rw[hk1];rfl);have hBg:¬B.all g:=hBk g (by rw[hkr];rfl);have hgg:g≠g1:=fun e=>hBg (.inr (by rw[e,hmu1];simp))
 have hus:∀i' j',i'<X.n->j'<X.e->us[i' * X.e+j']?=w.cell? ⟨g,i' * X.e+j',none⟩:=fun i' j' hi' hj'=>by
  rw[xP w g _ cur ty (0,0) hheap]
  have hin:i' * X.e+j'<X.n*X.e:=by
   have:(i' + 1)*X.e<=X.n*X.e:=qb _ hi';rw[qE]at this;omega
  rw[<-htk,qg,if_pos hin];simp
 have hus0:us[i0*X.e+j0]?=some (I h):=by rw[hus i0 j0 hi0' hj0];simpa using hcell
 obtain⟨hn',hee,hle,_⟩:=id hupd;have hc:=W.cells_val hh hone;have hdse:=jbS hds;have hul:u.cells.length=ds.length:=by rw[hdse];simp
 have hvs:(u.val I).cells.size=u.cells.length:=by rw[hc];simp
 have hin:i*c.e+j+ds.length<=c.n*c.e:=by
  have:(i+1)*c.e<=c.n*c.e:=qb _ hi;rw[qE]at this;omega
 have hcapsz:c.n*c.e<=cap1*c.e:=qb _ hncap1;have hst:=jbM (P:=P) (t:=t) (g:=g1) (off:=i*c.e+j) (v:=u.val I) (by rw[hvs];exact hs) hheap1 (by rw[hvs,hul,hcs1];omega) (by rw[hc];exact jcK hh hall);obtain⟨w',hw'⟩:∃w',w'=w.setRow g1 ((cur1.toList.take (i*c.e+j)++(u.val I).cells.toList++cur1.toList.drop (i*c.e+j+(u.val I).cells.size)).toArray):=⟨_,rfl⟩
 rw[<-hw']at hst;have hoth:∀k,k≠g1->w'.heap[k]?=w.heap[k]?:=fun k hne=>by rw[hw'];exact yC w g1 k _ hne
 refine jcn (I':=I) (w':=w') ?_ rfl ?_
 ·unfold xg;have h1v:a.eval x=.pointer (some ⟨g1,i*c.e+j,none⟩):=by rw[h1.2];simp[C.val,hk1,base]
  have h2v:a.eval y=u.val I:=h2.2;simp only[hop,h1v,h2v,ja,xh,zq,zt,zn,hst]
 ·have hkp1:¬B.kp g1:=fun h=>by rw[B.dis g1 h]at hmu1;cases hmu1
  have hbel:Bel B w w':=by
   rw[hw'];exact⟨rfl,rfl,rfl,by simp,fun k hk=>yC w g1 k _ (fun e=>hkp1 (e ▸ hk))⟩
  refine⟨jah.refl _ _,trivial,zp _,HRel.gr ?_,hbel,(fun h=>by cases h),fun h=>by cases h⟩
  have hownN:w'.ownsRow 0 t0 c'.e (I h) c'.n (c'.flat.map D.val):=by
   refine⟨by simp[Cont.flat_length],.inr ⟨g1,cap1,_,by rw[hn'];exact hk1,xE _,by rw[hw'];exact jh w g1 _ _ t0 (0,0) hheap1,by rw[hn'];exact hncap1,hcapm1,?_,?_⟩⟩
   ·simp only[xJ,qc,xn,xy,yr,hvs,hul,hee];omega
   ·have hcur:cur1.toList=c.flat.map D.val++cur1.toList.drop (c.n*c.e):=by rw[<-htk1];exact(xQ _ _).symm
    have hvl:(u.val I).cells.toList=ds.map D.val:=by rw[hc,hdse];simp[xS,C.val]
    rw[hvs,hul,hvl,hcur];exact jtR hupd hi he0 _
  have hrow:=X.row_spec (i:=i0) hk hnk;have hput:=X.cell_put hrow.1 hi0'
  have hcellN:∀i' j',j'<X.e->(X.put i0 (X.row i0 j0 (.r c'))).cell i' j'=if i'=i0∧j'=j0 then .r c' else X.cell i' j':=fun i' j' hj'=>by
   rw[hput.2.2.2 i' j' hj']
   by_cases e:i'=i0
   ·subst e;rw[if_pos rfl,hrow.2 j' hj']
    by_cases e2:j'=j0
    ·subst e2;rw[if_pos rfl,if_pos ⟨rfl,rfl⟩]
    ·rw[if_neg e2,if_neg (fun h=>e2 h.2)]
   ·rw[if_neg e,if_neg (fun h=>e h.1)]
  have hfk:∀k o1,find ((r,O.mrow ty ts (X.put i0 (X.row i0 j0 (.r c'))) none)::(h,.sub r i0 X.e j0 t0 c')::jmK r X.e j0 hp) k=some o1 ->
    (k=r∧o1=.mrow ty ts (X.put i0 (X.row i0 j0 (.r c'))) none)∨(k≠r∧k=h∧o1=.sub r i0 X.e j0 t0 c')∨(k≠r∧k≠h∧∃o2,find hp k=some o2∧((o1=.dead)∨(o1=o2∧o2.isV=false)∨∃i2 j2 t2 c2,o1=.sub r i2 X.e j2 t2 c2∧o2=o1∧j2≠j0)):=by
   intro k o1 hk1;simp only[find]at hk1;split at hk1
   ·rename_i e;cases hk1;exact .inl ⟨e.symm,rfl⟩
   ·rename_i e;split at hk1
    ·rename_i e2;cases hk1;exact .inr (.inl ⟨fun x=>e x.symm,e2.symm,rfl⟩)
    ·rename_i e2;rw[jxO]at hk1;obtain⟨o2,h3,h4⟩:=z4.1 hk1;refine .inr (.inr ⟨fun x=>e x.symm,fun x=>e2 x.symm,o2,h3,?_⟩);cases o2 with
     |view=>exact .inl h4.symm
     |sub r2 i2 e2 j2 t2 c2 =>
      simp only at h4;split at h4
      ·rename_i q1 q2 q3;have q1:=zi q1;have q2:=zi q2;subst q1;subst q2;refine .inr (.inr ⟨i2,j2,t2,c2,h4.symm,h4,fun e=>?_⟩);subst e;rw[show zF j2 j2=true from Nat.beq_refl j2]at q3;cases q3
      ·exact .inl h4.symm
     |_=>exact .inr (.inl ⟨h4.symm,rfl⟩)
  refine⟨fun k1 o1 hk1'=>?_,fun k1 o1 k2 o2 b hk1' hk2' hne hb1 hb2=>?_,jj7 (g:=g1) (fun k _ hne=>hoth k hne) hkp1 hh.glob⟩
  ·rcases hfk k1 o1 hk1' with ⟨rfl,rfl⟩|⟨_,rfl,rfl⟩|⟨hne1,hne2,o2,h3,h4⟩
   ·refine⟨hltr,trivial,us,?_,fun i' j' hi' hj' _=>?_,?_,hBk⟩
    ·rw[hput.1,hput.2.1]
     exact jco ⟨hlen,.inr ⟨g,cap,cur,hkr,xE _,hheap,hncap,hcapm,hcsz,htk⟩⟩ fun k hk'=>by
      rw[hkr]at hk';simp only[zU,zj]at hk';subst hk';exact hoth g hgg
    ·rw[hput.1]at hi';rw[hput.2.1]at hj' ⊢;rw[hcellN i' j' hj',hbase]
     by_cases e:i'=i0∧j'=j0
     ·obtain⟨rfl,rfl⟩:=e;rw[if_pos ⟨rfl,rfl⟩];exact⟨I h,hus0,by rw[htt];exact hownN,htag⟩
     ·rw[if_neg e];obtain⟨v,hv,hvx⟩:=hat i' j' hi' hj' (by simp);refine⟨v,hv,jcd hvx fun k hk'=>hoth k fun e2=>?_⟩;subst e2;exact hd i' j' i0 j0 v (I h) k hi' hj' hi0' hj0 (fun e3=>e (by cases e3;exact⟨rfl,rfl⟩)) (by simp) (by simp) hv hus0 hk' (by rw[hk1];rfl)
    ·rw[hput.1,hput.2.1];exact hd
   ·refine⟨hlt,hltr,hownN,hj0,⟨a0,n0,cap0,hIr,hi0⟩,?_,by rw[hbase];exact htag⟩;rw[hbase];exact(xj (w:=w) (hoth g hgg)).trans hcell
   ·have hok2:=hh.ok k1 o2 h3;rcases h4 with rfl|⟨rfl,hv⟩|⟨i2,j2,t2,c2,rfl,rfl,hj2⟩
    ·exact⟨hok2.1,trivial,trivial⟩
    ·refine⟨hok2.1,hok2.2.1,O.ok_in hoth hmu1 hok2.2.2 (fun e=>?_) hv⟩;exact hh.apart r _ k1 o1 g hfr h3 (fun e=>hne1 e.symm) (by simp[O.blk,hkr,zU]) e
    ·obtain⟨q1,q2,q3,q4,q5⟩:=hok2.2.2;rw[hbase]at q4 q5
     have hi2:i2<X.n:=by
      obtain⟨a2,n2,cap2,q6,q7⟩:=q3;rw[hkr]at q6;cases q6;exact q7
     have hus2:us[i2*X.e+j2]?=some (I k1):=by rw[hus i2 j2 hi2 q2];simpa using q4
     refine⟨hok2.1,hok2.2.1,jco q1 fun k hk'=>hoth k fun e=>?_,q2,q3,?_,by rw[hbase];exact q5⟩
     ·subst e;exact hd i2 j2 i0 j0 (I k1) (I h) k hi2 q2 hi0' hj0 (fun e3=>hj2 (by cases e3;rfl)) (by simp) (by simp) hus2 hus0 hk' (by rw[hk1];rfl)
     ·rw[hbase];exact(xj (w:=w) (hoth g hgg)).trans q4
  ·have hbk:∀k o1 b,find ((r,O.mrow ty ts (X.put i0 (X.row i0 j0 (.r c'))) none)::(h,.sub r i0 X.e j0 t0 c')::jmK r X.e j0 hp) k=some o1->o1.blk (I k)=some b->∃o2,find hp k=some o2∧o2.blk (I k)=some b:=by
    intro k o1 b hk hb;rcases hfk k o1 hk with ⟨rfl,rfl⟩|⟨_,rfl,rfl⟩|⟨hne1,hne2,o2,h3,h4⟩
    ·exact⟨_,hfr,hb⟩
    ·cases hb
    ·rcases h4 with rfl|⟨rfl,_⟩|⟨_,_,_,_,rfl,rfl,_⟩
     ·cases hb
     ·exact⟨_,h3,hb⟩
     ·cases hb
   obtain⟨p1,h3,h4⟩:=hbk k1 o1 b hk1' hb1;obtain⟨p2,h5,h6⟩:=hbk k2 o2 b hk2' hb2;exact hh.apart k1 p1 k2 p2 b h3 h5 hne h4 h6
end
end Go.Sx
end

section
open Go.RowKit
namespace Go.Sx
section
variable [Globs] {P:zP} {I:Env} {B:Kd} {nx:Nat} {hp:Hp} {w:zr} {rd:zZ->Option V} {a:Act} {sp:jab}
def jwX {X:XC} {ty:Nat} {ts:List Nat} {us:List zs} (hB:Old B w) (hm:X.n<=9223372036854775807) (hl:us.length=X.n*X.e)
  (hat:∀i j,i<X.n->j<X.e->∃u,us[i*X.e+j]?=some u∧(X.cell i j).own B w w.heap.size (ts.getD j 0) u)
  (hd:∀i j i' j' u v k,i<X.n->j<X.e->i'<X.n->j'<X.e->(i,j)≠(i',j')->us[i*X.e+j]?=some u->us[i' * X.e+j']?=some v->u.ownBlock=some k->v.ownBlock≠some k) :
  (O.mrow ty ts X none).ok (upd I nx (.slice (some ⟨w.heap.size,0,none⟩) X.n X.n)) B (w.alloc (.cells us.toArray ty)) nx:=by
 have hbel:yn w.heap.size w (w.alloc (.cells us.toArray ty)):=(xM _ w).alloc (zp _) _;refine⟨us,⟨by omega,.inr ⟨w.heap.size,X.n,_,by simp,xE _,jd w _,zp _,by simpa [g8]using hm,by simp[hl],?_⟩⟩,fun i j hi hj _=>?_,fun i j i' j' u v k h1 h2 h3 h4 h5 _ _=>hd i j i' j' u v k h1 h2 h3 h4 h5,fun k hk hc=>?_⟩
 ·rw[<-hl];exact xW (by simp)
 ·obtain⟨u,hu,hux⟩:=hat i j hi hj;rw[upd_same];refine⟨u,hu,jcd hux fun k hk=>hbel.block k ?_⟩;have:=jcp hux hk;exact hB k (.inr (by rw[this];simp))
 ·simp[zU]at hk;have:=hB k hc;omega
def jv2 {o:qu} {t elem e b:Nat} {ts:List Nat} {x y:zZ} {k k':IntKind} {n m:Int} {u u':V} {z:List C} {X0:XC} {r:List NC} {hs:List Nat} (hh:HRel I B hp nx w) (hB:Old B w) (hr:jaB I nx rd a) (ho:o.op=.makeSlice t x y)
  (hu:P.underlying t=some (.slice elem)) (hx:rd x=some u) (hx':u.int?=some (k,n)) (hy:rd y=some u') (hy':u'.int?=some (k',m))
  (hz:jaA P elem=some z) (hsz:szT P elem=some (e+1)) (hb:jaU P elem=some b) (hzl:z.length=e+1) (hc:jaO [] X0.sh ts z=some (r,hs))
  (hob:0<=n∧n=m∧(b:Int)*n<=281474976710656∧n<=9223372036854775807) :
  jaD P I B nx a w o ⟨0<=n∧n=m∧(b:Int)*n<=281474976710656∧n<=9223372036854775807,.w (.c (.o nx)),(nx,.mrow elem ts (X0.rep n.toNat r) none)::hp,nx+1⟩ true:=by
 obtain⟨h0,rfl,h2,h3⟩:=hob;have h1:=hr _ _ hx;have h1':=hr _ _ hy;rw[V.int?_eq hx']at h1;rw[V.int?_eq hy']at h1';have hh0:HRel I B [] nx w:=hh.sub fun _ _ h=>by cases h
 obtain⟨c1,c2,c3,c4,_,c6⟩:=jc4 hh0 hc
 have hno:∀q∈hs,False:=fun q hq=>by
  obtain⟨_,_,hf⟩:=(c3 q hq).2;cases hf
 have hown:=c6 B w.heap.size (fun q hq=>(hno q hq).elim)
 have hblk:∀(j:Nat) (c:C) (q:Nat),z[j]?=some c->(c.val I).ownBlock≠some q:=fun j c q hj hq=>by
  obtain⟨h,hm,_⟩:=c4 j c q hj hq;exact hno h hm
 have hmk:=X0.cell_mk (rs:=zh n.toNat r) (fun x hx=>by rw[xN hx];exact c1);rw[<-XC.rep_mk]at hmk;simp only[yc]at hmk;have hXe:X0.e=e+1:=by rw[<-X0.sh_len,<-c2,hzl]
 cases hi:P.info? elem with
 |none=>simp[szT,hi]at hsz
 |some i =>
  have hsz':i.size=e+1:=by simpa [szT,hi]using hsz
  have hby:i.bytes=b:=by simpa [jaU,hi]using hb
  cases hzz:i.zero with
  |none=>simp[jaA,hi,hzz]at hz
  |some zv =>
   obtain⟨v,hv,hvc,_⟩:=jaX (P:=P) (w:=w) (I:=I) hz
   have hvz:v=zv:=by
    simp[yH,yX,hi,hzz]at hv;exact hv.symm
   subst hvz;have hm:=run_make (P:=P) w t elem i v hu hi hzz k k' n n h0 (yN _) (by rw[hby];exact h2) h3
   have hcells:jT v.cells (n.toNat*i.size)=((zh n.toNat (z.map (C.val I))).flatten).toArray:=by
    apply xf;have:=jf6 v.cells n.toNat;have hvs:v.cells.size=e+1:=by rw[hvc];simp[hzl]
    rw[hvs]at this;rw[hsz',this,hvc]
   rw[hcells]at hm
   have hlen:((zh n.toNat (z.map (C.val I))).flatten).length=(X0.rep n.toNat r).n*(X0.rep n.toNat r).e:=by
    rw[hmk.1,hmk.2.1,hXe,jnu];simp[hzl]
   have hget:∀i j,i<n.toNat->j<e+1->((zh n.toNat (z.map (C.val I))).flatten)[i*(e+1)+j]?=(z[j]?).map (C.val I):=fun i j hi hj=>by
    have:=jfo (e:=e+1) (l:=zh n.toNat (z.map (C.val I))) (fun x hx=>by rw[xN hx];simp[hzl]) (i:=i) (j:=j) hj;rw[this];simp[hi]
   have hok:=jwX (I:=I) (nx:=nx) (ty:=elem) (ts:=ts) (X:=X0.rep n.toNat r) hB (show(X0.rep n.toNat r).n<=_ by rw[hmk.1];omega) hlen (fun i j hi hj=>by
    rw[hmk.1]at hi;rw[hmk.2.1]at hj ⊢;rw[hmk.2.2 i j hi hj];have hz':j<z.length:=by omega
    have hr':j<r.length:=by rw[c1.1,X0.sh_len];exact hj
    refine⟨(z[j]).val I,?_,?_⟩
    ·rw[hXe,hget i j hi (by omega)];simp[hz']
    ·have:((zh n.toNat r).getD i []).getD j (.d (.v zJ))=r[j]:=by simp[zb,hi,hr']
     rw[this];exact hown j r[j] z[j] (by simp) (by simp)) (fun i j i' j' u v k hi hj hi' hj' _ hu1 hv1 hk=>by
    rw[hmk.1]at hi;rw[hmk.2.1]at hj hu1;rw[hXe]at hj hu1;rw[hget i j hi hj]at hu1;obtain⟨c,hc1,rfl⟩:=z4.1 hu1;exact absurd hk (hblk j c k hc1))
   rw[hmk.1]at hok
   refine jap (I':=upd I nx (.slice (some ⟨w.heap.size,0,none⟩) n.toNat n.toNat)) (w':=w.alloc (.cells ((zh n.toNat (z.map (C.val I))).flatten).toArray elem)) ?_
    (jbm hh hB _ _ _ (.mrow elem ts (X0.rep n.toNat r) none) rfl rfl (show V.lt (nx+1) (.w (.c (.o nx)))from zo nx) true trivial hok (by simp[O.blk,zU]))
   unfold xg;simp only[ho,h1.2,h1'.2,vi_val,zq,hm,zn,zt];simp[V.val,W.val,C.val]
def jj8 (hh:HRel I B hp nx w) {sh:List NK} {ts:List Nat}:∀{l:List (Nat × W)} {n:Nat} {rs:List (List NC)} {hs:List Nat},jeI hp sh ts n l=some (rs,hs) -> rs.length=l.length∧(∀r∈rs,jcP sh r)∧(∀(i:Nat) (p:Nat × W),l[i]?=some p->p.1=n+i∧p.2.cells.length=sh.length)∧(∀h∈hs,∃t' c',find hp h=some (.row t' c')) ∧ (∀(i j:Nat) (p:Nat × W) (c:C) (q:Nat),l[i]?=some p->p.2.cells[j]?=some c->(c.val I).ownBlock=some q->∃h∈hs,c=.o h) ∧ (hs.Nodup->∀(i j i' j':Nat) (p p':Nat × W) (h:Nat),l[i]?=some p->l[i']?=some p'->p.2.cells[j]?=some (.o h)->p'.2.cells[j']?=some (.o h)->h∈hs->i=i'∧j=j') ∧ (∀(i j:Nat) (p:Nat × W) (h:Nat),l[i]?=some p->p.2.cells[j]?=some (.o h)->h∈hs) ∧
  ∀(B':Kd) (go:Nat),(∀q∈hs,∀b,(I q).ownBlock=some b->B'.mu b=some go) -> ∀(i j:Nat) (r:List NC) (p:Nat × W) (x:NC) (c:C),rs[i]?=some r->l[i]?=some p->r[j]?=some x->p.2.cells[j]?=some c->x.own B' w go (ts.getD j 0) (c.val I)
 |[],n,rs,hs,h=>by
  simp only[jeI,zj,qp]at h;obtain⟨rfl,rfl⟩:=h;exact⟨rfl,(fun _ h=>by cases h),(fun _ _ h=>by simp at h),(fun _ h=>by cases h),(fun i j p c q h=>by simp at h),(fun _ i j i' j' p p' h hi=>by simp at hi),(fun i j p h hi=>by simp at hi),fun _ _ _ i j r p x c h=>by simp at h⟩
 |(i,u)::l,n,rs,hs,h=>by
  simp only[jeI]at h;split at h
  ·rename_i x g rest gs hin hx hl;simp only[zj,qp]at h;obtain⟨rfl,rfl⟩:=h;have hin:=zi hin;subst hin;obtain⟨a1,a2,a3,a4,a5,a6⟩:=jc4 hh hx;obtain⟨b1,b2,b3,b4,b5,b6,b7,b8⟩:=jj8 hh hl
   have a7:∀(j h:Nat),u.cells[j]?=some (.o h)->h∈g:=by
    have:∀{sh:List NK} {ts:List Nat} {cs:List C} {r:List NC} {hs:List Nat},jaO hp sh ts cs=some (r,hs)->∀(j q:Nat),cs[j]?=some (.o q)->q∈hs:=by
     intro sh
     induction sh with
     |nil=>intro ts cs r hs h j q hj;cases cs with
      |nil=>simp at hj
      |cons=>simp[jaO]at h
     |cons k sh ih =>
      intro ts cs r hs h j q hj;cases cs with
      |nil=>simp at hj
      |cons c cs =>
       simp only[jaO]at h;split at h
       ·rename_i x g l gs hx hl;simp only[zj,qp]at h;obtain⟨rfl,rfl⟩:=h;cases j with
        |zero =>
         simp at hj;subst hj;rw[jk2 hx];simp
        |succ j =>
         have:=ih hl j q (by simpa using hj);cases g with
         |none=>exact this
         |some y=>exact zu _ this
       ·cases h
    exact this hx
   refine⟨by simp[b1],fun r hr=>?_,fun j p hj=>?_,fun h hm=>?_,fun i' j p c q hi hj hq=>?_,fun hnd i1 j1 i2 j2 p p' h h1 h2 h3 h4 hm=>?_,fun i' j p h hi hj=>?_,fun B' go htag i' j r p y c h1 h2 h3 h4=>?_⟩
   ·rcases qr.1 hr with rfl|hr
    ·exact a1
    ·exact b2 r hr
   ·cases j with
    |zero=>simp at hj;subst hj;exact⟨rfl,a2⟩
    |succ j=>have:=b3 j p (by simpa using hj);exact⟨by omega,this.2⟩
   ·rcases qR.1 hm with hm|hm
    ·exact(a3 h hm).2
    ·exact b4 h hm
   ·cases i' with
    |zero =>
     simp at hi;subst hi;obtain⟨h,hm,e⟩:=a4 j c q hj hq;exact⟨h,yF _ hm,e⟩
    |succ i' =>
     obtain⟨h,hm,e⟩:=b5 i' j p c q (by simpa using hi) hj hq;exact⟨h,yz _ hm,e⟩
   ·have hnd':=List.nodup_append.1 hnd;cases i1 with
    |zero =>
     simp at h1;subst h1;have m1:=a7 j1 h h3;cases i2 with
     |zero =>
      simp at h2;subst h2;exact⟨rfl,a5 hnd'.1 j1 j2 h h3 h4 m1⟩
     |succ i2 =>
      have m2:=b7 i2 j2 p' h (by simpa using h2) h4;exact absurd rfl (hnd'.2.2 h m1 h m2)
    |succ i1 =>
     have m1:=b7 i1 j1 p h (by simpa using h1) h3;cases i2 with
     |zero =>
      simp at h2;subst h2;have m2:=a7 j2 h h4;exact absurd rfl (hnd'.2.2 h m2 h m1)
     |succ i2 =>
      obtain⟨e1,e2⟩:=b6 hnd'.2.1 i1 j1 i2 j2 p p' h (by simpa using h1) (by simpa using h2) h3 h4 m1;exact⟨by omega,e2⟩
   ·cases i' with
    |zero=>simp at hi;subst hi;exact yF _ (a7 j h hj)
    |succ i'=>exact yz _ (b7 i' j p h (by simpa using hi) hj)
   ·cases i' with
    |zero =>
     simp at h1 h2;subst h1;subst h2;exact a6 B' go (fun q hq=>htag q (yF _ hq)) j y c h3 h4
    |succ i'=>exact b8 B' go (fun q hq=>htag q (yz _ hq)) i' j r p y c (by simpa using h1) (by simpa using h2) h3 h4
  ·cases h
def jt8 {o:qu} {t n elem e:Nat} {ts:List Nat} {parts:Array (Nat × zZ)} {l:List (Nat × W)} {z:List C} {X0:XC} {rs:List (List NC)} {hs:List Nat} (hh:HRel I B hp nx w) (hB:Old B w) (hr:jaB I nx rd a) (ho:o.op=.buildSlice t n parts)
  (hu:P.underlying t=some (.slice elem)) (hl:jcB rd hp parts.toList=some l) (hz:jaA P elem=some z) (hsz:szT P elem=some (e+1)) (hzl:z.length=e+1) (hXe:X0.sh.length=e+1) (hn:l.length=n) (hle:n*(e+1)<=4096)
  (hc:jeI hp X0.sh ts 0 l=some (rs,hs)) (hnd:jfm hs=true) :
  jaD P I B nx a w o ⟨True,.w (.c (.o nx)),(nx,.mrow elem ts (X0.mk rs) none)::jdf hp hs,nx+1⟩ false:=by
 have hps:=jdG hr parts.toList l hl;obtain⟨c1,c2,c3,c4,c5,c6,c7,c8⟩:=jj8 hh hc;have c6:=c6 (jhR hnd);obtain⟨B',g,hlm,hh',htag,hallB,hkp⟩:=jxN hh c4 w.heap.size;have hown:=c8 B' w.heap.size htag;have hmk:=X0.cell_mk c2;have he:X0.e=e+1:=by rw[<-X0.sh_len,hXe]
 have hfill:=jof (e:=e+1) l 0 [] (zh n z).flatten (by simp) (by simp[hn,hzl]) (fun i p hi=>by have:=c3 i p hi;rw[hXe]at this;exact this);rw[qS,qS]at hfill;have hrun:=jiu (I:=I) hh hz hsz hzl hle hfill hps.2 t hu;have hB':=g.old hB;have hfl:(l.flatMap fun p=>p.2.cells)=(l.map fun p=>p.2.cells).flatten:=by rw[f0]
 have hget:∀i j,j<e+1->((l.flatMap fun p=>p.2.cells).map (C.val I))[i*(e+1)+j]?=(l[i]?).bind fun p=>(p.2.cells[j]?).map (C.val I):=fun i j hj=>by
  rw[zR,hfl]
  have:=jfo (e:=e+1) (l:=l.map fun p=>p.2.cells) (fun x hx=>by
   obtain⟨p,hp,rfl⟩:=qn.1 hx;obtain⟨q,hq,rfl⟩:=xF hp;have:=(c3 q l[q] (by simp[hq])).2;omega) (i:=i) (j:=j) hj
  rw[this];cases hi:l[i]? with
  |none=>simp[hi]
  |some p=>simp[hi]
 have hok:=jwX (I:=I) (nx:=nx) (ty:=elem) (ts:=ts) (X:=X0.mk rs) (us:=(l.flatMap fun p=>p.2.cells).map (C.val I)) hB' (by rw[hmk.1,c1,hn];have:=xb (jU n (jj e)) hle;omega) (by
   rw[hmk.1,hmk.2.1,he,c1];simp only[qh,fE]
   have:(l.map fun p=>p.2.cells.length)=zh l.length (e+1):=by
    apply xA;intro i;rw[zR];cases hi:l[i]? with
    |none=>rw[z7 (by simpa using hi)];rfl
    |some p =>
     have:=(c3 i p hi).2;have hlt:=(zC.1 hi).1;simp[hlt,this,hXe]
   rw[this];simp) (fun i j hi hj=>by
   rw[hmk.1]at hi;rw[hmk.2.1]at hj ⊢;rw[hmk.2.2 i j hi hj];have hil:i<l.length:=by omega
   have hp:=c3 i l[i] (by simp[hil]);have hjc:j<(l[i]).2.cells.length:=by omega
   have hrr:=c2 rs[i] (zW hi);have hjr:j<(rs[i]).length:=by rw[hrr.1,X0.sh_len];exact hj
   refine⟨((l[i]).2.cells[j]).val I,?_,?_⟩
   ·rw[he,hget i j (by omega)];simp[hil,hjc]
   ·have e2:(rs.getD i []).getD j (.d (.v zJ))=(rs[i])[j]:=by simp[zb,hi,hjr]
    rw[e2];exact hown i j rs[i] l[i] (rs[i])[j] ((l[i]).2.cells[j]) (by simp[hi]) (by simp[hil]) (by simp[hjr]) (by simp[hjc])) (fun i j i' j' u v k hi hj hi' hj' hne hu1 hv1 hk hk2=>by
   rw[hmk.2.1,he]at hj hj' hu1 hv1;rw[hget i j hj]at hu1;rw[hget i' j' hj']at hv1;obtain⟨p,hp1,hp2⟩:=zK.1 hu1;obtain⟨p',hp1',hp2'⟩:=zK.1 hv1;obtain⟨c,hc1,rfl⟩:=z4.1 hp2;obtain⟨c',hc1',rfl⟩:=z4.1 hp2';obtain⟨q1,hq1,rfl⟩:=c5 i j p c k hp1 hc1 hk;obtain⟨q2,hq2,rfl⟩:=c5 i' j' p' c' k hp1' hc1' hk2
   by_cases e0:q1=q2
   ·subst e0;obtain⟨e1,e2⟩:=c6 i j i' j' p p' q1 hp1 hp1' hc1 hc1' hq1;exact hne (by rw[e1,e2])
   ·obtain⟨t1,d1,h3⟩:=c4 q1 hq1;obtain⟨t2,d2,h4⟩:=c4 q2 hq2;exact jpt hh h3 h4 e0 hk hk2)
 rw[hmk.1,c1,hn]at hok;have hla:=jbm (r:=⟨True,.w (.c (.o nx)),(nx,.mrow elem ts (X0.mk rs) none)::jdf hp hs,nx+1⟩) hh' hB' (.slice (some ⟨w.heap.size,0,none⟩) n n) ((l.flatMap fun p=>p.2.cells).map (C.val I)).toArray elem (.mrow elem ts (X0.mk rs) none) rfl rfl (show V.lt (nx+1) (.w (.c (.o nx)))from zo nx) false trivial hok (by simp[O.blk,zU]);refine jap (I':=upd I nx (.slice (some ⟨w.heap.size,0,none⟩) n n)) (w':=w.alloc (.cells ((l.flatMap fun p=>p.2.cells).map (C.val I)).toArray elem)) ?_ ⟨hla.agree,hla.lt,hla.le,?_,hla.below.mono g.le.kp,hla.mono,hla.fresh⟩
 ·unfold xg
  have he2:(parts.map fun(i,x)=>(i,a.eval x))=(l.map fun x=>(x.1,x.2.val I)).toArray:=by
   rw[<-hps.1];apply xf;simp
  simp only[ho,he2,zq,hrun,zn,zt];simp[V.val,W.val,C.val]
 ·obtain⟨B2,g2,h2⟩:=hla.heap;exact⟨B2,g.weak.trans g2.weak (zp _) hla.below.size,h2⟩
def O.ok_retag {h:Nat} {B B':Kd} (hkp:∀k,B.kp k<->B'.kp k) (hfr:∀k,B.fr k<->B'.fr k) (hall:∀k,B'.all k->B.all k) {o:O} (hok:o.ok I B w h) (hv:o.isV=false) (hm:∀k,B.mu k=some (base (I h)).block->(∃g,(I h).ownBlock=some g)->o.isM=true->B'.mu k=some (base (I h)).block):o.ok I B' w h:=by
 have hout:∀k,¬B.all k->¬B'.all k:=fun k h h'=>h (hall k h');cases o with
 |view=>cases hv
 |sub=>cases hv
 |dead=>trivial
 |nan=>exact hok
 |err=>exact hok
 |atom=>exact hok
 |box ty cs=>obtain⟨k,h1,h2,h3⟩:=hok;exact⟨k,h1,hout k h2,h3⟩
 |row ty c=>exact⟨hok.1,fun k hk=>hout k (hok.2 k hk)⟩
 |ext c=>exact⟨hok.1,jaW (fun k=>(hkp k).1) hok.2⟩
 |ebox cs=>obtain⟨k,o,h1,h2,h3⟩:=hok;exact⟨k,o,h1,(hkp k).1 h2,h3⟩
 |arr ty e r=>obtain⟨k,h1,h2,h3⟩:=hok;exact⟨k,h1,hout k h2,h3⟩
 |xext X=>exact IsX.mono (fun k=>(hkp k).1) hok
 |fext c=>exact⟨hok.1,jaW (fun k=>(hfr k).1) hok.2⟩
 |xrow ty X =>
  obtain⟨us,h1,h2,h3⟩:=hok;exact⟨us,h1,fun i j hi hj=>let ⟨u,hu,hx⟩:=h2 i j hi hj; ⟨u,hu,NC.at_mono (fun k=>(hfr k).1) hx⟩,fun k hk=>hout k (h3 k hk)⟩
 |mrow ty ts X ho =>
  obtain⟨us,h1,h2,h3,h4⟩:=hok;refine⟨us,h1,fun i j hi hj hn=>?_,h3,fun k hk=>hout k (h4 k hk)⟩;obtain⟨u,hu,hx⟩:=h2 i j hi hj hn;refine⟨u,hu,jeM hx fun k hk hmu=>hm k hmu ?_ rfl⟩;rcases h1.2 with ⟨_,hn⟩|⟨g,cap,cur,q1,_⟩
  ·omega
  ·exact⟨g,by rw[q1];rfl⟩
 |trow ty ts X m =>
  obtain⟨us,h1,h2,h3,h4⟩:=hok;refine⟨us,h1,fun i j hi hj=>?_,h3,fun k hk=>hout k (h4 k hk)⟩;obtain⟨u,hu,hx,ha⟩:=h2 i j hi hj;refine⟨u,hu,fun hq=>jeM (hx hq) fun k hk hmu=>hm k hmu ?_ rfl,fun hq=>NC.at_mono (fun k=>(hkp k).1) (ha hq)⟩;rcases h1.2 with ⟨_,hn⟩|⟨g,cap,cur,q1,_⟩
  ·omega
  ·exact⟨g,by rw[q1];rfl⟩
def jnx {k:Nat} {o:O} (h:find (jaj hp) k=some o):o.isV=false:=by
 rw[jay]at h;obtain⟨o1,_,h2⟩:=z4.1 h;cases o1<;>subst h2<;>rfl
def jk5 {k:Nat} {o:O} (h:find (jaj hp) k=some o):find hp k=some o∨o=.dead:=by
 rw[jay]at h;obtain⟨o1,h1,h2⟩:=z4.1 h;cases o1<;>subst h2<;>first|exact .inl h1|exact .inr rfl
def jsR {o:qu} {t elem e b h r i e0 j t0 ty:Nat} {ts:List Nat} {s x:zZ} {c:Call} {ux:V} {hx:Option Nat} {cx:Option Cont} {z:List D} {c1 c2 c3:Cont} {X:XC} (hh:HRel I B hp nx w) (hB:Old B w) (hr:jaB I nx rd a)
  (ho:o.op=.call c) (hcal:c.callee=.builtin .append) (hargs:c.args=#[s,x]) (hts:c.argTypes=#[t,t]) (hu:P.underlying t=some (.slice elem))
  (hrs:rd s=some (.w (.c (.o h)))) (hf:find hp h=some (.sub r i e0 j t0 c1)) (hfr:find hp r=some (.mrow ty ts X none)) (ht0:t0=elem) (he0:e0=X.e) (hrx:rd x=some ux) (hsx:jbT hp ux=some (hx,cx)) (hz:(jaA P elem).bind jbh=some z) (hsz:szT P elem=some (e+1)) (hby:jaU P elem=some b)
  (h2:jc3 z cx=some c2) (h3:c1.app c2=some c3) (hzl:z.length=e+1) (he1:c1.e=e+1) (hone:∀x∈c2.flat,x.val.oneCell'=true)
  (hob:(c1.n+c2.n)*b<=140737488355328∧c1.n+c2.n<=9223372036854775807) (q:Prop) :
  jaD P I B nx a w o ⟨q,.w (.c (.o nx)),(nx,.row elem c3)::(r,.mrow ty ts X (some (i,j)))::jaj hp,nx+1⟩ false:=by
 subst ht0;subst he0;have happ:=Cont.app_flat h3;have hvs:a.eval s=I h:=(hr _ _ hrs).2;have hvx:=(hr _ _ hrx).2;obtain⟨hlt,hol,hown,hj0,⟨a0,n0,cap0,hIr,hi0⟩,hcell,htag⟩:=hh.ok h _ hf;have hokr:=hh.ok r _ hfr;obtain⟨us,hownr,hat,hd,hBk⟩:=hokr.2.2;cases hi:P.info? t0 with
 |none=>simp[szT,hi]at hsz
 |some inf =>
  have hsz':inf.size=e+1:=by simpa [szT,hi]using hsz
  have hby':inf.bytes=b:=by simpa [jaU,hi]using hby
  cases hzz:inf.zero with
  |none=>simp[jaA,hi,hzz]at hz
  |some zv =>
   cases hzc:jaA P t0 with
   |none=>simp[hzc]at hz
   |some zc =>
    simp only[hzc,zV]at hz;obtain⟨v0,hv0,hvc,_⟩:=jaX (P:=P) (w:=w) (I:=I) hzc
    have hvz:v0=zv:=by
     simp[yH,yX,hi,hzz]at hv0;exact hv0.symm
    subst hvz;have hzce:=jbS hz;have hzs:v0.cells.size=e+1:=by rw[hvc,hzce];simp[hzl]
    have hmk0:∀c,jeh z []=some c->c.n=0∧c.flat=[]:=fun c hc=>by have:=jdH hc;exact⟨this.2.1,this.1⟩
    have hsrc:((ux.val I)=.slice none 0 0∧c2.n=0)∨∃ad cc,(ux.val I)=.slice (some ad) c2.n cc∧∀j u,(c2.flat.map D.val)[j]?=some u->w.cell? (ad.add j)=some u:=by
     rcases jcD hh hsx with ⟨rfl,rfl,hv⟩|⟨k,ob,c,rfl,rfl,hv,hf,hc,hrow⟩
     ·exact .inl ⟨hv,(hmk0 c2 h2).1⟩
     ·simp only[jc3,zj]at h2;subst h2;obtain⟨a',cap,h5,⟨h6,h6'⟩,h7⟩:=hrow
      by_cases hn:0<c.n
      ·obtain⟨bb,off,rfl,hcell⟩:=h7 hn;refine .inr ⟨⟨bb,off,none⟩,cap,by rw[hv,h5],fun j u hj=>?_⟩;rw[zR]at hj;cases hjx:c.flat[j]? with
       |none=>simp[hjx]at hj
       |some x=>simp[hjx]at hj;subst hj;rw[jaT];exact hcell j x hjx
      ·cases a' with
       |some ad =>
        refine .inr ⟨ad,cap,by rw[hv,h5],fun j u hj=>?_⟩;have hc0:c.n=0:=by omega
        have:c.flat=[]:=z5 (by rw[Cont.flat_length,hc0,yd]);rw[this]at hj;simp at hj
       |none =>
        have hcap:cap=0:=h6' rfl;subst hcap;have:c.n=0:=by omega
        exact .inl ⟨by rw[hv,h5,this],this⟩
    obtain⟨v',w',hrun,hown',hgrown,hwhere⟩:=jej (ty:=o.type) hu hi hzz hsz' hby' hzs (v:=I h) (n:=c1.n) (xs:=c1.flat.map D.val) (by rw[<-he1];exact hown) (news:=c2.flat.map D.val) (m:=c2.n) (by simp[Cont.flat_length,happ.2.2.2,he1]) (fun u hu2=>by
     obtain⟨x,hx1,rfl⟩:=qn.1 hu2;exact hone x hx1) hsrc hob.2 hob.1
    have hown3:w'.ownsRow 0 t0 c3.e v' c3.n (c3.flat.map D.val):=by
     rw[happ.1,happ.2.1,happ.2.2.1,he1,xa];exact hown'
    have dec:∀k,Decidable ((I h).ownBlock=some k):=fun k=>jV _
    let B':Kd:=⟨B.kp,B.fr,fun k=>@ite _ ((I h).ownBlock=some k) (dec k) none (B.mu k),B.sub,fun k hk=>by
     show(if(I h).ownBlock=some k then none else B.mu k)=none
     split
     ·rfl
     ·exact B.dis k hk⟩
    have hmu:∀k,B'.mu k=if(I h).ownBlock=some k then none else B.mu k:=fun k=>rfl
    have hall:∀k,B'.all k->B.all k:=fun k hk=>hk.imp id fun hk2=>by
     rw[hmu]at hk2;split at hk2
     ·exact absurd rfl hk2
     ·exact hk2
    have hfree:∀k,(I h).ownBlock=some k->¬B'.all k:=fun k hk hc=>by
     rcases hc with hc|hc
     ·have:=htag k hk;rw[B.dis k hc]at this;cases this
     ·rw[hmu,if_pos hk]at hc;exact hc rfl
    have hn0:i<X.n∧∃g,(I r).ownBlock=some g∧(base (I r)).block=g∧us[i*X.e+j]?=some (I h):=by
     rcases hownr.2 with ⟨hI,hn⟩|⟨g,cap,cur,hkr,_,hheap,hncap,hcapm,hcsz,htk⟩
     ·rw[hI]at hIr;cases hIr;omega
     ·have hiX:i<X.n:=by rw[hkr]at hIr;cases hIr;exact hi0
      refine⟨hiX,g,by rw[hkr];rfl,by rw[hkr];rfl,?_⟩
      have hin:i*X.e+j<X.n*X.e:=by
       have:(i+1)*X.e<=X.n*X.e:=qb _ hiX;rw[qE]at this;omega
      rw[hkr]at hcell;simp only[base,qa]at hcell;rw[xP w g _ cur ty (0,0) hheap]at hcell;rw[<-htk,qg,if_pos hin];simpa using hcell
    obtain⟨hiX,g,hgr,hgb,hus0⟩:=hn0
    have hfm:∀k o1,find ((r,O.mrow ty ts X (some (i,j)))::jaj hp) k=some o1->(k=r∧o1=.mrow ty ts X (some (i,j)))∨(k≠r∧find (jaj hp) k=some o1):=fun k o1 hk=>by
     simp only[find]at hk;split at hk
     ·rename_i e;cases hk;exact .inl ⟨e.symm,rfl⟩
     ·rename_i e;exact .inr ⟨fun x=>e x.symm,hk⟩
    have hhm:HRel I B' ((r,.mrow ty ts X (some (i,j)))::jaj hp) nx w:=by
     refine⟨fun k o1 hk=>?_,fun k o1 k' o1' bb hk hk' hne hb hb'=>?_,hh.glob⟩
     ·rcases hfm k o1 hk with ⟨rfl,rfl⟩|⟨hne,hk⟩
      ·refine⟨hokr.1,trivial,us,hownr,fun i' j' hi' hj' hn=>?_,fun i1 j1 i2 j2 u v kk h1 h2 h3 h4 h5 _ _=>hd i1 j1 i2 j2 u v kk h1 h2 h3 h4 h5 (by simp) (by simp),fun kk hkk hc=>hBk kk hkk (hall kk hc)⟩;obtain⟨u,hu,hx⟩:=hat i' j' hi' hj' (by simp);refine⟨u,hu,jeM hx fun kk hkk hm=>?_⟩;rw[hmu,if_neg (fun e=>?_)]
       ·exact hm
       ·exact hd i' j' i j u (I h) kk hi' hj' hiX hj0 (fun e3=>hn (by rw[e3])) (by simp) (by simp) hu hus0 hkk e
      ·obtain⟨o2,h4,h5,h6,h7,h8,h9⟩:=jaI hh hk;refine⟨h5,h6,O.ok_retag (B:=B) (B':=B') (fun _=>ko) (fun _=>ko) hall h7 h8 fun kk hm ⟨gk,hgk⟩ eM=>?_⟩;rw[hmu,if_neg (fun e=>?_)]
       ·exact hm
       ·have h10:=htag kk e;rw[hm]at h10
        have hbk:(base (I k)).block=gk:=by
         cases hIk:I k with
         |slice a n c=>cases a with
          |none=>rw[hIk]at hgk;cases hgk
          |some ad=>rw[hIk]at hgk;simp only[zU,zj]at hgk;simp[base,hgk]
         |_=>rw[hIk]at hgk;cases hgk
        have h11:gk=g:=by
         have:=yf h10;rw[hbk,hgb]at this;exact this
        subst h11;rcases jk5 hk with h12|h12
        ·exact hh.apart k _ r _ gk h12 hfr hne ((O.isM_blk eM).trans hgk) hgr
        ·subst h12;cases eM
     ·have hb2:∀k o1,find ((r,O.mrow ty ts X (some (i,j)))::jaj hp) k=some o1->o1.blk (I k)=some bb->∃o2,find hp k=some o2∧o2.blk (I k)=some bb:=fun k o1 hk hb=>by
       rcases hfm k o1 hk with ⟨rfl,rfl⟩|⟨_,hk⟩
       ·exact⟨_,hfr,hb⟩
       ·obtain⟨o2,h4,_,_,_,_,h9⟩:=jaI hh hk;exact⟨o2,h4,h9 bb hb⟩
      obtain⟨p1,p2,p3⟩:=hb2 k o1 hk hb;obtain⟨p4,p5,p6⟩:=hb2 k' o1' hk' hb';exact hh.apart k p1 k' p4 bb p2 p5 hne p3 p6
    have hB':Old B' w:=fun k hk=>hB k (hall k hk);refine jap (I':=upd I nx v') (w':=w') ?_ ?_
    ·unfold xg;simp only[ho,hcal,jy,hargs,hts,yj,zL,xp,zq,zt,zn,gc,builtin,hvs,hvx,hrun];simp[V.val,W.val,C.val]
    ·have hbl:Bel B' w w':=jc6 hgrown hfree hB';refine⟨jar _ _ _,zo nx,xu nx,⟨B',⟨⟨fun _ h=>h,fun _ h=>h⟩,fun k hk=>.inl (hall k hk),fun k hk=>.inl hk,fun h=>by cases h⟩,?_⟩,hbl,(fun h=>by cases h),fun h=>by cases h⟩
     refine HRel.grow hhm hB' hgrown hfree (hp1:=(r,.mrow ty ts X (some (i,j)))::jaj hp) ?_ ?_ (by unfold O.ok;rw[upd_same];exact⟨hown3,fun k hk hc=>by
      rcases hwhere k hk with h|h
      ·exact hfree k h hc
      ·have:=hB' k hc;omega⟩) trivial (fun k hk=>hwhere k hk)
     ·intro k o1 hk;left;rcases hfm k o1 hk with ⟨rfl,rfl⟩|⟨hne,hk1⟩
      ·rw[jay];simp[find]
      ·rw[jay,hk];have:=jnx hk1;cases o1<;>first|rfl|cases this
     ·intro k o1 gg hk hbk hvg;obtain⟨_,_,h7⟩:=hhm.ok k o1 hk;have h8:=(hh.ok h _ hf)
      have h9:=htag gg hvg;rcases hfm k o1 hk with ⟨rfl,rfl⟩|⟨_,hk⟩
      ·exact hBk gg hbk (.inr (by rw[h9];simp))
      ·obtain⟨o2,h4,_,_,h10,_,h11⟩:=jaI hh hk;exact(O.blk_lt h10 hbk).2 (.inr (by rw[h9];simp))
end
end Go.Sx
end

section
open Go.RowKit
namespace Go.Sx
section
variable [Globs] {P:zP} {I:Env} {B:Kd} {nx:Nat} {hp:Hp} {w:zr} {rd:zZ->Option V} {a:Act} {sp:jab}
def joh {v:V} {X0 X:XC} {hs:Option Nat} {ty:Nat} {ts:List Nat} (h:mOf hp X0 v=some (hs,ty,ts,X)) :
  (hs=none∧X=X0∧v.val I=.slice none 0 0)∨∃k,hs=some k∧v.val I=I k∧find hp k=some (.mrow ty ts X none):=by
 unfold mOf at h;split at h
 ·rename_i k;split at h
  ·rename_i ty' ts' X' hf;simp only[zj,qp]at h;obtain⟨rfl,rfl,rfl,rfl⟩:=h;exact .inr ⟨k,rfl,rfl,hf⟩
  ·cases h
 ·simp only[zj,qp]at h;obtain⟨rfl,rfl,rfl,rfl⟩:=h;exact .inl ⟨rfl,rfl,rfl⟩
 ·cases h
def jpu {hs:Option Nat} {k:Nat}:find (jcz hp hs) k=if hs=some k then some .dead else find hp k:=by
 cases hs with
 |none=>simp[jcz]
 |some h=>simp only[jcz,find,zj]
def jrY {v:V} {X0 X:XC} {hs:Option Nat} {ty elem:Nat} {ts t1:List Nat} (hh:HRel I B hp nx w) (h:mOf hp X0 v=some (hs,ty,t1,X)) (hn0:X0.n=0) (ht:∀k,hs=some k->ty=elem∧t1=ts) :
  ∃us:List zs,w.ownsRow 0 elem X.e (v.val I) X.n us∧(∀i j,i<X.n->j<X.e->∃u,us[i*X.e+j]?=some u∧(X.cell i j).own B w (base (v.val I)).block (ts.getD j 0) u) ∧ (∀i j i' j' u u' k,i<X.n->j<X.e->i'<X.n->j'<X.e->(i,j)≠(i',j')->us[i*X.e+j]?=some u->us[i' * X.e+j']?=some u'->u.ownBlock=some k->u'.ownBlock≠some k) ∧
   (∀k,(v.val I).ownBlock=some k->∃h,hs=some h∧find hp h=some (.mrow elem ts X none)∧I h=v.val I):=by
 rcases joh (I:=I) h with ⟨rfl,rfl,hv⟩|⟨k,rfl,hv,hf⟩
 ·rw[hv,hn0];exact⟨[],xU w 0 elem X.e,(fun i j hi=>absurd hi (ye _)),(fun i j i' j' u u' k hi=>absurd hi (ye _)),fun k hk=>by simp[zU]at hk⟩
 ·obtain⟨rfl,rfl⟩:=ht k rfl;obtain⟨us,q1,q2,q3,q4⟩:=(hh.ok k _ hf).2.2;rw[hv];exact⟨us,q1,fun i j hi hj=>q2 i j hi hj (by simp),fun i j i' j' u u' k h1 h2 h3 h4 h5=>q3 i j i' j' u u' k h1 h2 h3 h4 h5 (by simp) (by simp),fun g hg=>⟨k,rfl,hf,rfl⟩⟩
def jsS {v:zs} {k:Nat} (h:v.ownBlock=some k):(base v).block=k:=by
 cases v with
 |slice a n c=>cases a with
  |none=>cases h
  |some ad=>simp only[zU,zj]at h;simp[base,h]
 |_=>cases h
def jsT {o:qu} {t elem e b:Nat} {s x:zZ} {c:Call} {us ux:V} {hs hx:Option Nat} {ty ty':Nat} {t1 t2 ts:List Nat} {X0 X1 X2 X3:XC} {z:List C} (hh:HRel I B hp nx w) (hB:Old B w) (hr:jaB I nx rd a)
  (ho:o.op=.call c) (hcal:c.callee=.builtin .append) (hargs:c.args=#[s,x]) (hts:c.argTypes=#[t,t]) (hu:P.underlying t=some (.slice elem))
  (hrs:rd s=some us) (hrx:rd x=some ux) (hX0:xcT P elem=some X0) (hss:mOf hp X0 us=some (hs,ty,t1,X1)) (hsx:mOf hp X0 ux=some (hx,ty',t2,X2)) (hz:jaA P elem=some z) (hsz:szT P elem=some (e+1)) (hby:jaU P elem=some b)
  (hty:∀h,hs=some h->ty=elem∧t1=ts) (hty':∀h,hx=some h->ty'=elem∧t2=ts) (hne:∀h h',hs=some h->hx=some h'->h≠h') (h3:X1.app X2=some X3) (hzl:z.length=e+1) (he1:X1.sh.length=e+1)
  (hob:(X1.n+X2.n)*b<=140737488355328∧X1.n+X2.n<=9223372036854775807) (q:Prop) :
  jaD P I B nx a w o ⟨q,.w (.c (.o nx)),(nx,.mrow elem ts X3 none)::jcz (jcz (jaj hp) hs) hx,nx+1⟩ false:=by
 obtain⟨a1,a2,a3,a4,a5⟩:=XC.app_spec h3;have he:X1.e=e+1:=by rw[<-X1.sh_len,he1]
 have hvs:=(hr _ _ hrs).2;have hvx:=(hr _ _ hrx).2;have h00:=jwU hX0;obtain⟨us1,hown,hat1,hd1,hblk1⟩:=jrY (ts:=ts) (elem:=elem) hh hss h00 hty;obtain⟨us2,hown2,hat2,hd2,hblk2⟩:=jrY (ts:=ts) (elem:=elem) hh hsx h00 hty';cases hi:P.info? elem with
 |none=>simp[szT,hi]at hsz
 |some i =>
  have hsz':i.size=e+1:=by simpa [szT,hi]using hsz
  have hby':i.bytes=b:=by simpa [jaU,hi]using hby
  cases hzz:i.zero with
  |none=>simp[jaA,hi,hzz]at hz
  |some zv =>
   obtain⟨v0,hv0,hvc,_⟩:=jaX (P:=P) (w:=w) (I:=I) hz
   have hvz:v0=zv:=by
    simp[yH,yX,hi,hzz]at hv0;exact hv0.symm
   subst hvz;have hzs:v0.cells.size=e+1:=by rw[hvc];simp[hzl]
   have hl2:us2.length=X2.n*(e+1):=by rw[hown2.1,a3,he]
   have hsrc:((ux.val I)=.slice none 0 0∧X2.n=0)∨∃ad cc,(ux.val I)=.slice (some ad) X2.n cc∧∀j u,us2[j]?=some u->w.cell? (ad.add j)=some u:=by
    rcases hown2.2 with ⟨q4,q5⟩|⟨g,cap,cur,q4,q5,q6,q7,q8,q9,q10⟩
    ·exact .inl ⟨q4,q5⟩
    ·refine .inr ⟨⟨g,0,none⟩,cap,q4,fun j u hj=>?_⟩;rw[jaT,qa,xP w g _ cur elem (0,0) q6];rw[<-q10,qg]at hj;split at hj
     ·simpa using hj
     ·cases hj
   have hone:∀u∈us2,u.oneCell'=true:=fun u hu2=>by
    obtain⟨q,hq,rfl⟩:=xF hu2;have he0:0<X2.e:=by omega
    have hql:q<X2.n*X2.e:=by rw[a3,he,<-hl2];exact hq
    have hdiv:q/X2.e<X2.n:=yE (by rw[xI];exact hql);obtain⟨u,hu3,hux⟩:=hat2 (q/X2.e) (q%X2.e) hdiv (ya _ he0);rw[show q/X2.e*X2.e+q%X2.e=q by rw[xI];exact yu q X2.e,zH hq]at hu3;cases hu3;exact jt3 (jtH hux)
   obtain⟨v',w',hrun,hown',hgrown,hwhere⟩:=jej (ty:=o.type) hu hi hzz hsz' hby' hzs (by rw[<-he];exact hown) (news:=us2) (m:=X2.n) hl2 hone hsrc hob.2 hob.1
   let S:Nat->Prop:=fun g=>(us.val I).ownBlock=some g∨(ux.val I).ownBlock=some g
   have dec:∀g,Decidable (S g):=fun g=>jV _
   let B':Kd:=⟨B.kp,B.fr,fun k=>match B.mu k with
    |some g=>some (@ite _ (S g) (dec g) (base v').block g)
    |none=>none,B.sub,fun k hk=>by simp only[B.dis k hk]⟩
   have hmu:∀k g,B.mu k=some g->B'.mu k=some (if S g then(base v').block else g):=fun k g hk=>by
    show(match B.mu k with|some g=>some (if S g then(base v').block else g)|none=>none)=_
    rw[hk]
   have hall:∀k,B'.all k->B.all k:=fun k hk=>hk.imp id fun hk2 hn=>hk2 (by
    show(match B.mu k with|some g=>some (if S g then(base v').block else g)|none=>none)=none
    rw[hn])
   have hS:∀g,S g->∃h,(hs=some h∨hx=some h)∧∃X,find hp h=some (.mrow elem ts X none)∧(I h).ownBlock=some g:=fun g hg=>by
    rcases hg with hg|hg
    ·obtain⟨h,e1,e2,e3⟩:=hblk1 g hg;exact⟨h,.inl e1,X1,e2,by rw[e3];exact hg⟩
    ·obtain⟨h,e1,e2,e3⟩:=hblk2 g hg;exact⟨h,.inr e1,X2,e2,by rw[e3];exact hg⟩
   have hfm:∀k o1,find (jcz (jcz (jaj hp) hs) hx) k=some o1->(o1=.dead∧k<nx)∨(hs≠some k∧hx≠some k∧find (jaj hp) k=some o1):=fun k o1 hk=>by
    rw[jpu]at hk;split at hk
    ·rename_i e;cases hk;subst e;rcases joh (I:=I) hsx with ⟨e,_⟩|⟨k2,e,_,hf⟩
     ·cases e
     ·cases e;exact .inl ⟨rfl,(hh.ok _ _ hf).1⟩
    ·rename_i e;rw[jpu]at hk;split at hk
     ·rename_i e2;cases hk;subst e2;rcases joh (I:=I) hss with ⟨e,_⟩|⟨k2,e,_,hf⟩
      ·cases e
      ·cases e;exact .inl ⟨rfl,(hh.ok _ _ hf).1⟩
     ·rename_i e2;exact .inr ⟨e2,e,hk⟩
   have hhm:HRel I B' (jcz (jcz (jaj hp) hs) hx) nx w:=by
    refine⟨fun k o1 hk=>?_,fun k o1 k' o1' bb hk hk' hne' hb hb'=>?_,hh.glob⟩
    ·rcases hfm k o1 hk with ⟨rfl,hlt⟩|⟨hn1,hn2,hk⟩
     ·exact⟨hlt,trivial,trivial⟩
     ·obtain⟨o2,h4,h5,h6,h7,h8,h9⟩:=jaI hh hk;refine⟨h5,h6,O.ok_retag (B:=B) (B':=B') (fun _=>ko) (fun _=>ko) hall h7 h8 fun kk hm ⟨gk,hgk⟩ eM=>?_⟩;rw[hmu kk _ hm,if_neg (fun hSg=>?_)];obtain⟨h,hor,X,hfh,hgh⟩:=hS _ hSg;rw[jsS hgk]at hgh
      have hkh:k≠h:=fun e=>by
       subst e;rcases hor with e|e
       ·exact hn1 e
       ·exact hn2 e
      rcases jk5 hk with h12|h12
      ·exact hh.apart k _ h _ gk h12 hfh hkh ((O.isM_blk eM).trans hgk) hgh
      ·subst h12;cases eM
    ·have hb2:∀k o1,find (jcz (jcz (jaj hp) hs) hx) k=some o1->o1.blk (I k)=some bb->∃o2,find hp k=some o2∧o2.blk (I k)=some bb:=fun k o1 hk hb=>by
      rcases hfm k o1 hk with ⟨rfl,_⟩|⟨_,_,hk⟩
      ·cases hb
      ·obtain⟨o2,h4,_,_,_,_,h9⟩:=jaI hh hk;exact⟨o2,h4,h9 bb hb⟩
     obtain⟨p1,p2,p3⟩:=hb2 k o1 hk hb;obtain⟨p4,p5,p6⟩:=hb2 k' o1' hk' hb';exact hh.apart k p1 k' p4 bb p2 p5 hne' p3 p6
   have hB':Old B' w:=fun k hk=>hB k (hall k hk)
   have hgB:∀k,(us.val I).ownBlock=some k->¬B'.all k:=fun k hk hc=>by
    obtain⟨h,_,hf,e⟩:=hblk1 k hk;exact(O.blk_lt (hh.ok h _ hf).2.2 (show(O.mrow elem ts X1 none).blk (I h)=some k by rw[e];exact hk)).2 (hall k hc)
   have hbl:Bel B' w w':=jc6 hgrown hgB hB';have hl1:us1.length=X1.n*(e+1):=by rw[hown.1,he]
   have hstay:∀k,B.mu k≠none->w'.heap[k]?=w.heap[k]?:=fun k hk=>hgrown.block k (hB k (.inr hk)) (fun e'=>by
    have e:=e'.symm;obtain⟨h,_,hf,e2⟩:=hblk1 k e;exact(O.blk_lt (hh.ok h _ hf).2.2 (show(O.mrow elem ts X1 none).blk (I h)=some k by rw[e2];exact e)).2 (.inr hk))
   refine jap (I':=upd I nx v') (w':=w') ?_ ?_
   ·unfold xg;simp only[ho,hcal,jy,hargs,hts,yj,zL,xp,zq,zt,zn,gc,builtin,hvs,hvx,hrun];simp[V.val,W.val,C.val]
   ·refine⟨jar _ _ _,zo nx,xu nx,⟨B',⟨⟨fun _ h=>h,fun _ h=>h⟩,fun k hk=>.inl (hall k hk),fun k hk=>.inl hk,fun h=>by cases h⟩,?_⟩,hbl,(fun h=>by cases h),fun h=>by cases h⟩;refine HRel.grow hhm hB' hgrown hgB (hp1:=jcz (jcz (jaj hp) hs) hx) ?_ ?_ ?_ trivial (fun k hk=>hwhere k hk)
    ·intro k o1 hk;left;rw[jay,hk];rcases hfm k o1 hk with ⟨rfl,_⟩|⟨_,_,hk1⟩
     ·rfl
     ·have:=jnx hk1;cases o1<;>first|rfl|cases this
    ·intro k o1 g hk hbk hvg;rcases hfm k o1 hk with ⟨rfl,_⟩|⟨hn1,_,hk1⟩
     ·cases hbk
     ·obtain⟨h,e1,hf,e2⟩:=hblk1 g hvg;obtain⟨o2,h2',_,_,_,_,h7⟩:=jaI hh hk1;exact hh.apart h _ k o2 g hf h2' (fun e=>hn1 (by rw[<-e];exact e1)) (show(O.mrow elem ts X1 none).blk (I h)=some g by rw[e2];exact hvg) (h7 g hbk)
    ·have hnx:upd I nx v' nx=v':=upd_same _ _ _
     have hn1:∀i',i'<X1.n->∃g,(us.val I).ownBlock=some g∧(base (us.val I)).block=g:=fun i' hi'=>by
      rcases hown.2 with ⟨_,hn⟩|⟨g,cap,cur,q1,_⟩
      ·omega
      ·exact⟨g,by rw[q1];rfl,by rw[q1];rfl⟩
     have hn2:∀i',i'<X2.n->∃g,(ux.val I).ownBlock=some g∧(base (ux.val I)).block=g:=fun i' hi'=>by
      rcases hown2.2 with ⟨_,hn⟩|⟨g,cap,cur,q1,_⟩
      ·omega
      ·exact⟨g,by rw[q1];rfl,by rw[q1];rfl⟩
     have hg1:∀i' j',i'<X1.n->j'<X1.e->∃u,(us1++us2)[i' * X1.e+j']?=some u∧us1[i' * X1.e+j']?=some u:=fun i' j' hi' hj'=>by
      obtain⟨u,q1,q2⟩:=hat1 i' j' hi' hj';exact⟨u,by rw[qf (zC.1 q1).1];exact q1,q1⟩
     have hg2:∀i' j',¬i'<X1.n->i'<X1.n+X2.n->j'<X1.e->∃u,(us1++us2)[i' * X1.e+j']?=some u∧us2[(i' - X1.n)*X2.e+j']?=some u:=fun i' j' hge hi' hj'=>by
      obtain⟨u,q1,q2⟩:=hat2 (i' - X1.n) j' (by omega) (by rw[a3];exact hj');refine⟨u,?_,q1⟩
      have e2:i' * X1.e+j'=us1.length+((i' - X1.n)*X2.e+j'):=by
       rw[hl1,a3,he,<-xL,<-qE]
       congr 2
       omega
      rw[e2,qj (by omega),gW];exact q1
     refine⟨us1++us2,?_,fun i' j' hi' hj' _=>?_,fun i1 j1 i2 j2 u v k hi1 hj1 hi2 hj2 hne' _ _ hu1 hv1 hk1 hk2=>?_,fun k hk hc=>?_⟩
     ·rw[hnx,a1,a2,he];exact hown'
     ·rw[a1]at hi';rw[a2]at hj' ⊢;rw[a5,hnx];split
      ·rename_i hlt;obtain⟨u,q1,q2⟩:=hg1 i' j' hlt hj';obtain⟨u2,q3,q4⟩:=hat1 i' j' hlt hj';rw[q2]at q3;cases q3;obtain⟨g,hgo,hgb⟩:=hn1 i' hlt;refine⟨u,q1,jcd (jeM q4 fun k hk hm=>?_) fun k hk=>hstay k (by rw[jcp q4 hk];simp)⟩;rw[hmu k _ hm,if_pos];rw[hgb];exact .inl hgo
      ·rename_i hge;obtain⟨u,q1,q2⟩:=hg2 i' j' hge hi' hj';obtain⟨u2,q3,q4⟩:=hat2 (i' - X1.n) j' (by omega) (by rw[a3];exact hj');rw[q2]at q3;cases q3;obtain⟨g,hgo,hgb⟩:=hn2 (i' - X1.n) (by omega);refine⟨u,q1,jcd (jeM q4 fun k hk hm=>?_) fun k hk=>hstay k (by rw[jcp q4 hk];simp)⟩;rw[hmu k _ hm,if_pos];rw[hgb];exact .inr hgo
     ·rw[a1]at hi1 hi2;rw[a2]at hj1 hj2 hu1 hv1
      have cross:∀i1 j1 i2 j2 u v,i1<X1.n->¬i2<X1.n->i2<X1.n+X2.n->j1<X1.e->j2<X1.e->us1[i1*X1.e+j1]?=some u->us2[(i2-X1.n)*X2.e+j2]?=some v->u.ownBlock=some k->v.ownBlock=some k->False:=fun i1 j1 i2 j2 u v h1 h2 h2' h4 h5 h6 h7 h8 h9=>by
       obtain⟨u2,q3,q4⟩:=hat1 i1 j1 h1 h4;rw[h6]at q3;cases q3;obtain⟨v2,q5,q6⟩:=hat2 (i2-X1.n) j2 (by omega) (by rw[a3];exact h5);rw[h7]at q5;cases q5;have m1:=jcp q4 h8;have m2:=jcp q6 h9;obtain⟨g1,hgo1,hgb1⟩:=hn1 i1 h1;obtain⟨g2,hgo2,hgb2⟩:=hn2 (i2-X1.n) (by omega);rw[hgb1]at m1;rw[hgb2,m1]at m2;cases m2;obtain⟨p,e1,f1,e2⟩:=hblk1 g1 hgo1;obtain⟨p',e1',f1',e2'⟩:=hblk2 g1 hgo2;exact hh.apart p _ p' _ g1 f1 f1' (hne p p' e1 e1') (show(O.mrow elem ts X1 none).blk (I p)=some g1 by rw[e2];exact hgo1) (show(O.mrow elem ts X2 none).blk (I p')=some g1 by rw[e2'];exact hgo2)
      by_cases c1:i1<X1.n
      ·obtain⟨u',q1,q2⟩:=hg1 i1 j1 c1 hj1;rw[hu1]at q1;cases q1
       by_cases c2:i2<X1.n
       ·obtain⟨v2,q3,q4⟩:=hg1 i2 j2 c2 hj2;rw[hv1]at q3;cases q3;exact hd1 i1 j1 i2 j2 u v k c1 hj1 c2 hj2 hne' q2 q4 hk1 hk2
       ·obtain⟨v2,q3,q4⟩:=hg2 i2 j2 c2 hi2 hj2;rw[hv1]at q3;cases q3;exact cross i1 j1 i2 j2 u v c1 c2 hi2 hj1 hj2 q2 q4 hk1 hk2
      ·obtain⟨u',q1,q2⟩:=hg2 i1 j1 c1 hi1 hj1;rw[hu1]at q1;cases q1
       by_cases c2:i2<X1.n
       ·obtain⟨v2,q3,q4⟩:=hg1 i2 j2 c2 hj2;rw[hv1]at q3;cases q3;exact cross i2 j2 i1 j1 v u c2 c1 hi1 hj2 hj1 q4 q2 hk2 hk1
       ·obtain⟨v2,q3,q4⟩:=hg2 i2 j2 c2 hi2 hj2;rw[hv1]at q3;cases q3;exact hd2 (i1-X1.n) j1 (i2-X1.n) j2 u v k (by omega) (by rw[a3];exact hj1) (by omega) (by rw[a3];exact hj2) (fun e=>hne' (by rw[qp]at e ⊢;exact⟨by omega,e.2⟩)) q2 q4 hk1 hk2
     ·rw[hnx]at hk;rcases hwhere k hk with h|h
      ·exact hgB k h hc
      ·have:=hB' k hc;omega
def jt9 {k:NK} {t:Nat} {c:C} {x:NC} {g:Option Nat} (h:jcg hp k t c=some (x,g)):jaO hp [k] [t] [c]=some ([x],g.toList):=by
 simp only[jaO,yx,List.tail_cons,h];cases g<;>rfl
def jv3 {o:qu} {r:Res} (hh:HRel I B hp nx w) (hB:Old B w) (hr:jaB I nx rd a) (h:jg8 P o.op rd hp nx=some r) (hob:r.ob) :
  jaD P I B nx a w o r (jau sp o.op rd):=by
 unfold jg8 at h;split at h
 ·rename_i t l c hop;split at h
  ·rename_i elem k n k' m hnm hu hl hc;split at h
   ·rename_i X0 z b e ts hX hz hb hs htt;split at h
    ·rename_i r0 hs0 hcs hzl;cases h;obtain⟨ul,hul,hul'⟩:=zK.1 hl;obtain⟨uc,huc,huc'⟩:=zK.1 hc;simp only[hop,jau];exact jv2 hh hB hr hop hu hul hul' huc huc' hz hs hb (zi hzl) hcs hob
    ·cases h
   ·cases h
  ·cases h
 ·rename_i t n parts hop;split at h
  ·rename_i elem l hnm hnt hu hl;split at h
   ·rename_i X0 z e ts hX hz hs htt;split at h
    ·rename_i rs hs0 hcs hn hzl hXe hle;split at h
     ·rename_i hnd;cases h;simp only[hop,jau,hnt];exact jt8 hh hB hr hop hu hl hz hs (zi hzl) (zi hXe) (zi hn) (zQ hle) hcs hnd
     ·cases h
    ·cases h
   ·cases h
  ·cases h
 ·rename_i t x hop;split at h
  ·rename_i k i e j hx;split at h
   ·rename_i ty ts X hf;split at h
    ·rename_i he hag;split at h
     ·rename_i c hj hc;cases h;simp only[hop,jau];exact jt5 hh hB hr hop hx hf (zi he) hag (zG (zo j) (zQ hj)) hc hob
     ·cases h
    ·rename_i he hag;split at h
     ·rename_i sz hj hs;split at h
      ·rename_i hsz;have hj:=zi hj;subst hj;cases h;simp only[hop,jau];exact jt6 hh hB hr hop hx hf (zi he) hag hs (zi hsz) hob
      ·cases h
     ·cases h
    ·cases h
   ·cases h
  ·cases h
 ·rename_i t x y hop;split at h
  ·rename_i h0 i e j u hx hy;split at h
   ·rename_i ty ts X ho sz hf hs;split at h
    ·rename_i hone hall he hXe he1 hsu;have he:=zi he;subst he;have hXe:=zi hXe;have he1:=zQ he1;have hsu:=zi hsu;subst hsu
     have one:∀(c0:C) (k:NK) (x0:NC) (g0:Option Nat) (q:Prop),u.cells=[c0]->X.sh[j]?=some k->jcg hp k (ts.getD j 0) c0=some (x0,g0)->i<X.n->(∀i0 j0,ho=some (i0,j0)->i0=i∧j=j0) ->
       jaD P I B nx a w o ⟨q,vu,(h0,.mrow ty ts (X.put i (X.row i j x0)) none)::jdf (jaj hp) g0.toList,nx⟩ false:=by
      intro c0 k x0 g0 q huc hk hc0 hi hho;have hjl:j<X.e:=by rw[<-X.sh_len];exact(zC.1 hk).1
      have c1:=(jgn hh hc0).1;have hrow:=X.row_spec (i:=i) hk c1;have hput:=X.cell_put hrow.1 hi
      refine jk4 hh hr hop hx hy hone hall hs hf hi (by rw[huc];simp;omega) (sh1:=[k]) (ts1:=[ts.getD j 0]) (r:=[x0]) (by rw[huc];exact jt9 hc0) (by cases g0<;>simp[jfm]) (fun m hm=>by
       rw[huc]at hm;simp at hm;subst hm;rfl) ⟨hput.1,hput.2.1⟩ (fun i' j' hj'=>?_) (fun i0 j0 e=>by
       obtain⟨e1,e2⟩:=hho i0 j0 e;rw[huc];simp;omega)
      rw[hput.2.2.2 i' j' hj',huc]
      by_cases e:i'=i
      ·subst e;rw[if_pos rfl,hrow.2 j' hj']
       by_cases e2:j'=j
       ·subst e2;rw[if_pos rfl,if_pos ⟨rfl,zp _,by simp⟩];simp
       ·rw[if_neg e2,if_neg (by simp;omega)]
      ·rw[if_neg e,if_neg (fun h=>e h.1)]
     split at h
     ·rename_i hse;have hse:=zi hse;split at h
      ·rename_i r0 hs0 hj hcs;have hj:=zi hj;subst hj;split at h
       ·rename_i hnd;cases h;obtain⟨c1,c2,_⟩:=jc4 hh hcs;have hput:=X.cell_put c1 hob;simp only[hop,jau];refine jk4 hh hr hop hx hy hone hall hs hf hob (by omega) hcs hnd (fun m hm=>by rw[qa]) ⟨hput.1,hput.2.1⟩ (fun i' j' hj'=>?_) (fun i0 j0 e=>by cases e);rw[hput.2.2.2 i' j' hj']
        by_cases e:i'=i
        ·subst e;rw[if_pos rfl,if_pos ⟨rfl,xE _,by omega⟩];rfl
        ·rw[if_neg e,if_neg (fun h=>e h.1)]
       ·cases h
      ·cases h
     ·split at h
      ·rename_i c0 k huc hk;split at h
       ·rename_i x0 g0 hc0;split at h
        ·cases h;simp only[hop,jau];exact one c0 k x0 g0 _ huc hk hc0 hob (fun i0 j0 e=>by cases e)
        ·rename_i i0 j0;split at h
         ·rename_i hjj;have hjj:=zi hjj;cases h;simp only[hop,jau];exact one c0 k x0 g0 _ huc hk hc0 hob.2 (fun i1 j1 e=>by cases e;exact⟨hob.1.symm,hjj⟩)
         ·cases h
       ·cases h
      ·cases h
    ·cases h
   ·rename_i r0 i0 e0 j0 t0 c sz hf hs;split at h
    ·rename_i ds hone hall he he1 hsu hds;have he:=zi he;subst he;have he1:=zQ he1;have hsu:=zi hsu;subst hsu;split at h
     ·rename_i c' ty ts X hupd hfr;split at h
      ·rename_i k he0 hk;have he0:=zi he0;split at h
       ·rename_i hnk htt;cases h;simp only[hop,jau];exact jt7 hh hr hop hx hy hone hs hall hf hds (Cont.upd_cell hupd hob) he1 hob hfr he0 hk hnk (zi htt)
       ·cases h
      ·cases h
     ·cases h
    ·cases h
   ·cases h
  ·cases h
 ·rename_i c hop;split at h
  ·rename_i s x t t' hcal hargs hts;split at h
   ·rename_i elem htt hu;have htt:=zi htt;subst htt;have e1:c.args=#[s,x]:=by apply xf;simpa using hargs
    have e2:c.argTypes=#[t,t]:=by apply xf;simpa using hts
    have outer:jis P t elem (rd s) (rd x) hp nx=some r->jaD P I B nx a w o r (jau sp o.op rd):=by
     intro h;unfold jis at h;split at h
     ·rename_i X0 z e b ts hnm hX hz hs hb htt;split at h
      ·rename_i hs0 ty t1 X1 hx0 ty' t2 X2 h1 h2;split at h
       ·rename_i X3 h3 hty hty' hzl he1 hne;cases h;obtain⟨us,hus,hus'⟩:=zK.1 h1;obtain⟨ux,hux,hux'⟩:=zK.1 h2;simp only[hop,jau,hcal]
        exact jsT hh hB hr hop hcal e1 e2 hu hus hux hX hus' hux' hz hs hb
         (fun h e=>by subst e;simp only[zk]at hty;exact⟨zi hty.1,of_decide_eq_true hty.2⟩)
         (fun h e=>by subst e;simp only[zk]at hty';exact⟨zi hty'.1,of_decide_eq_true hty'.2⟩)
         (fun h h' e e'=>by
          subst e;subst e';intro e;subst e;simp at hne) h3 (zi hzl) (zi he1) hob _
       ·cases h
      ·cases h
     ·cases h
    split at h
    ·rename_i hs0 hob0;split at h
     ·rename_i r0 i0 e0 j0 t0 c1 hf;split at h
      ·rename_i cx hx0 z e b ty ts X hsx hz hs hb hfr;split at h
       ·rename_i c2 h2;split at h
        ·rename_i c3 h3 ht0 he0;split at h
         ·rename_i hcond;cases h;obtain⟨ux,hux,hux'⟩:=zK.1 hsx;obtain⟨us,hus,hus'⟩:=zK.1 hob0
          have hus2:rd s=some (.w (.c (.o hs0))):=by
           unfold V.obj? at hus';split at hus'
           ·cases hus';exact hus
           ·cases hus'
          simp only[hop,jau,hcal];exact jsR hh hB hr hop hcal e1 e2 hu hus2 hf hfr (zi ht0) (zi he0) hux hux' hz hs hb h2 h3 hcond.1 hcond.2.1 (Cont.one_all hcond.2.2) hob _
         ·cases h
        ·cases h
       ·cases h
      ·cases h
     ·exact outer h
    ·exact outer h
   ·cases h
  ·cases h
 ·cases h
end
end Go.Sx
end

section
open Go.RowKit
namespace Go.Sx
section
variable [Globs] {P:zP} {I:Env} {B:Kd} {nx:Nat} {hp:Hp} {w:zr} {rd:zZ->Option V} {a:Act} {sp:jab}
def jv4 {o:qu} {t h i e j m ty:Nat} {ts:List Nat} {x:zZ} {X:XC} {c:Cont} {q:Prop} (hh:HRel I B hp nx w) (hB:Old B w) (hr:jaB I nx rd a) (ho:o.op=.load t x) (hx:rd x=some (.w (.c (.p h i e j)))) (hf:find hp h=some (.trow ty ts X m))
  (he:e=X.e) (hag:jbz P t=some false) (hj:j<X.e) (hc:X.cell i j=.r c) (hob:i<X.n∧m<=i*X.e+j) :
  jaD P I B nx a w o ⟨q,.w (.c (.o nx)),(nx,.ext c)::hp,nx+1⟩ true:=by
 subst he;obtain⟨us,hr2,hat,_⟩:=(hh.ok h _ hf).2.2;rcases hr2.2 with ⟨h1,hn⟩|⟨g,cap,cur,h1,h2,h3,h4,h5,h6,h7⟩
 ·omega
 ·obtain⟨u,hu,_,hua⟩:=hat i j hob.1 hj;have hux:=hua hob.2;rw[hc]at hux
  have hcell:w.cell? ⟨(base (I h)).block,(base (I h)).off+(i*X.e+j),none⟩=some u:=by
   rw[h1];simp only[base,qa];rw[xP w g _ cur ty (0,0) h3];have h2:(cur.toList.take (X.n*X.e))[i*X.e+j]?=some u:=by rw[h7,hu]
   rw[qg]at h2;split at h2
   ·simpa using h2
   ·cases h2
  have hok:(O.ext c).ok (upd I nx u) B w nx:=by
   unfold O.ok;simp only;rw[upd_same];exact hux
  refine jap (I':=upd I nx u) (w':=w) ?_ (jdh hh hB u (.ext c) rfl rfl (show V.lt (nx+1) (.w (.c (.o nx)))from zo nx) true trivial hok rfl);unfold xg;have hlv:=jaS (P:=P) w hag hcell;simp[ho,(hr _ _ hx).2,C.val,jY,xh,hlv,V.val,W.val]
def jhb {B:Bd} {B2:Kd} {w w2:zr} {g ty:Nat} {v:zs} {X:XC} {i j:Nat} (h:(X.cell i j).at B w v) (hs:(X.sh.getD j .b).isSl=false) (hj:j<X.e):(X.cell i j).own B2 w2 g ty v:=by
 cases X with
 |st sh l =>
  have hs:(sh.getD j .b).isSl=false:=hs;simp only[XC.cell]at h ⊢;cases hk:sh.getD j .b<;>rw[hk]at hs h<;>first|(cases hs;done)|(simp only[NK.norm]at h ⊢;exact h)
 |_ =>
  all_goals
   simp only[XC.e]at hj;obtain rfl:j=0:=by omega
   cases hs
def jAR {B:Bd} {w:zr} {v:zs} {X:XC} {i j k:Nat} (h:(X.cell i j).at B w v) (hs:(X.sh.getD j .b).isSl=false) (hj:j<X.e):v.ownBlock≠some k:=fun hk=>by
 have:=jcp (B:=kd fun _=>False) (w:=w) (g:=0) (ty:=0) (jhb h hs hj) hk;cases this
def jAS {ty q x:Nat} {ts:List Nat} {X:XC} (h:(O.trow ty ts X q).ok I B w x) (hs:∀i j,i<X.n->j<X.e->q<=i*X.e+j->(X.sh.getD j .b).isSl=false):(O.mrow ty ts X none).ok I B w x:=by
 obtain⟨us,h1,h2,h3,h4⟩:=h;refine⟨us,h1,fun i j hi hj _=>?_,fun i j i' j' u v k hi hj hi' hj' hne _ _ hu hv hk hk'=>?_,h4⟩
 ·obtain⟨u,hu,hx,ha⟩:=h2 i j hi hj;refine⟨u,hu,?_⟩
  by_cases hq:i*X.e+j<q
  ·exact hx hq
  ·exact jhb (ha (by omega)) (hs i j hi hj (by omega)) hj
 ·have low:∀i j u,i<X.n->j<X.e->us[i*X.e+j]?=some u->u.ownBlock=some k->i*X.e+j<q:=fun i j u hi hj hu hk=>by
   by_cases hq:i*X.e+j<q
   ·exact hq
   ·obtain⟨u',hu',_,ha⟩:=h2 i j hi hj;rw[hu]at hu';cases hu';exact absurd hk (jAR (ha (by omega)) (hs i j hi hj (by omega)) hj)
  exact h3 i j i' j' u v k hi hj hi' hj' hne (low i j u hi hj hu hk) (low i' j' v hi' hj' hv hk') hu hv hk hk'
def jua {o:qu} {t h i j m ty:Nat} {ts:List Nat} {x y:zZ} {u:W} {c0:C} {k:NK} {x0:NC} {g0:Option Nat} {X:XC} {q:Prop} (hh:HRel I B hp nx w) (hr:jaB I nx rd a) (hop:o.op=.store t x y)
  (hx:rd x=some (.w (.c (.p h i X.e j)))) (hy:rd y=some (.w u)) (hone:u.one hp=true) (hall:(u.cells.all fun c=>c.one hp)=true) (hs1:szT P t=some u.cells.length) (hf:find hp h=some (.trow ty ts X m)) (hu:u.cells=[c0]) (hk:X.sh[j]?=some k)
  (hco:jcg hp k (ts.getD j 0) c0=some (x0,g0)) (hob:i<X.n∧m<=i*X.e+j∧∀i' j',j'<X.e->m<=i' * X.e+j'->i' * X.e+j'<i*X.e+j->(X.sh.getD j' .b).isSl=false) :
  jaD P I B nx a w o ⟨q,vu,(h,.trow ty ts (X.put i (X.row i j x0)) (i*X.e+j+1))::jdf (jaj hp) g0.toList,nx⟩ false:=by
 have h1:=hr _ _ hx;have h2:=hr _ _ hy;obtain⟨hi,hm,hfl⟩:=hob;obtain⟨hlt,hol,us,⟨hlen,hcase⟩,hat,hd,hBk⟩:=hh.ok h _ hf;rcases hcase with ⟨_,hn⟩|⟨g,cap,cur,hkr,_,hheap,hncap,hcapm,hcsz,htk⟩
 ·omega
 have hbase:(base (I h)).block=g:=by rw[hkr];rfl
 rw[hbase]at hat;obtain⟨a1,a2,a3,a4⟩:=jgn hh hco
 have hvf:∀q∈g0.toList,∃t c,find (jaj hp) q=some (.row t c):=fun q hq=>by
  obtain⟨_,t',c',h3⟩:=a2 q (by simpa using hq);exact⟨t',c',by rw[jay,h3];rfl⟩
 obtain⟨B',gr,hlm,hh',htag,hallB,hkp⟩:=jxN (jgm hh) hvf g
 have hhs:h∉g0.toList:=fun hm=>by
  obtain⟨_,t',c',h3⟩:=a2 h (by simpa using hm);rw[hf]at h3;cases h3
 have hf':find (jdf (jaj hp) g0.toList) h=some (.trow ty ts X m):=by rw[jdj,if_neg hhs,jay,hf];rfl
 have hB'g:¬B'.all g:=by
  obtain⟨_,_,_,_,h9⟩:=(hh'.ok h _ hf').2.2;exact h9 g (by rw[hkr];rfl)
 have hjl:j<X.e:=by rw[<-X.sh_len];exact(zC.1 hk).1
 have hrow:=X.row_spec (i:=i) hk a1;have hput:=X.cell_put hrow.1 hi
 have hcell:∀i' j',j'<X.e->(X.put i (X.row i j x0)).cell i' j'=if i'=i∧j'=j then x0 else X.cell i' j':=fun i' j' hj'=>by
  rw[hput.2.2.2 i' j' hj']
  by_cases e:i'=i
  ·subst e;rw[if_pos rfl,hrow.2 j' hj']
   by_cases e2:j'=j
   ·rw[if_pos e2,if_pos ⟨rfl,e2⟩]
   ·rw[if_neg e2,if_neg (fun h=>e2 h.2)]
  ·rw[if_neg e,if_neg (fun h=>e h.1)]
 have hc:=W.cells_val hh hone;rw[hu]at hc;have hvs:(u.val I).cells.size=1:=by rw[hc];simp
 have hin:i*X.e+j+1<=X.n*X.e:=by
  have:(i+1)*X.e<=X.n*X.e:=qb _ hi;rw[qE]at this;omega
 have hcapsz:X.n*X.e<=cap*X.e:=qb _ hncap
 have hst:=jbM (P:=P) (t:=t) (g:=g) (off:=i*X.e+j) (v:=u.val I) (by rw[hvs,hs1,hu];rfl) hheap (by rw[hvs,hcsz];omega) (by
  have:=jcK hh hall;rw[hu]at this;rw[hc];exact this)
 obtain⟨w',hw'⟩:∃w',w'=w.setRow g ((cur.toList.take (i*X.e+j)++(u.val I).cells.toList++cur.toList.drop (i*X.e+j+(u.val I).cells.size)).toArray):=⟨_,rfl⟩
 rw[<-hw']at hst;refine jcn (I':=I) (w':=w') ?_ rfl ?_
 ·unfold xg;have h1v:a.eval x=.pointer (some ⟨g,i*X.e+j,none⟩):=by rw[h1.2];simp[C.val,hkr,base]
  have h2v:a.eval y=u.val I:=h2.2;simp only[hop,h1v,h2v,ja,xh,zq,zt,zn,hst]
 ·have hbel:Bel B' w w':=by rw[hw'];exact jci hB'g
  have hsize:w'.heap.size=w.heap.size:=by rw[hw'];simp
  refine⟨jah.refl _ _,trivial,zp _,⟨B',gr.later (by omega),?_⟩,hbel.mono gr.le.kp,(fun h=>by cases h),fun h=>by cases h⟩;have hoth:∀k,k≠g->w'.heap[k]?=w.heap[k]?:=fun k hne=>by rw[hw'];exact yC w g k _ hne
  have hul:us.length=X.n*X.e:=hlen;have hvl:(u.val I).cells.toList=[c0.val I]:=by rw[hc];rfl
  have htake:(cur.toList.take (i*X.e+j)++(u.val I).cells.toList++cur.toList.drop (i*X.e+j+(u.val I).cells.size)).take (X.n*X.e)=us.take (i*X.e+j)++[c0.val I]++us.drop (i*X.e+j+1):=by
   rw[hvl,hvs];apply xA;intro t;have hcl:cur.toList.length=cap*X.e:=by simp[hcsz]
   have s1:=jb4 (us:=cur.toList) (vs:=[c0.val I]) (off:=i*X.e+j) (t:=t) (by simp only[zB,qe];omega);have s2:=jb4 (us:=us) (vs:=[c0.val I]) (off:=i*X.e+j) (t:=t) (by simp only[zB,qe];omega);simp only[zB,qe,qa]at s1 s2;rw[qg,s1,s2]
   by_cases ht:t<X.n*X.e
   ·rw[if_pos ht];have:us[t]?=cur.toList[t]?:=by rw[<-htk,qg,if_pos ht]
    rw[this]
   ·rw[if_neg ht,if_neg (by omega)];exact(z7 (by omega)).symm
  have hget:∀q,(us.take (i*X.e+j)++[c0.val I]++us.drop (i*X.e+j+1))[q]?=if q=i*X.e+j then some (c0.val I)else us[q]?:=fun q=>by
   have s2:=jb4 (us:=us) (vs:=[c0.val I]) (off:=i*X.e+j) (t:=q) (by simp only[zB,qe];omega);simp only[zB,qe,qa]at s2;rw[s2]
   by_cases e:q=i*X.e+j
   ·subst e;rw[if_pos ⟨zp _,zo _⟩,if_pos rfl,Nat.sub_self];rfl
   ·rw[if_neg (by omega),if_neg e]
  have hrowout:∀k,(c0.val I).ownBlock=some k->¬B.all k∧B'.mu k=some g:=fun k hk'=>by
   obtain⟨q,hq,hc0⟩:=a3 k hk';obtain⟨_,t',c',h3⟩:=a2 q hq;rw[hc0]at hk';exact⟨(O.blk_lt (hh.ok q _ h3).2.2 (show(O.row t' c').blk (I q)=some k from hk')).2,htag q (by simp[hq]) k hk'⟩
  have hflat:∀i' j' v k,i'<X.n->j'<X.e->m<=i' * X.e+j'->i' * X.e+j'<i*X.e+j->us[i' * X.e+j']?=some v->v.ownBlock≠some k:=fun i' j' v k hi' hj' h3 h4 hv hk'=>by
   obtain⟨v',hv',_,ha⟩:=hat i' j' hi' hj';rw[hv]at hv';cases hv';have:=jcp (B:=kd fun _=>False) (w:=w) (g:=g) (ty:=0) (jhb (ha h3) (hfl i' j' hj' h3 h4) hj') hk';cases this
  have hnin:i*X.e+j<i*X.e+j+1:=zo _;refine HRel.write (o':=.trow ty ts (X.put i (X.row i j x0)) (i*X.e+j+1)) hh' hf' (g:=g) (by simp[O.blk,hkr,zU]) (fun k _ hne=>hoth k hne) ?_ trivial (by simp[O.blk,hkr,zU]) |>.sub fun k o1 hk1=>?_
  ·have hXn:=hput.1;have hXe:=hput.2.1;refine⟨us.take (i*X.e+j)++[c0.val I]++us.drop (i*X.e+j+1),⟨?_,.inr ⟨g,cap,_,by rw[hXn];exact hkr,xE _,by rw[hw'];exact jh w g _ _ ty (0,0) hheap,by rw[hXn];exact hncap,hcapm,?_,by rw[hXn,hXe];exact htake⟩⟩,fun i' j' hi' hj'=>?_,fun i1 j1 i2 j2 v1 v2 k hi1 hj1 hi2 hj2 hne hq1 hq2 hg1 hg2 hk1 hk2=>?_,fun k hk2=>?_⟩
   ·simp only[hXn,hXe,qc,xn,xy,zB,qe];omega
   ·simp only[hXe,xJ,qc,xn,xy,yr,hvs];omega
   ·rw[hXn]at hi';rw[hXe]at hj' ⊢;rw[hbase,hget,hcell i' j' hj']
    by_cases e:i' * X.e+j'=i*X.e+j
    ·obtain⟨rfl,rfl⟩:=jwW hj' hjl e;rw[if_pos rfl,if_pos ⟨rfl,rfl⟩];refine⟨_,rfl,fun _=>?_,fun h3=>by omega⟩;refine jcd (a4 B' g (fun q hq b hb=>htag q (by simp[hq]) b hb)) fun k hk'=>hoth k fun e2=>?_;exact hB'g (.inr (by rw[<-e2,(hrowout k hk').2];simp))
    ·rw[if_neg e,if_neg (fun h=>e (by rw[h.1,h.2]))];obtain⟨v,hv,hvx,hva⟩:=hat i' j' hi' hj';refine⟨v,hv,fun h3=>?_,fun h3=>NC.at_bel (NC.at_mono (fun k=>(hkp k).2) (hva (by omega))) hbel⟩
     by_cases h4:i' * X.e+j'<m
     ·refine jcd (jeM (hvx h4) fun k _ hm=>hlm k g hm) fun k hk'=>hoth k fun e=>?_;have:=jcp (hvx h4) hk';exact hB'g (.inr (by rw[<-e,hlm k g this];simp))
     ·exact jhb (hva (by omega)) (hfl i' j' hj' (by omega) (by omega)) hj'
   ·rw[hXn]at hi1 hi2;rw[hXe]at hj1 hj2 hg1 hg2 hq1 hq2;rw[hget]at hg1 hg2
    have old:∀i' j' v k,i'<X.n->j'<X.e->i' * X.e+j'≠i*X.e+j->i' * X.e+j'<i*X.e+j+1->us[i' * X.e+j']?=some v->v.ownBlock=some k->i' * X.e+j'<m∧B.mu k=some g:=fun i' j' v k hi' hj' e hq hv hk'=>by
     by_cases h4:i' * X.e+j'<m
     ·obtain⟨v',hv',hvx,_⟩:=hat i' j' hi' hj';rw[hv]at hv';cases hv';exact⟨h4,jcp (hvx h4) hk'⟩
     ·exact absurd hk' (hflat i' j' v k hi' hj' (by omega) (by omega) hv)
    by_cases e1:i1*X.e+j1=i*X.e+j
    ·rw[if_pos e1]at hg1;cases hg1
     by_cases e2:i2*X.e+j2=i*X.e+j
     ·obtain⟨r1,r2⟩:=jwW hj1 hj2 (e1.trans e2.symm);exact hne (by rw[r1,r2])
     ·rw[if_neg e2]at hg2;have:=(old i2 j2 v2 k hi2 hj2 e2 hq2 hg2 hk2).2;exact(hrowout k hk1).1 (.inr (by rw[this];simp))
    ·rw[if_neg e1]at hg1;have b1:=old i1 j1 v1 k hi1 hj1 e1 hq1 hg1 hk1
     by_cases e2:i2*X.e+j2=i*X.e+j
     ·rw[if_pos e2]at hg2;cases hg2;exact(hrowout k hk2).1 (.inr (by rw[b1.2];simp))
     ·rw[if_neg e2]at hg2;have b2:=old i2 j2 v2 k hi2 hj2 e2 hq2 hg2 hk2;exact hd i1 j1 i2 j2 v1 v2 k hi1 hj1 hi2 hj2 hne b1.1 b2.1 hg1 hg2 hk1 hk2
   ·obtain⟨_,_,_,_,h9⟩:=(hh'.ok h _ hf').2.2;exact h9 k hk2
  ·simp only[find]at hk1 ⊢;split at hk1
   ·rename_i e;rw[if_pos e];exact hk1
   ·rename_i e;rw[if_neg e,jay,hk1];rw[jdj]at hk1;split at hk1
    ·cases hk1;rfl
    ·rw[jay]at hk1;cases hfk:find hp k with
     |none=>simp[hfk]at hk1
     |some ok =>
      simp only[hfk,qk,zj]at hk1;subst hk1;cases ok<;>rfl
def jpv {h:Nat}:∀{l:Hp},find (l.map fun x=>(x.1,jtx hp x.2)) h=(find l h).map (jtx hp)
 |[]=>rfl
 |x::r=>by
  obtain⟨k,o⟩:=x;simp only[zL,find];split
  ·rfl
  ·exact jpv
def jny {k:Nat} {o:O} (h:find (jpl hp) k=some o):find (jaj hp) k=some o∨∃r i e j t c ty ts X,o=.sub r i e j t c∧find hp k=some o∧find hp r=some (.mrow ty ts X none):=by
 unfold jpl at h;rw[jpv]at h;rw[jay];cases hf:find hp k with
 |none=>rw[hf]at h;cases h
 |some o2 =>
  rw[hf]at h;simp only[qk,zj]at h ⊢;cases o2 with
  |sub r i e j t c =>
   simp only[jtx]at h;split at h
   ·rename_i ty ts X hr;exact .inr ⟨r,i,e,j,t,c,ty,ts,X,h.symm,by rw[<-h],hr⟩
   ·exact .inl h
  |_=>exact .inl h
def jub {o:qu} {t h i e j ty:Nat} {x y:zZ} {u:W} {cs:List C} (hh:HRel I B hp nx w) (hr:jaB I nx rd a) (ho:o.op=.store t x y)
  (hx:rd x=some (.w (.c (.p h i e j)))) (hy:rd y=some (.w u)) (hone:u.one hp=true) (hs:szT P t=some u.cells.length) (hall:(u.cells.all fun c=>c.one hp)=true)
  (hf:find hp h=some (.box ty cs)) (hle:i*e+j+u.cells.length<=cs.length) :
  jaD P I B nx a w o ⟨True,vu,(h,.box ty (cs.take (i*e+j)++u.cells++cs.drop (i*e+j+u.cells.length)))::jpl hp,nx⟩ false:=by
 have h1:=hr _ _ hx;have h2:=hr _ _ hy;obtain⟨hlt,hol,g,hk,hBg,hheap⟩:=hh.ok h _ hf;have hc:=W.cells_val hh hone;have hvs:(u.val I).cells.size=u.cells.length:=by rw[hc];simp
 have hst:=jbM (P:=P) (t:=t) (g:=g) (off:=i*e+j) (v:=u.val I) (by rw[hvs];exact hs) hheap (by rw[hvs];simpa using hle) (by rw[hc];exact jcK hh hall);obtain⟨w',hw'⟩:∃w',w'=w.setRow g (((cs.map (C.val I)).toArray.toList.take (i*e+j)++(u.val I).cells.toList++(cs.map (C.val I)).toArray.toList.drop (i*e+j+(u.val I).cells.size)).toArray):=⟨_,rfl⟩
 rw[<-hw']at hst;have hoth:∀k,k≠g->w'.heap[k]?=w.heap[k]?:=fun k hne=>by rw[hw'];exact yC w g k _ hne
 have H:HRel I B ((h,.box ty (cs.take (i*e+j)++u.cells++cs.drop (i*e+j+u.cells.length)))::jaj hp) nx w':=by
  refine HRel.write hh hf (g:=g) (by simp[O.blk,hk,base]) (fun k _ hne=>hoth k hne) ?_ ?_ (by simp[O.blk,hk,base])
  ·refine⟨g,hk,hBg,?_⟩;rw[hw',jh w g _ _ ty (0,0) hheap,hc];simp
  ·intro c hcm;rcases qR.1 hcm with hcm|hcm
   ·rcases qR.1 hcm with hcm|hcm
    ·exact hol c (List.mem_of_mem_take hcm)
    ·exact W.cells_lt h2.1 c hcm
   ·exact hol c (List.mem_of_mem_drop hcm)
 refine jcn (I':=I) (w':=w') ?_ rfl ?_
 ·unfold xg;have h1v:a.eval x=.pointer (some ⟨g,i*e+j,none⟩):=by rw[h1.2];simp[C.val,hk,base]
  have h2v:a.eval y=u.val I:=h2.2;simp only[ho,h1v,h2v,ja,xh,zq,zt,zn,hst]
 ·refine⟨jah.refl _ _,trivial,zp _,HRel.gr ⟨fun k o1 hk1=>?_,fun k o1 k' o2 b hk1 hk2 hne hb1 hb2=>?_,H.glob⟩,by rw[hw'];exact jci hBg,(fun h=>by cases h),fun h=>by cases h⟩
  ·simp only[find]at hk1;split at hk1
   ·rename_i e1;exact H.ok k o1 (by simp only[find,if_pos e1];exact hk1)
   ·rename_i e1;rcases jny hk1 with h3|⟨r,i1,e2,j1,t1,c,ty1,ts1,X,rfl,h3,h4⟩
    ·exact H.ok k o1 (by simp only[find,if_neg e1];exact h3)
    ·obtain⟨q1,q2,q3,q4,⟨a1,n1,cap1,q5,q6⟩,q7,q8⟩:=hh.ok k _ h3;refine⟨q1,q2,jco q3 fun b hb=>hoth b fun e=>?_,q4,⟨a1,n1,cap1,q5,q6⟩,(xj (w:=w) (hoth _ fun e=>?_)).trans q7,q8⟩
     ·exact hBg (.inr (by rw[<-e,q8 b hb];simp))
     ·obtain⟨us,⟨_,hr2⟩,_⟩:=(hh.ok r _ h4).2.2;rcases hr2 with ⟨hn,_⟩|⟨gl,cap,cur,hrr,_⟩
      ·rw[hn]at q5;cases q5;omega
      ·have hblk:(base (I r)).block=gl:=by rw[hrr];rfl
       rw[hblk]at e;subst e;have hrh:r≠h:=fun e3=>by subst e3;rw[hf]at h4;cases h4
       exact hh.apart r _ h _ gl h4 hf hrh (by rw[hrr];rfl) (by simp[O.blk,hk,base])
  ·have old:∀k o1,find ((h,O.box ty (cs.take (i*e+j)++u.cells++cs.drop (i*e+j+u.cells.length)))::jpl hp) k=some o1->∀b,o1.blk (I k)=some b->find ((h,O.box ty (cs.take (i*e+j)++u.cells++cs.drop (i*e+j+u.cells.length)))::jaj hp) k=some o1:=fun k o1 hk1 b hb=>by
    simp only[find]at hk1 ⊢;split at hk1
    ·rename_i e1;rw[if_pos e1];exact hk1
    ·rename_i e1;rw[if_neg e1];rcases jny hk1 with h3|⟨r,i1,e2,j1,t1,c,ty1,ts1,X,rfl,_⟩
     ·exact h3
     ·cases hb
   exact H.apart k o1 k' o2 b (old k o1 hk1 b hb1) (old k' o2 hk2 b hb2) hne hb1 hb2
def jv5 {o:qu} {r:Res} (hh:HRel I B hp nx w) (hB:Old B w) (hr:jaB I nx rd a) (h:jg9 P o.op rd hp nx=some r) (hob:r.ob) :
  jaD P I B nx a w o r (jau sp o.op rd):=by
 unfold jg9 at h;split at h
 ·rename_i t x hop;split at h
  ·rename_i k i e j hx;split at h
   ·rename_i ty ts X m hf;split at h
    ·rename_i he hag;split at h
     ·rename_i c hj hc;cases h;simp only[hop,jau];exact jv4 hh hB hr hop hx hf (zi he) hag (zG (zo j) (zQ hj)) hc hob
     ·cases h
    ·cases h
   ·cases h
  ·cases h
 ·rename_i t x y hop;split at h
  ·rename_i h0 i e j u hx hy;split at h
   ·rename_i ty ts X m sz hf hs;split at h
    ·rename_i hone hall he hsu;have he:=zi he;subst he;have hsu:=zi hsu;subst hsu;split at h
     ·rename_i c0 k huc hk;split at h
      ·rename_i x0 g0 hc0;cases h;simp only[hop,jau];exact jua hh hr hop hx hy hone hall hs hf huc hk hc0 hob
      ·cases h
     ·cases h
    ·cases h
   ·rename_i ty cs sz hf hs;split at h
    ·rename_i _ hone hall hsu _ hle;have hsu:=zi hsu;subst hsu;cases h;simp only[hop,jau];exact jub hh hr hop hx hy hone hs hall hf (zQ hle)
    ·cases h
   ·cases h
  ·cases h
 ·cases h
end
end Go.Sx
end

section
open Go.RowKit
namespace Go.Sx
section
variable {P:zP} {w:zr}
def jpw {t ti ty elem e b:Nat} {ik k:IntKind} {i:TypeInfo} {z:zs} (hu:P.underlying t=some (.slice elem)) (hti:P.underlying ti=some (.int ik)) (hi:P.info? elem=some i) (hz:i.zero=some z) (hsz:i.size=e+1) (hby:i.bytes=b) (hzs:z.cells.size=e+1)
  {v:zs} {n m:Nat} {xs:List zs} (hown:w.ownsRow 0 elem (e+1) v n xs) (h1:∀u∈(qV z.cells m).toList,u.oneCell'=true)
  (hm0:0<m) (h63:n+m<=9223372036854775807) (hbytes:(n+m)*b<=140737488355328) :
  ∃v' w',(yJ #[t,ti] ty #[v,.int k (m:Int)]).run P w=.ok v' w'∧w'.ownsRow 0 elem (e+1) v' (n+m) (xs++(qV z.cells m).toList)∧w.grownBy w' v.ownBlock ∧
   ∀k,v'.ownBlock=some k->v.ownBlock=some k∨w.heap.size<=k:=by
 subst hby
 have hmx:IntKind.i64.wrap (m:Int)=(m:Int):=by
  have:=xb (Nat.le_add_left m n) h63;unfold IntKind.wrap;simp[IntKind.signed,IntKind.bits];omega
 have hl0:¬((m:Int)<0):=by omega
 have hmb:m*i.bytes<=140737488355328:=xb (qb _ (Nat.le_add_left m n)) hbytes
 have h48:¬((281474976710656:Int)<(m:Int)*(i.bytes:Int)):=by
  have:((m*i.bytes:Nat):Int)=(m:Int)*(i.bytes:Int):=Int.natCast_mul m i.bytes;omega
 have hmz:¬m*i.size=0:=by
  rw[hsz];exact Nat.ne_of_gt (Nat.mul_pos hm0 (jj e))
 have hnl:(qV z.cells m).toList.length=m*(e+1):=by simp[ft,hzs]
 have hlen:(xs++(qV z.cells m).toList).length=(n+m)*(e+1):=by rw[qc,hown.1,hnl,qE]
 have grown:∀(old:Nat),old<n+m->∀(row:Option Nat),
   (w.drew.alloc (.cells (xs.toArray++qV z.cells m++qV z.cells (j3 w (n+m) old elem-(n+m))) elem)).ownsRow 0 elem (e+1)
    (.slice (some ⟨w.heap.size,0,none⟩) (n+m) (j3 w (n+m) old elem)) (n+m) (xs++(qV z.cells m).toList) ∧
   w.grownBy (w.drew.alloc (.cells (xs.toArray++qV z.cells m++qV z.cells (j3 w (n+m) old elem-(n+m))) elem)) row:=by
  intro old ho row;have hge:=grownCap_ge w (n+m) old elem;have hcm:j3 w (n+m) old elem<=g8:=fL w (n+m) old elem (by simpa [g8]using h63);refine⟨⟨hlen,.inr ⟨w.heap.size,_,_,rfl,xE _,jd w.drew _,hge,hcm,?_,?_⟩⟩,⟨rfl,rfl,rfl,by simp,fun k hk _=>heap_alloc_old w.drew _ hk⟩⟩
  ·simp only[fR,xJ,ft,hzs,hown.1,<-qE]
   congr 1
   omega
  ·simp only[fF,qF];rw[<-qF,<-hlen];exact fu
 rcases hown.2 with ⟨rfl,rfl⟩|⟨g,cap,cur,rfl,hbg,hg,hnc,hcm,hcs,htake⟩
 ·have hx:xs=[]:=z5 (by simpa using hown.1);subst hx;have hn:m≠0:=by omega
  have h63':¬(9223372036854775807<(m:Int)):=by omega
  have h48':¬(281474976710656<Builtin.nextslicecap m 0*i.bytes):=by rw[nextslicecap_zero (by omega)];omega
  have hgr:=grown 0 (by omega) (zU (.slice none 0 0));refine⟨_,_,?_,hgr.1,hgr.2,fun k hk=>by simp[zU]at hk;exact .inr (by omega)⟩;simp[yJ,zX hu,zX hti,sizeOf,yX,yH,hi,hz,asInt,jr,hmx,hl0,h48,hn,h63',h48',gz,run_firstCells_none,hmz,gL,j3]
 ·by_cases hroom:n+m<=cap
  ·have hfit:n*(e+1)+(qV z.cells m).toList.length<=cur.size:=by rw[hnl,hcs,<-qE];exact qb _ hroom
   have hst:=run_storeCells_at P g (n*(e+1)) elem (qV z.cells m).toList 0 cur w hg (by simpa using hfit) h1;simp only[xH]at hst;refine⟨.slice (some ⟨g,0,none⟩) (n+m) cap,w.setRow g (cur.toList.take (n*(e+1))++(qV z.cells m).toList++cur.toList.drop (n*(e+1)+(qV z.cells m).toList.length)).toArray,?_,⟨hlen,.inr ⟨g,cap,_,rfl,hbg,jh w g cur _ elem _ hg,hroom,hcm,?_,?_⟩⟩,⟨rfl,rfl,rfl,by simp,fun k _ hk=>yC w g k _ (fun e=>hk (by simp[zU,e]))⟩,fun k hk=>.inl hk⟩
   ·simp[yJ,zX hu,zX hti,sizeOf,yX,yH,hi,hz,asInt,jr,hmx,hl0,h48,hroom,hsz,Addr.add_lit];simp[hst];intro h0;exact absurd (by rw[hsz];exact h0) hmz
   ·simp only[xJ,qc,xn,xy,yr];simp only[yr]at hfit;omega
   ·rw[htake,<-hlen];simp only[List.toList_toArray];exact fu
  ·have hgr:=grown cap (by omega) none;have hnn:¬(n+m<=cap):=hroom;have h63':¬(9223372036854775807<((n:Int)+(m:Int))):=by omega
   have hfits:Builtin.nextslicecap (n+m) cap*i.bytes<=281474976710656:=fp (by omega) hbytes;have h48':¬(281474976710656<Builtin.nextslicecap (n+m) cap*i.bytes):=by omega
   have holds:∀j u,xs[j]?=some u->w.drew.cell? ((⟨g,0,none⟩:Addr).add j)=some u:=hown.cells (g:=g) rfl;have hfo:=run_firstCells_some (P:=P) w.drew i.size n ⟨g,0,none⟩ n cap xs (by rw[hsz];exact hown.1) holds;refine⟨_,_,?_,hgr.1,⟨hgr.2.os,hgr.2.tape,hgr.2.output,hgr.2.size,fun k hk _=>hgr.2.block k hk (by simp)⟩,fun k hk=>by simp[zU]at hk;exact .inr (by omega)⟩;simp[yJ,zX hu,zX hti,sizeOf,yX,yH,hi,hz,asInt,jr,hmx,hl0,h48,hnn,h63',h48',gz,hmz,hfo,gL,j3]
end
end Go.Sx
end

section
namespace Go.Fl
open Ieee
def nan32 (t:Nat):(single.read ((t%2)*2^31+0x7f800000+1+(t/2)%(2^23-1))).isNaN=true:=by
 have e1:single.signWeight=2147483648:=rfl;have e2:single.binade=8388608:=rfl;have e3:single.infRung=2139095040:=rfl;have hx:(t/2)%(2^23-1)<8388607:=ya _ (by decide);have ht:t%2<2:=ya _ (by decide)
 generalize (t/2)%(2^23-1)=x at *
 generalize t%2=y at *
 have hr:(y*2^31+0x7f800000+1+x)%2147483648=2139095041+x:=by omega
 unfold Format.read;simp only[e1,e2,e3,hr];rw[if_neg (by omega),if_neg (by omega),if_neg (by omega)];rfl
def nan64 (t:Nat):(double.read ((t%2)*2^63+0x7ff0000000000000+1+(t/2)%(2^52-1))).isNaN=true:=by
 have e1:double.signWeight=9223372036854775808:=rfl;have e2:double.binade=4503599627370496:=rfl;have e3:double.infRung=9218868437227405312:=rfl;have hx:(t/2)%(2^52-1)<4503599627370495:=ya _ (by decide);have ht:t%2<2:=ya _ (by decide)
 generalize (t/2)%(2^52-1)=x at *
 generalize t%2=y at *
 have hr:(y*2^63+0x7ff0000000000000+1+x)%9223372036854775808=9218868437227405313+x:=by omega
 unfold Format.read;simp only[e1,e2,e3,hr];rw[if_neg (by omega),if_neg (by omega),if_neg (by omega)];rfl
def read32 (b:Nat):(∃s m e,single.read b=.number s m e∧m<16777216∧-149<=e∧e<=104)∨(∃s,single.read b=.infinity s)∨∃s t,single.read b=.nan s t:=by
 have e1:single.signWeight=2147483648:=rfl;have e2:single.binade=8388608:=rfl;have e3:single.infRung=2139095040:=rfl;have e4:single.leastPlace=-149:=rfl;unfold Format.read;simp only[e1,e2,e3,e4];have hr:b%2147483648<2147483648:=ya _ (by decide)
 generalize b%2147483648=r at *
 split
 ·exact .inl ⟨_,_,_,rfl,by omega,by omega,by omega⟩
 ·split
  ·refine .inl ⟨_,_,_,rfl,?_,?_,?_⟩
   ·have:r%8388608<8388608:=ya _ (by decide);omega
   ·omega
   ·have:r/8388608<=254:=by omega
    omega
  ·split
   ·exact .inr (.inl ⟨_,rfl⟩)
   ·exact .inr (.inr ⟨_,_,rfl⟩)
def juc (way:Toward) (neg:Bool) (n:Nat) (hw:way=.even):way.cut neg n 0=n:=by
 subst hw;simp[Toward.cut,Nat.mod_one]
def jwY {s:Bool} {m:Nat} {e:Int} (hm0:m≠0) (hm:m<9007199254740992) (he1:-1000<=e) (he2:e<=900) :
  double.write (.number s m e)=double.word s ((e+m.log2-52+1074).toNat*4503599627370496+m*2^(52-m.log2))∧m.log2<=52∧4503599627370496<=m*2^(52-m.log2)∧m*2^(52-m.log2)<9007199254740992:=by
 have hl:m.log2<=52:=by
  have:=(Nat.log2_lt hm0 (k:=53)).2 (by omega);omega
 have hlo:2^m.log2<=m:=Nat.log2_self_le hm0;have hhi:m<2^(m.log2+1):=Nat.lt_log2_self;have hp:2^m.log2*2^(52-m.log2)=4503599627370496:=by rw[<-Nat.pow_add,Nat.add_sub_cancel' hl]
 have h1:4503599627370496<=m*2^(52-m.log2):=by rw[<-hp];exact qb _ hlo
 have h2:m*2^(52-m.log2)<9007199254740992:=by
  have h3:m*2^(52-m.log2)<2^(m.log2+1)*2^(52-m.log2):=Nat.mul_lt_mul_of_pos_right hhi (Nat.two_pow_pos _);have h4:2^(m.log2+1)*2^(52-m.log2)=9007199254740992:=by rw[Nat.pow_succ,ym,xI 2,<-ym,hp]
  omega
 refine⟨?_,hl,h1,h2⟩;have e2:double.binade=4503599627370496:=rfl;have e3:double.infRung=9218868437227405312:=rfl;have e4:double.leastPlace=-1074:=rfl;have e5:double.fractionBits=52:=rfl;simp only[Format.write,Format.nearest,if_neg hm0,e2,e3,e4,e5];have hlast:max (e+(m.log2:Int)-52) (-1074)=e+(m.log2:Int)-52:=by omega
 have hlast':max (e+(m.log2:Int)-(52:Nat)) (-1074)=e+(m.log2:Int)-52:=hlast;rw[hlast'];have ha:(e-(e+(m.log2:Int)-52)).toNat=52-m.log2:=by omega
 have hb:((e+(m.log2:Int)-52)-e).toNat=0:=by omega
 rw[ha,hb,juc _ _ _ rfl,Nat.shiftLeft_eq];have hc:(e+(m.log2:Int)-52 - -1074).toNat=(e+(m.log2:Int)-52+1074).toNat:=by omega
 rw[hc];have hd:(e+(m.log2:Int)-52+1074).toNat<=2000:=by omega
 rw[Nat.min_eq_left (by omega)]
def jnz {s:Bool} {r:Nat} (h1:4503599627370496<=r) (h2:r<9218868437227405312):double.read (double.word s r)=.number s (4503599627370496+r%4503599627370496) (-1074+(r/4503599627370496-1:Nat)):=by
 have e1:double.signWeight=9223372036854775808:=rfl;have e2:double.binade=4503599627370496:=rfl;have e3:double.infRung=9218868437227405312:=rfl;have e4:double.leastPlace=-1074:=rfl;unfold Format.read Format.word;simp only[e1,e2,e3,e4];cases s
 ·simp only[Bool.false_eq_true,if_false];have ha:r%9223372036854775808=r:=Nat.mod_eq_of_lt (by omega);have hb:r/9223372036854775808=0:=Nat.div_eq_of_lt (by omega);rw[ha,hb,if_neg (by omega),if_pos h2];rfl
 ·simp only[if_true];have ha:(9223372036854775808+r)%9223372036854775808=r:=by omega
  have hb:(9223372036854775808+r)/9223372036854775808=1:=by omega
  rw[ha,hb,if_neg (by omega),if_pos h2];rfl
def jqJ {s:Bool} {m:Nat} {e:Int} (hm0:m≠0) (hm:m<9007199254740992) (he1:-1000<=e) (he2:e<=900) :
  double.read (double.write (.number s m e))=.number s (m*2^(52-m.log2)) (e+m.log2-52)∧m.log2<=52:=by
 obtain⟨h1,hl,h2,h3⟩:=jwY (s:=s) hm0 hm he1 he2;rw[h1]
 generalize hk:m*2^(52-m.log2)=k at *
 have hK:(e+(m.log2:Int)-52+1074).toNat<=2000:=by omega
 have hK0:0<=e+(m.log2:Int)-52+1074:=by omega
 generalize hq:(e+(m.log2:Int)-52+1074).toNat=q at *
 refine⟨?_,hl⟩;rw[jnz (by omega) (by omega)];have ha:4503599627370496+(q*4503599627370496+k)%4503599627370496=k:=by omega
 have hb:(q*4503599627370496+k)/4503599627370496-1=q:=by omega
 rw[ha,hb]
 congr 1
 omega
def jud (s:Bool) (e:Int):double.read (double.write (.number s 0 e))=.number s 0 (-1074):=by
 cases s<;>simp[Format.write,Format.nearest]<;>rfl
def up64 {b:Nat} {s:Bool} {m:Nat} {e:Int} (h:single.read b=.number s m e):(double.read (double.write (.number s m e))).isInfinity=false:=by
 rcases read32 b with ⟨s',m',e',h',hm,he1,he2⟩|⟨s',h'⟩|⟨s',t',h'⟩
 ·rw[h]at h';cases h'
  by_cases hm0:m=0
  ·subst hm0;rw[jud];rfl
  ·rw[(jqJ hm0 (by omega) (by omega) (by omega)).1];rfl
 ·rw[h]at h';cases h'
 ·rw[h]at h';cases h'
end Go.Fl
end

section
open Go.RowKit
namespace Go.Sx
section
variable [Globs] {P:zP} {I:Env} {B:Kd} {nx:Nat} {hp:Hp} {w:zr} {rd:zZ->Option V} {a:Act} {sp:jab}
def jqK {o:qu} {t h j n elem e ty:Nat} {x:zZ} {cs:List C} {z ds:List D} {c:Cont} (hh:HRel I B hp nx w) (hB:Old B w) (hr:jaB I nx rd a) (ho:o.op=.slice t x none none none)
  (hu:P.underlying t=some (.array n elem)) (hx:rd x=some (.w (.c (.p h 0 1 j)))) (hf:find hp h=some (.box ty cs)) (hs:szT P elem=some (e+1)) (hds:jbh ((cs.drop j).take (n*(e+1)))=some ds)
  (hl:z.length=e+1∧ds.length=n*(e+1)∧0<n) (hc:jeh z (jjp (e+1) n ds)=some c) :
  jaD P I B nx a w o ⟨True,.w (.c (.o nx)),(nx,.view h c true)::hp,nx+1⟩ true:=by
 obtain⟨hz,hdl,hn0⟩:=hl;obtain⟨hlt,hol,g,hk,hBg,hheap⟩:=hh.ok h _ hf;have hck:=jjq (e+1) n ds hdl;have hmk:=jdH hc;have hxv:a.eval x=.pointer (some ⟨g,j,none⟩):=by rw[(hr _ _ hx).2];simp[C.val,hk,base]
 refine jap (I':=upd I nx (.slice (some ⟨g,j,none⟩) n n)) (w':=w) ?_ ?_
 ·unfold xg;have hsb:(yb false n n none none none).run P w=.ok (0,n,n) w:=by simp[yb]
  simp only[ho,hxv,Option.map_none,Instr.sliceAt,zq,zX hu,zn,xh,zt,hsb,jaR w hs];rw[if_neg (by omega)];simp[V.val,W.val,C.val,jaT]
 ·refine jdh hh hB _ (.view h c true) rfl rfl (show V.lt (nx+1) (.w (.c (.o nx)))from zo nx) true (zG hlt (xu nx)) ⟨?_,fun _ a' n' cap' heq=>by rw[upd_same]at heq;cases heq;rfl⟩ rfl
  ·rw[upd_same];refine⟨some ⟨g,j,none⟩,n,by rw[hmk.2.1,hck.2],⟨by rw[hmk.2.1,hck.2];exact zp _,fun h=>by cases h⟩,fun _=>⟨g,j,rfl,fun m x hm=>?_⟩⟩;rw[hmk.1,hck.1]at hm;rw[xP w g _ _ ty (0,0) hheap];have hde:=jbS hds;have hml:m<n*(e+1):=by rw[<-hdl];exact(zC.1 hm).1
   have h1:((cs.drop j).take (n*(e+1)))[m]?=some (C.d x):=by rw[hde,zR,hm];rfl
   rw[qg,if_pos hml,yA]at h1;simp[h1,C.val]
def jue {o:qu} {t elem e b:Nat} {s x:zZ} {c:Call} {us ux:V} {hs hx:Option Nat} {cs cx:Option Cont} {z:List D} {c1 c2 c3:Cont} (hh:HRel I B hp nx w) (hB:Old B w) (hr:jaB I nx rd a)
  (ho:o.op=.call c) (hcal:c.callee=.builtin .append) (hargs:c.args=#[s,x]) (hts:c.argTypes=#[t,t]) (hu:P.underlying t=some (.slice elem))
  (hrs:rd s=some us) (hrx:rd x=some ux) (hss:jbT hp us=some (hs,cs)) (hsx:jbT hp ux=some (hx,cx)) (hz:(jaA P elem).bind jbh=some z) (hsz:szT P elem=some (e+1)) (hby:jaU P elem=some b)
  (hown:match hs,find hp (hs.getD nx)with|none,_=>True|some _,some (.row ty _)=>ty=elem|_,_=>False)
  (h1:jc3 z cs=some c1) (h2:jc3 z cx=some c2) (h3:c1.app c2=some c3) (hzl:z.length=e+1) (he1:c1.e=e+1)
  (hob:(c1.n+c2.n)*b<=140737488355328∧c1.n+c2.n<=9223372036854775807) (hone:∀x∈c2.flat,x.val.oneCell'=true) (r:Res) (hrn:r.nx=nx+1) (hrv:r.v=.w (.c (.o nx)))
  (hrh:r.hp=(nx,.row elem c3)::(match hs with|some h=>(h,.dead)::jaj hp|none=>jaj hp)) :
  jaD P I B nx a w o r false:=by
 have happ:=Cont.app_flat h3;have hvs:=(hr _ _ hrs).2;have hvx:=(hr _ _ hrx).2;cases hi:P.info? elem with
 |none=>simp[szT,hi]at hsz
 |some i =>
  have hsz':i.size=e+1:=by simpa [szT,hi]using hsz
  have hby':i.bytes=b:=by simpa [jaU,hi]using hby
  cases hzz:i.zero with
  |none=>simp[jaA,hi,hzz]at hz
  |some zv =>
   cases hzc:jaA P elem with
   |none=>simp[hzc]at hz
   |some zc =>
    simp only[hzc,zV]at hz;obtain⟨v0,hv0,hvc,_⟩:=jaX (P:=P) (w:=w) (I:=I) hzc
    have hvz:v0=zv:=by
     simp[yH,yX,hi,hzz]at hv0;exact hv0.symm
    subst hvz;have hzce:=jbS hz;have hzs:v0.cells.size=e+1:=by rw[hvc,hzce];simp[hzl]
    have hmk0:∀c,jeh z []=some c->c.n=0∧c.flat=[]:=fun c hc=>by have:=jdH hc;exact⟨this.2.1,this.1⟩
    have hbase:w.ownsRow 0 elem (e+1) (us.val I) c1.n (c1.flat.map D.val)∧(∀k,(us.val I).ownBlock=some k->∃h o,hs=some h∧find hp h=some o∧o.blk (I h)=some k):=by
     rcases jcD hh hss with ⟨rfl,rfl,hv⟩|⟨k,ob,c,rfl,rfl,hv,hf,hc,_⟩
     ·have:=hmk0 c1 h1;rw[hv,this.1,this.2];exact⟨xU w 0 elem (e+1),fun k hk=>by simp[zU]at hk⟩
     ·simp only[jc3,zj]at h1;subst h1;simp only[z9,hf]at hown;cases ob with
      |row ty c' =>
       simp only at hown;subst hown;simp[O.cont]at hc;subst hc;have hok:=(hh.ok k _ hf).2.2;rw[hv];refine⟨by rw[<-he1];exact hok.1,fun g hg=>⟨k,_,rfl,hf,hg⟩⟩
      |_=>exact hown.elim
    have hsrc:((ux.val I)=.slice none 0 0∧c2.n=0)∨∃ad cc,(ux.val I)=.slice (some ad) c2.n cc∧∀j u,(c2.flat.map D.val)[j]?=some u->w.cell? (ad.add j)=some u:=by
     rcases jcD hh hsx with ⟨rfl,rfl,hv⟩|⟨k,ob,c,rfl,rfl,hv,hf,hc,hrow⟩
     ·exact .inl ⟨hv,(hmk0 c2 h2).1⟩
     ·simp only[jc3,zj]at h2;subst h2;obtain⟨a',cap,h5,⟨h6,h6'⟩,h7⟩:=hrow
      by_cases hn:0<c.n
      ·obtain⟨bb,off,rfl,hcell⟩:=h7 hn;refine .inr ⟨⟨bb,off,none⟩,cap,by rw[hv,h5],fun j u hj=>?_⟩;rw[zR]at hj;cases hjx:c.flat[j]? with
       |none=>simp[hjx]at hj
       |some x=>simp[hjx]at hj;subst hj;rw[jaT];exact hcell j x hjx
      ·cases a' with
       |some ad =>
        refine .inr ⟨ad,cap,by rw[hv,h5],fun j u hj=>?_⟩;have hc0:c.n=0:=by omega
        have:c.flat=[]:=z5 (by rw[Cont.flat_length,hc0,yd]);rw[this]at hj;simp at hj
       |none =>
        have hcap:cap=0:=h6' rfl;subst hcap;have:c.n=0:=by omega
        exact .inl ⟨by rw[hv,h5,this],this⟩
    obtain⟨v',w',hrun,hown',hgrown,hwhere⟩:=jej (ty:=o.type) hu hi hzz hsz' hby' hzs hbase.1 (news:=c2.flat.map D.val) (m:=c2.n) (by simp[Cont.flat_length,happ.2.2.2,he1]) (fun u hu2=>by
     obtain⟨x,hx1,rfl⟩:=qn.1 hu2;exact hone x hx1) hsrc hob.2 hob.1
    have hown3:w'.ownsRow 0 elem c3.e v' c3.n (c3.flat.map D.val):=by
     rw[happ.1,happ.2.1,happ.2.2.1,he1,xa];exact hown'
    have hgB:∀k,(us.val I).ownBlock=some k->¬B.all k:=fun k hk=>by
     obtain⟨h,ob,_,hf,hbo⟩:=hbase.2 k hk;exact(O.blk_lt (hh.ok h ob hf).2.2 hbo).2
    refine jap (I':=upd I nx v') (w':=w') ?_ ?_
    ·unfold xg;simp only[ho,hcal,jy,hargs,hts,yj,zL,xp,zq,zt,zn,gc,builtin,hvs,hvx,hrun];simp[hrv,V.val,W.val,C.val]
    ·refine⟨jar _ _ _,by rw[hrv,hrn];exact zo nx,by omega,HRel.gr ?_,jc6 hgrown hgB hB,(fun h=>by cases h),fun h=>by cases h⟩;rw[hrh,hrn]
     refine HRel.grow hh hB hgrown hgB ?_ ?_ (by unfold O.ok;rw[upd_same];exact⟨hown3,fun k hk hc=>by
      rcases hwhere k hk with h|h
      ·exact hgB k h hc
      ·have:=hB k hc;omega⟩) trivial (fun k hk=>hwhere k hk)
     ·intro k o1 hk;cases hs with
      |none=>exact .inl hk
      |some h =>
       simp only[find]at hk;split at hk
       ·rename_i e;cases hk;refine .inr ⟨rfl,?_⟩;rcases jcD hh hss with ⟨h',_,_⟩|⟨k2,ob,c,h',_,_,hf,_,_⟩
        ·cases h'
        ·cases h';rw[<-e];exact(hh.ok _ _ hf).1
       ·exact .inl hk
     ·intro k o1 g hk hbk hvg;obtain⟨h,ob,rfl,hf,hbo⟩:=hbase.2 g hvg;simp only[find]at hk;split at hk
      ·cases hk;simp[O.blk]at hbk
      ·rename_i hne;obtain⟨o2,h2',_,_,_,_,h7⟩:=jaI hh hk;exact hh.apart h ob k o2 g hf h2' hne hbo (h7 g hbk)
def juf (z:Array zs) (n:Nat):(qV z n).toList=(zh n z.toList).flatten:=by
 apply xA;intro i
 by_cases hi:i<n*z.size
 ·have h0:0<z.size:=by
   rcases Nat.eq_zero_or_pos z.size with h|h
   ·rw[h]at hi;omega
   ·exact h
  have hm:=ya i h0;rw[jei z.toList n i (by simpa using hi)];simp[qV,hi,hm]
 ·rw[z7 (by simp[qV];omega),z7 (by simp;omega)]
def jxP {o:qu} {t elem e b:Nat} {s x:zZ} {c:Call} {us ux:V} {h:Nat} {c0:Cont} {t':Nat} {ik kx:IntKind} {mi:Int} {z:List D} {c1 c2 c3:Cont} (hh:HRel I B hp nx w) (hB:Old B w) (hr:jaB I nx rd a)
  (ho:o.op=.call c) (hcal:c.callee=.builtin .append) (hargs:c.args=#[s,x]) (hts:c.argTypes=#[t,t']) (hti:P.underlying t'=some (.int ik)) (hu:P.underlying t=some (.slice elem))
  (hrs:rd s=some us) (hrx:rd x=some ux) (hss:jbT hp us=some (some h,some c1)) (hxm:ux.int?=some (kx,mi)) (hmp:0<mi) (hz:(jaA P elem).bind jbh=some z) (hsz:szT P elem=some (e+1)) (hby:jaU P elem=some b)
  (hown:find hp h=some (.row elem c0))
  (h2:jf5 z mi.toNat=some c2) (h3:c1.app c2=some c3) (hzl:z.length=e+1) (he1:c1.e=e+1)
  (hob:(c1.n+c2.n)*b<=140737488355328∧c1.n+c2.n<=9223372036854775807) (hone:∀x∈c2.flat,x.val.oneCell'=true) (r:Res) (hrn:r.nx=nx+1) (hrv:r.v=.w (.c (.o nx)))
  (hrh:r.hp=(nx,.row elem c3)::(h,.dead)::jaj hp) :
  jaD P I B nx a w o r false:=by
 have happ:=Cont.app_flat h3;have hvs:=(hr _ _ hrs).2;have hvx:=(hr _ _ hrx).2;cases hi:P.info? elem with
 |none=>simp[szT,hi]at hsz
 |some i =>
  have hsz':i.size=e+1:=by simpa [szT,hi]using hsz
  have hby':i.bytes=b:=by simpa [jaU,hi]using hby
  cases hzz:i.zero with
  |none=>simp[jaA,hi,hzz]at hz
  |some zv =>
   cases hzc:jaA P elem with
   |none=>simp[hzc]at hz
   |some zc =>
    simp only[hzc,zV]at hz;obtain⟨v0,hv0,hvc,_⟩:=jaX (P:=P) (w:=w) (I:=I) hzc
    have hvz:v0=zv:=by
     simp[yH,yX,hi,hzz]at hv0;exact hv0.symm
    subst hvz;have hzce:=jbS hz;have hzs:v0.cells.size=e+1:=by rw[hvc,hzce];simp[hzl]
    have hbase:w.ownsRow 0 elem (e+1) (us.val I) c1.n (c1.flat.map D.val)∧(∀k,(us.val I).ownBlock=some k->(O.row elem c0).blk (I h)=some k):=by
     rcases jcD hh hss with ⟨h',_,hv⟩|⟨k,ob,c,h',h'',hv,hf,hc,_⟩
     ·cases h'
     ·cases h';cases h'';rw[hown]at hf;cases hf;simp[O.cont]at hc;subst hc;have hok:=(hh.ok _ _ hown).2.2;rw[hv];exact⟨by rw[<-he1];exact hok.1,fun g hg=>hg⟩
    have hrep:=jkW h2;have hc2n:(c2.n:Int)=mi:=by rw[hrep.2.1];omega
    have hzl2:(qV v0.cells c2.n).toList=c2.flat.map D.val:=by
     rw[juf,hrep.1,hrep.2.1,hvc,hzce];simp[List.map_flatten,List.map_replicate,C.val,xS]
    obtain⟨v',w',hrun,hown',hgrown,hwhere⟩:=jpw (ty:=o.type) (k:=kx) (m:=c2.n) hu hti hi hzz hsz' hby' hzs hbase.1 (fun u hu2=>by
     rw[hzl2]at hu2;obtain⟨x,hx1,rfl⟩:=qn.1 hu2;exact hone x hx1) (by omega) hob.2 hob.1
    rw[hzl2]at hown';rw[hc2n]at hrun;rw[V.int?_eq hxm]at hvx
    have hown3:w'.ownsRow 0 elem c3.e v' c3.n (c3.flat.map D.val):=by
     rw[happ.1,happ.2.1,happ.2.2.1,he1,xa];exact hown'
    have hgB:∀k,(us.val I).ownBlock=some k->¬B.all k:=fun k hk=>by
     exact(O.blk_lt (hh.ok h _ hown).2.2 (hbase.2 k hk)).2
    refine jap (I':=upd I nx v') (w':=w') ?_ ?_
    ·unfold xg;simp only[ho,hcal,jy,hargs,hts,yj,zL,xp,zq,zt,zn,gc,builtin,hvs,hvx,vi_val,hrun];simp[hrv,V.val,W.val,C.val]
    ·refine⟨jar _ _ _,by rw[hrv,hrn];exact zo nx,by omega,HRel.gr ?_,jc6 hgrown hgB hB,(fun h=>by cases h),fun h=>by cases h⟩;rw[hrh,hrn]
     refine HRel.grow hh hB hgrown hgB ?_ ?_ (by unfold O.ok;rw[upd_same];exact⟨hown3,fun k hk hc=>by
      rcases hwhere k hk with h|h
      ·exact hgB k h hc
      ·have:=hB k hc;omega⟩) trivial (fun k hk=>hwhere k hk)
     ·intro k o1 hk;simp only[find]at hk;split at hk
      ·rename_i e;cases hk;refine .inr ⟨rfl,?_⟩;rw[<-e];exact(hh.ok _ _ hown).1
      ·exact .inl hk
     ·intro k o1 g hk hbk hvg;have hbo:=hbase.2 g hvg;simp only[find]at hk;split at hk
      ·cases hk;simp[O.blk]at hbk
      ·rename_i hne;obtain⟨o2,h2',_,_,_,_,h7⟩:=jaI hh hk;exact hh.apart h _ k o2 g hown h2' hne hbo (h7 g hbk)
def jsU {o:qu} {t elem e b h q:Nat} {s x:zZ} {c:Call} {ux:V} {hx:Option Nat} {cx:Option Cont} {z:List D} {c1 c2 c3:Cont} (hh:HRel I B hp nx w) (hB:Old B w) (hr:jaB I nx rd a)
  (ho:o.op=.call c) (hcal:c.callee=.builtin .append) (hargs:c.args=#[s,x]) (hts:c.argTypes=#[t,t]) (hu:P.underlying t=some (.slice elem))
  (hrs:rd s=some (.w (.c (.o h)))) (hf:find hp h=some (.view q c1 true)) (hrx:rd x=some ux) (hsx:jbT hp ux=some (hx,cx)) (hz:(jaA P elem).bind jbh=some z) (hsz:szT P elem=some (e+1)) (hby:jaU P elem=some b)
  (h2:jc3 z cx=some c2) (h3:c1.app c2=some c3) (hzl:z.length=e+1) (he1:c1.e=e+1) (hn1:0<c1.n)
  (hob:0<c2.n∧(c1.n+c2.n)*b<=140737488355328∧c1.n+c2.n<=9223372036854775807) (r:Res) (hrn:r.nx=nx+1) (hrv:r.v=.w (.c (.o nx)))
  (hrh:r.hp=(nx,.row elem c3)::hp):jaD P I B nx a w o r false:=by
 have happ:=Cont.app_flat h3;have hvs:a.eval s=I h:=(hr _ _ hrs).2;have hvx:=(hr _ _ hrx).2;obtain⟨hlt,hol,⟨a1,cap1,hv1,hc1,hcell1⟩,hfull⟩:=hh.ok h _ hf;have hcap:=hfull rfl _ _ _ hv1;subst hcap;obtain⟨b1,off1,rfl,hx1⟩:=hcell1 hn1;cases hi:P.info? elem with
 |none=>simp[szT,hi]at hsz
 |some i =>
  have hsz':i.size=e+1:=by simpa [szT,hi]using hsz
  have hby':i.bytes=b:=by simpa [jaU,hi]using hby
  cases hzz:i.zero with
  |none=>simp[jaA,hi,hzz]at hz
  |some zv =>
   cases hzc:jaA P elem with
   |none=>simp[hzc]at hz
   |some zc =>
    simp only[hzc,zV]at hz;obtain⟨v0,hv0,hvc,_⟩:=jaX (P:=P) (w:=w) (I:=I) hzc
    have hvz:v0=zv:=by
     simp[yH,yX,hi,hzz]at hv0;exact hv0.symm
    subst hvz;have hzce:=jbS hz;have hzs:v0.cells.size=e+1:=by rw[hvc,hzce];simp[hzl]
    have hmk0:∀c,jeh z []=some c->c.n=0∧c.flat=[]:=fun c hc=>by have:=jdH hc;exact⟨this.2.1,this.1⟩
    obtain⟨ad,cc,hxv,hx2⟩:∃ad cc,(ux.val I)=.slice (some ad) c2.n cc∧∀j u,(c2.flat.map D.val)[j]?=some u->w.cell? (ad.add j)=some u:=by
     rcases jcD hh hsx with ⟨rfl,rfl,hv⟩|⟨k,ob,c,rfl,rfl,hv,hf,hc,hrow⟩
     ·have:=(hmk0 c2 h2).1;omega
     ·simp only[jc3,zj]at h2;subst h2;obtain⟨a',cap,h5,⟨h6,h6'⟩,h7⟩:=hrow;obtain⟨bb,off,rfl,hcell⟩:=h7 hob.1;refine⟨⟨bb,off,none⟩,cap,by rw[hv,h5],fun j u hj=>?_⟩;rw[zR]at hj;cases hjx:c.flat[j]? with
      |none=>simp[hjx]at hj
      |some x=>simp[hjx]at hj;subst hj;rw[jaT];exact hcell j x hjx
    have hl1:(c1.flat.map D.val).length=c1.n*i.size:=by simp[Cont.flat_length,he1,hsz']
    have hl2:(c2.flat.map D.val).length=c2.n*i.size:=by simp[Cont.flat_length,happ.2.2.2,he1,hsz']
    have hrun:=kl (P:=P) w t o.type elem i v0 hu hi hzz ⟨b1,off1,none⟩ c1.n c1.n (c1.flat.map D.val) hl1 (fun j u hj=>by
     rw[zR]at hj;cases hjx:c1.flat[j]? with
     |none=>simp[hjx]at hj
     |some x=>simp[hjx]at hj;subst hj;rw[jaT];exact hx1 j x hjx) ad c2.n cc (c2.flat.map D.val) hl2 hx2 (by omega) (by have:=hob.2.2;omega) (fp (by omega) (by rw[hby'];exact hob.2.1))
    have hge:=grownCap_ge w (c1.n+c2.n) c1.n elem;have hcm:j3 w (c1.n+c2.n) c1.n elem<=g8:=fL w (c1.n+c2.n) c1.n elem (by have:=hob.2.2;simpa [g8]using this);have hbel:yn w.heap.size w (w.drew.alloc (.cells ((c1.flat.map D.val).toArray++(c2.flat.map D.val).toArray++qV v0.cells (j3 w (c1.n+c2.n) c1.n elem-(c1.n+c2.n))) elem)):=((xM _ w).drew).alloc (zp _) _
    refine jap (I':=upd I nx (.slice (some ⟨w.heap.size,0,none⟩) (c1.n+c2.n) (j3 w (c1.n+c2.n) c1.n elem)))
     (w':=w.drew.alloc (.cells ((c1.flat.map D.val).toArray++(c2.flat.map D.val).toArray++qV v0.cells (j3 w (c1.n+c2.n) c1.n elem-(c1.n+c2.n))) elem)) ?_ ?_
    ·unfold xg;simp only[ho,hcal,jy,hargs,hts,yj,zL,xp,zq,zt,zn,gc,builtin,hvs,hvx,hv1,hxv,hrun];simp[hrv,V.val,W.val,C.val]
    ·refine⟨jar _ _ _,by rw[hrv,hrn];exact zo nx,by omega,HRel.gr ?_,jc2 hbel hB,(fun h=>by cases h),fun h=>by cases h⟩;rw[hrh,hrn];refine hh.add hbel hB (jar _ _ _) trivial ⟨?_,fun k hk hc=>?_⟩ (by simp[O.blk,zU])
     ·rw[upd_same,happ.1,happ.2.1,happ.2.2.1,he1,xa];refine⟨by rw[qc,hl1,hl2,hsz',<-qE],.inr ⟨w.heap.size,_,_,rfl,xE _,jd w.drew _,hge,hcm,?_,?_⟩⟩
      ·simp only[fR,xJ,ft,hzs,hl1,hl2,hsz',<-qE]
       congr 1
       omega
      ·simp only[fF];have:((c1.flat.map D.val)++(c2.flat.map D.val)).length=(c1.n+c2.n)*(e+1):=by rw[qc,hl1,hl2,hsz',<-qE]
       rw[<-this];exact fu
     ·rw[upd_same]at hk;simp only[zU,zj]at hk;have:=hB k hc;omega
def jrZ (hr:jaB I nx rd a):∀(xs:List zZ) (l:List V),jjr rd xs=some l->xs.map a.eval=l.map (V.val I)∧∀v∈l,V.lt nx v
 |[],l,h=>by simp only[jjr,zj]at h;subst h;exact⟨rfl,fun _ h=>by cases h⟩
 |x::r,l,h=>by
  simp only[jjr]at h;split at h
  ·rename_i v l' hx hl;cases h;have ih:=jrZ hr r l' hl;have h1:=hr x _ hx;refine⟨by simp only[zL,ih.1,h1.2],fun y hy=>?_⟩;rcases qr.1 hy with rfl|hy
   ·exact h1.1
   ·exact ih.2 y hy
  ·cases h
def jpx {o:qu} {c:Call} {f:zZ} {g:Nat} {hs:List Nat} {vs:List V} {M:Bool} {S:Spec} {r:RT} (hh:HRel I B hp nx w) (hB:Old B w) (hr:jaB I nx rd a)
  (ho:o.op=.call c) (hcal:c.callee=.value f) (hrf:rd f=some (.w (.c (.fn g hs)))) (hvs:jjr rd c.args.toList=some vs) (hok:jaF P g M S)
  (hS:S (vs++hs.map fun h=>.w (.c (.o h))) hp nx=some r) (hob:r.sel.ob):jaD P I B nx a w o r.sel M:=by
 have hf:=hr _ _ hrf;have hargs:=jrZ hr _ _ hvs
 have hltA:∀x∈vs++hs.map (fun h=>V.w (.c (.o h))),V.lt nx x:=fun x hx=>by
  rcases qR.1 hx with h|h
  ·exact hargs.2 x h
  ·obtain⟨k,hk,rfl⟩:=qn.1 h;exact hf.1 k hk
 have ha:c.args.map a.eval=(vs.map (V.val I)).toArray:=by
  rw[<-hargs.1];apply xf;simp
 have hcall:(xg a.eval o).run P w=(callFunc g ((vs++hs.map fun h=>V.w (.c (.o h))).map (V.val I)).toArray).run P w:=by
  unfold xg;simp only[ho,jy,hcal,hf.2,ha,gY,V.val,W.val,C.val,zq,zt,zn,gc]
  congr 2
  simp[V.val,W.val,C.val,xS]
 rcases hok with hok|hok
 ·intro K Q hK;have hcalls:=hok.sound I B w _ hp nx r hS hob hltA hh hB;unfold Oper.wp;rw[hcall,hok.enter];refine hcalls.mono fun e w' ⟨I',he',hl⟩=>?_;subst he';exact hK I' w' hl
 ·obtain⟨ob,v,hsel,hv,hrun⟩:=hok I B w _ hp nx r hS hob hltA hh hB;rw[hsel];exact jap (I':=I) (w':=w) (hcall.trans hrun) ⟨jah.refl _ _,hv,zp _,hh.gr,Bel.refl _ _,(fun _=>xM _ _),fun _ h o k hn hf _=>absurd (hh.ok h o hf).1 (by omega)⟩
def jcQ {o:qu} {r:Res} (hsp:jam P sp) (hh:HRel I B hp nx w) (hB:Old B w) (hr:jaB I nx rd a) (h:jda P sp o.op rd hp nx=some r) (hob:r.ob) :
  jaD P I B nx a w o r (jau sp o.op rd):=by
 unfold jda at h;split at h
 ·rename_i ob v hv;cases h;have hrun:=jd8 hh hr hv hob;refine jap (I':=I) (w':=w) hrun.1 ⟨jah.refl _ _,hrun.2,zp _,hh.gr,Bel.refl _ _,(fun _=>xM _ _),fun _ h o k hn hf _=>absurd (hh.ok h o hf).1 (by omega)⟩
 ·rename_i hnone;clear hnone;split at h
  ·rename_i r0 hX;cases h;exact jvZ hh hB hr hX hob
  rename_i hnone;clear hnone;split at h
  ·rename_i r0 hX;cases h;exact jv3 hh hB hr hX hob
  rename_i hnone;clear hnone;split at h
  ·rename_i r0 hX;cases h;exact jv5 hh hB hr hX hob
  rename_i hnone;clear hnone;split at h
  ·rename_i r0 hX;cases h;exact jv1 hh hB hr hX hob
  rename_i hnone;clear hnone;unfold jpm at h;split at h
  ·-- box
   rename_i elem x hop;split at h
   ·rename_i u hx;split at h
    ·rename_i hone;cases h;simp only[hop,jau];exact jze hh hB hr hop hx hone
    ·cases h
   ·cases h
  ·rename_i elem hop;split at h
   ·rename_i z hz;cases h;simp only[hop,jau];exact jvY hh hB hop hz
   ·cases h
  ·rename_i t n parts hop;split at h
   ·rename_i elem l hu hl;split at h
    ·rename_i c hc;cases h;simp only[hop,jau];exact jcO (job hh hB hr hop hu hl hc)
    ·cases h
   ·cases h
  ·-- makeSlice
   rename_i t l c hop;split at h
   ·rename_i elem k n k' m hu hl hc;split at h
    ·rename_i z e b hz hs hb;split at h
     ·rename_i hzl;split at h
      ·rename_i cc hcc;cases h;simp only[hop,jau];cases hrl:rd l with
       |none=>simp[hrl]at hl
       |some u =>
        cases hrc:rd c with
        |none=>simp[hrc]at hc
        |some u' =>
         simp only[hrl,zV]at hl;simp only[hrc,zV]at hc;exact jpo hh hB hr hop hu hrl hl hrc hc hz hs hb hzl hcc hob
      ·cases h
     ·cases h
    ·cases h
   ·cases h
  ·-- slice
   rename_i t x lo hi hop;split at h
   ·rename_i n elem k j hu hx hlo hhi
    have hlo':lo=none:=by
     cases lo with
     |none=>rfl
     |some y=>simp only[ja0]at hlo;split at hlo<;>simp at hlo
    have hhi':hi=none:=by
     cases hi with
     |none=>rfl
     |some y=>simp only[ja0]at hhi;split at hhi<;>simp at hhi
    subst hlo';subst hhi';split at h
    ·rename_i ty cs e z hf hs hz;split at h
     ·rename_i ds hds;split at h
      ·rename_i hl;split at h
       ·rename_i c hc;cases h;simp only[hop,jau];exact jcO (jqK hh hB hr hop hu hx hf hs hds hl hc)
       ·cases h
      ·cases h
     ·cases h
    ·cases h
   ·rename_i elem k l m hu hx hlo hhi;split at h
    ·rename_i ob e hf hs;split at h
     ·rename_i c hc;split at h
      ·rename_i hce;cases h;simp only[hop,jau];exact jcO (joc hh hB hr hop hu hx hlo hhi hf hs hc hce hob _ rfl rfl rfl)
      ·cases h
     ·cases h
    ·cases h
   ·cases h
  ·-- store
   rename_i t x y hop;split at h
   ·rename_i k i e j u hx hy;split at h
    ·rename_i hc;obtain⟨hone,hs,hall⟩:=hc;split at h
     ·rename_i ty cs hf;split at h
      ·rename_i hle;cases h;simp only[hop,jau];exact jqG hh hr hop hx hy hone hs hall hf hle
      ·cases h
     ·rename_i ty c hf;split at h
      ·rename_i ds hds;split at h
       ·rename_i c' hc';split at h
        ·rename_i he;cases h;simp only[hop,jau];exact jeJ hh hr hop hx hy hone hs hall hf hds (Cont.upd_cell hc' hob) he.1 he.2 hob
        ·cases h
       ·cases h
      ·cases h
     ·cases h
    ·cases h
   ·cases h
  ·-- call
   rename_i c hop;split at h
   ·-- append
    rename_i s x t t' hcal hargs hts;split at h
    ·rename_i htt;subst htt;split at h
     ·rename_i cv hfv;unfold jtO at hfv;split at hfv
      ·rename_i k hrs;split at hfv
       ·rename_i q c1 hfk;cases hfv;unfold jhO at h;split at h
        ·rename_i elem hx cx hu hsx;split at h
         ·rename_i z e b hz hsz hby;split at h
          ·rename_i c2 h2;split at h
           ·rename_i c3 h3;split at h
            ·rename_i hcond;cases h;have e1:c.args=#[s,x]:=by apply xf;simpa using hargs
             have e2:c.argTypes=#[t,t]:=by apply xf;simpa using hts
             cases hrx:rd x with
             |none=>simp[hrx]at hsx
             |some ux =>
              simp only[hrx,zV]at hsx;have hm:jau sp o.op rd=false:=by simp only[hop,jau,hcal]
              rw[hm];exact jsU hh hB hr hop hcal e1 e2 hu hrs hfk hrx hsx hz hsz hby h2 h3 hcond.1 hcond.2 hob.1 hob.2 _ rfl rfl rfl
            ·cases h
           ·cases h
          ·cases h
         ·cases h
        ·cases h
       ·cases hfv
      ·cases hfv
     ·rename_i hfv;split at h
      ·rename_i elem hs cs hx cx hu hss hsx;split at h
       ·rename_i z e b hz hsz hby;split at h
        ·rename_i c1 c2 hownB h1 h2;split at h
         ·rename_i c3 h3;split at h
          ·rename_i hcond;cases h;have e1:c.args=#[s,x]:=by apply xf;simpa using hargs
           have e2:c.argTypes=#[t,t]:=by apply xf;simpa using hts
           cases hrs:rd s with
           |none=>simp[hrs]at hss
           |some us =>
            cases hrx:rd x with
            |none=>simp[hrx]at hsx
            |some ux =>
             simp only[hrs,zV]at hss;simp only[hrx,zV]at hsx;have hm:jau sp o.op rd=false:=by simp only[hop,jau,hcal]
             rw[hm];refine jue hh hB hr hop hcal e1 e2 hu hrs hrx hss hsx hz hsz hby ?_ h1 h2 h3 hcond.1 hcond.2.1 hob (Cont.one_all hcond.2.2) _ rfl rfl rfl;cases hs with
             |none=>trivial
             |some k =>
              simp only[z9]at hownB ⊢;cases hfk:find hp k with
              |none=>simp[hfk]at hownB
              |some ob =>
               cases ob with
               |row ty c'=>simp only[hfk]at hownB;exact beq_iff_eq.1 hownB
               |_=>simp[hfk]at hownB
          ·cases h
         ·cases h
        ·cases h
       ·cases h
      ·cases h
    ·unfold joa at h;split at h
     ·rename_i elem ik k c1 kx m hu hti hss hxm;split at h
      ·rename_i ty c0 z e b hf hz hsz hby;split at h
       ·rename_i c2 h2;split at h
        ·rename_i c3 h3;split at h
         ·rename_i hcond;cases h;obtain⟨q1,q2,q3,q4⟩:=hcond;subst q4;have e1:c.args=#[s,x]:=by apply xf;simpa using hargs
          have e2:c.argTypes=#[t,t']:=by apply xf;simpa using hts
          obtain⟨us,hrs,hss⟩:=zK.1 hss;obtain⟨ux,hrx,hxm⟩:=zK.1 hxm;have hm:jau sp o.op rd=false:=by simp only[hop,jau,hcal]
          rw[hm];exact jeL (jxP hh hB hr hop hcal e1 e2 hti hu hrs hrx hss hxm hob.1 hz hsz hby hf h2 h3 q1 q2 hob.2 (Cont.one_all q3) ⟨True,.w (.c (.o nx)),(nx,.row ty c3)::(k,.dead)::jaj hp,nx+1⟩ rfl rfl rfl)
         ·cases h
        ·cases h
       ·cases h
      ·cases h
     ·cases h
   ·-- a call
    rename_i f args ats hcal;split at h
    ·rename_i g hs vs hrf hvs;split at h
     ·rename_i M S hsg;have hm:jau sp o.op rd=M:=by simp only[hop,jau,hcal,hrf,hsg]
      rw[hm];obtain⟨t,ht,hl⟩:=zK.1 h;cases t with
      |leaf r0 =>
       cases hl;exact jpx hh hB hr hop hcal hrf hvs (hsp g M S hsg) ht hob
      |br=>cases hl
     ·cases h
    ·cases h
   ·cases h
  ·cases h
def drew (w:zr):zr:={ w with drawn:=w.drawn+1 }
def jjt (n:Nat) (w:zr):yn n w (drew w):=⟨rfl,rfl,rfl,zp _,fun _ _=>rfl⟩
def jwZ {r:Res} (hh:HRel I B hp nx w) (hB:Old B w) {k:qd} {n:Nat} (hn:(k.decode n).isNaN=true) (hrv:r.v=.w (.c (.o nx))) (hr:r.hp=(nx,.nan k)::hp) (hrn:r.nx=nx+1) (M:Bool) :
  Left I B nx w r M (upd I nx (.float k n)) (drew w):=by
 refine⟨jar _ _ _,by rw[hrn,hrv];exact zo nx,by omega,HRel.gr ?_,⟨rfl,rfl,rfl,zp _,fun _ _=>rfl⟩,fun _=>jjt _ _,fun _ h o q hnh hf hk=>?_⟩
 ·rw[hr,hrn];exact hh.add (jjt _ w) hB (jar _ _ _) trivial ⟨n,upd_same _ _ _,hn⟩ (by simp[O.blk])
 ·rw[hr]at hf;simp only[find]at hf;split at hf
  ·cases hf;cases hk
  ·have:=(hh.ok h o hf).1;omega
def jug {k:qd} {x y t:Nat}:(k.decode ((f5 k x y).cut t)).isNaN=true:=by
 cases k
 ·exact Fl.nan32 t
 ·exact Fl.nan64 t
def juh {k:qd} {x t:Nat}:(k.decode ((f6 k x).cut t)).isNaN=true:=by
 cases k
 ·exact Fl.nan32 t
 ·exact Fl.nan64 t
def jv6 {o:qu} {t:RT} (hsp:jam P sp) (hh:HRel I B hp nx w) (hB:Old B w) (hr:jaB I nx rd a) (h:jxM P sp o.op rd hp nx=some t) (hob:t.sel.ob) :
  ∃M,jaD P I B nx a w o t.sel M:=by
 unfold jxM at h;split at h
 ·rename_i op ty x y yt hop;split at h
  ·rename_i k m k' n hx hy;split at h
   ·rename_i r hk hr2;have hk:=jbV hk;subst hk;cases h;have h1:=(hr _ _ hx).2;have h2:=(hr _ _ hy).2
    have hg:(eqGuard op ty x y (yW k m) (yW k n)).run P w=.ok () w:=by
     cases op<;>simp[eqGuard]
    have hb:binOp op ty (.float k m) (.float k n)=gp op k m n:=by
     unfold jxL at hr2;cases op<;>simp at hr2<;>simp[binOp]
    have hfa:gp op k m n=(match(generalizing:=false) r with|some q=>pure (.float k q)|none=>(choose (.nanBits k m n) >>= fun z=>pure (.float k z)):Sem zs):=by
     unfold jxL at hr2;cases op<;>simp at hr2<;>subst hr2<;>simp[gp]<;>split<;>rename_i hq<;>simp[hq]
    cases r with
    |some q =>
     refine⟨true,?_⟩;refine jap (I':=I) (w':=w) ?_ ⟨jah.refl _ _,trivial,zp _,hh.gr,Bel.refl _ _,(fun _=>xM _ _),fun _ h o k hn hf _=>absurd (hh.ok h o hf).1 (by omega)⟩;unfold xg;have e1:a.eval x=.float k m:=h1;have e2:a.eval y=.float k n:=h2;simp only[hop,e1,e2,zq,hg,zn,hb,hfa,zt];rfl
    |none =>
     refine⟨true,?_⟩;refine jap (I':=upd I nx (.float k ((f5 k m n).cut (w.tape w.drawn (.nanBits k m n))))) (w':=drew w) ?_ (jwZ hh hB jug rfl rfl rfl true);unfold xg;have e1:a.eval x=.float k m:=h1;have e2:a.eval y=.float k n:=h2;simp only[hop,e1,e2,zq,hg,zn,hb,hfa,choose,Sem.run,gz];simp[RT.sel,V.val,W.val,C.val,drew]
   ·cases h
  ·cases h
 ·rename_i src dst x hop;split at h
  ·rename_i n hs hd hx;cases h;have h1:=(hr _ _ hx).2;have e1:a.eval x=.float .f32 n:=h1;have hc:convert src dst (.float .f32 n)=(convert src dst (.float .f32 n)):=rfl
   have hrun:(convert src dst (.float .f32 n)).run P w=(j4 .f32 n .f64).run P w:=by
    simp[convert,zX hs,zX hd]
   unfold jmH jeg;cases hdec:qM .f32 n with
   |nan s f =>
    refine⟨true,?_⟩;refine jap (I':=upd I nx (.float .f64 ((f6 .f64 n).cut (w.tape w.drawn (.nanConv .f64 n))))) (w':=drew w) ?_ (jwZ hh hB juh rfl rfl rfl true);unfold xg;simp only[hop,e1,zq,hrun];simp[j4,hdec,choose,Sem.run,gz,RT.sel,V.val,W.val,C.val,drew,jz]
   |infinity s =>
    refine⟨true,?_⟩;refine jap (I':=I) (w':=w) ?_ ⟨jah.refl _ _,trivial,zp _,hh.gr,Bel.refl _ _,(fun _=>xM _ _),fun _ h o k hn hf _=>absurd (hh.ok h o hf).1 (by omega)⟩;unfold xg;simp only[hop,e1,zq,hrun];simp[j4,hdec,RT.sel,V.val,W.val,C.val,D.val,vf,jz]
   |number s m e =>
    refine⟨true,?_⟩;refine jap (I':=I) (w':=w) ?_ ⟨jah.refl _ _,trivial,zp _,hh.gr,Bel.refl _ _,(fun _=>xM _ _),fun _ h o k hn hf _=>absurd (hh.ok h o hf).1 (by omega)⟩;unfold xg;have hinf:(qM .f64 (jw .f64 (.number s m e))).isInfinity=false:=Fl.up64 (b:=n) hdec;simp only[hop,e1,zq,hrun];simp[j4,hdec,hinf,RT.sel,V.val,W.val,C.val,D.val,vf,jz]
  ·cases h
 ·rename_i c hop;split at h
  ·rename_i f hcal;split at h
   ·rename_i g hs vs hrf hvs;split at h
    ·rename_i M S hsg;exact⟨M,jpx hh hB hr hop hcal hrf hvs (hsp g M S hsg) h hob⟩
    ·cases h
   ·cases h
  ·cases h
 ·cases h
end
end Go.Sx
end

section
open Go.RowKit
namespace Go.Sx
structure St where
 tm:List (Nat × V)
 hp:Hp
 nx:Nat
def jaP:List (Nat × V)->Nat->Option V|[],_=>none|(k,v)::r,t=>if k=t then some v else jaP r t
def jcv [Globs] (st:St):zZ->Option V| .tmp t=>jaP st.tm t| .const v=>some (.w (ofValue v))| .global g=>(match Globs.tab g with|some c=>some (.w (.c (.g g 0 c.e 0)))|none=>some (.w (.c (.d (.v (.pointer (some ⟨g,0,none⟩)))))))| .func f=>some (.w (.c (.fn f [])))
structure RelD [Globs] (ds:List yK) (I:Env) (B:Kd) (N n0:Nat) (st:St) (a:Act) (w:zr):Prop where
 tm:∀t v,jaP st.tm t=some v->v.lt st.nx∧a.tmps.getD t zJ=v.val I
 size:a.tmps.size=N
 defers:a.defers=ds
 heap:∃B',Grow B B' false w w∧HRel I B' st.hp st.nx w
 le:Old B w
 n0:n0<=st.nx
abbrev Rel [Globs]:=RelD []
def RelD.reads [Globs] {ds:List yK} {I:Env} {B:Kd} {N n0:Nat} {st:St} {a:Act} {w:zr} (h:RelD ds I B N n0 st a w):jaB I st.nx (jcv st) a:=by
 intro x u hx;cases x with
 |tmp t=>exact h.tm t u hx
 |const v =>
  simp only[jcv,zj]at hx;subst hx;exact⟨jo9 _ v,(jnn I v).symm⟩
 |global g =>
  simp only[jcv]at hx;split at hx
  ·cases hx;exact⟨trivial,by simp[V.val,W.val,C.val,Act.eval]⟩
  ·cases hx;exact⟨trivial,rfl⟩
 |func f =>
  simp only[jcv,zj]at hx;subst hx;exact⟨(fun _ hh=>by cases hh),by simp[V.val,W.val,C.val,Act.eval]⟩
def Br (b:Bool) (x y:Prop):Prop:=Bool.rec (motive:=fun _=>Prop) y x b
structure Ob (p:Prop):Prop where
 h:p
def Br.intro {b:Bool} {x y:Prop} (h:b=true->x) (k:b=false->y):Br b x y:=by
 cases b
 ·exact k rfl
 ·exact h rfl
def St.put (st:St) (d:Option Nat) (r:Res):St :=match d with|some t=>⟨(t,r.v)::st.tm,r.hp,r.nx⟩|none=>⟨st.tm,r.hp,r.nx⟩
def jcR (N:Nat):Option Nat->Bool|some t=>xD t N|none=>true
def jbw (op:Op) (rd:zZ->Option V) (hp:Hp):Bool :=
 match op with
 | .move _ | .assign _ | .pick _ _ _ | .unOp _ _ _ | .extract _ _ | .field _ _ _ | .nilCheck _ | .fieldAddr _ _ _ | .build _ _ | .makeFunc _ _ _ | .box _ _ | .alloc _ | .buildSlice _ _ _=>true
 | .binOp op _ x _ _=>match op with
  | .quo | .rem | .shl | .shr=>false
  | .add=>match(rd x).bind V.str?,(rd x).bind V.flt? with
   |none,none=>true
   |_,_=>false
  | .mul=>match(rd x).bind V.flt? with
   |none=>true
   |some _=>false
  |_=>true
 | .load _ x=>match rd x with|some (.w (.c (.p h _ (_+1) _)))=>(match find hp h with|some (.box _ _)=>true|_=>false)|_=>false
 | .store _ x _=>match rd x with|some (.w (.c (.p h _ (_+1) _)))=>(match find hp h with|some (.box _ _)=>true|_=>false)|_=>false
 | .call c=>match c.callee with| .builtin .len=>true| .builtin .min=>true| .builtin .max=>true|_=>false
 |_=>false
def RT.run:RT->(Res->Prop)->Prop| .leaf r,k=>k r| .br b x y,k=>Br b (x.run k) (y.run k)
def RT.run_sel:∀{t:RT} {k:Res->Prop},t.run k->k t.sel
 | .leaf _,_,h=>h
 | .br b x y,k,h=>by
  cases b
  ·exact RT.run_sel (t:=y) h
  ·exact RT.run_sel (t:=x) h
def jju [Globs] (P:zP) (sp:jab) (N:Nat) (o:qu) (st:St) (k:St->Prop):Prop :=
 match jxM P sp o.op (jcv st) st.hp st.nx with
 |some t=>match jcR N o.dst with|true=>t.run fun r=>Ob r.ob∧k (st.put o.dst r)|false=>False
 |none =>
 match jda P sp o.op (jcv st) st.hp st.nx with|some r=>(match jcR N o.dst with|true=>(match jbw o.op (jcv st) st.hp with|true=>k (st.put o.dst r)|false=>Ob r.ob∧k (st.put o.dst r))|false=>False)|none=>False
def jk6 (N:Nat) (o:qu) (st:St) (k:St->Prop):Prop :=match jcR N o.dst with|true=>k (st.put o.dst ⟨True,vu,st.hp,st.nx⟩)|false=>False
def jqL (all:List qu) (j:Nat) (st:St):Option (Nat × V) :=
 match(all[j]?).bind (·.dst)with
 |some t=>(jaP st.tm t).map fun v=>(t,v)
 |none=>none
def jjv [Globs] (P:zP) (sp:jab) (N:Nat) (all:List qu):List qu->St->(St->Prop)->Prop
 |[],st,k=>k st
 |o::r,st,k =>
  match o.guard with
  |none=>jju P sp N o st fun st'=>jjv P sp N all r st' k
  |some (j,want) =>
   match jqL all j st with
   |some (t,.w (.c (.d (.b b)))) =>
    Br b
     (match want with|true=>jju P sp N o ⟨(t,vb true)::st.tm,st.hp,st.nx⟩ fun st'=>jjv P sp N all r st' k|false=>jk6 N o ⟨(t,vb true)::st.tm,st.hp,st.nx⟩ fun st'=>jjv P sp N all r st' k)
     (match want with|true=>jk6 N o ⟨(t,vb false)::st.tm,st.hp,st.nx⟩ fun st'=>jjv P sp N all r st' k|false=>jju P sp N o ⟨(t,vb false)::st.tm,st.hp,st.nx⟩ fun st'=>jjv P sp N all r st' k)
   |some (_,.w (.c (.d (.v (.tuple _)))))=>jk6 N o st fun st'=>jjv P sp N all r st' k
   |_=>False
inductive Ex where
 |normal
 |exit (n:Nat)
 |ret
def Ex.toExit:Ex->Exit| .normal=>.normal| .exit n=>.exit n| .ret=>.ret
abbrev Rn:=List (Nat × Option Nat)
def jbb:Rn->Nat->Option (Option Nat)|[],_=>none|(k,v)::r,h=>if k=h then some v else jbb r h
def jty (m:Rn) (h:Nat):Bool:=m.any fun x=>x.2==some h
def jjw (h' h:Nat) (m:Rn) (k:Rn->Prop):Prop :=match jbb m h' with|some (some s)=>if s=h then k m else False|some none=>False|none=>match jty m h with|true=>False|false=>k ((h',some h)::m)
def jxQ:List Nat->List Nat->Rn->(Rn->Prop)->Prop|[],[],m,k=>k m|h' :: r',h::r,m,k=>jjw h' h m fun m=>jxQ r' r m k|_,_,_,_=>False
def mD:D->D->Prop| .i k n,.i k' n'=>if k=k' then Ob (n'=n)else False| .b x,.b y=>Ob (y=x)| .f k n,.f k' n'=>if k=k' then Ob (n'=n)else False| .s x,.s y=>Ob (y=x)| .v x,.v y=>Ob (y=x)| .z k' x,.z k y=>(match jbG k' k with|true=>Ob (y=x)|false=>False)|_,_=>False
def mC (x' x:C) (m:Rn) (k:Rn->Prop):Prop :=match x',x with| .d d',.d d=>mD d' d∧k m| .p h' i' e' j',.p h i e j=>if e'=e∧j'=j then Ob (i=i')∧jjw h' h m k else False| .o h',.o h=>jjw h' h m k| .o h',.d (.v (.slice none 0 0))=>(match jbb m h' with|some none=>k m|some (some _)=>False|none=>k ((h',none)::m))| .fn f' hs',.fn f hs=>if f'=f then jxQ hs' hs m k else False| .g n' i' e' j',.g n i e j=>if n'=n∧e'=e∧j'=j then Ob (i=i')∧k m else False|_,_=>False
def mCs:List C->List C->Rn->(Rn->Prop)->Prop|[],[],m,k=>k m|x' :: r',x::r,m,k=>mC x' x m fun m=>mCs r' r m k|_,_,_,_=>False
def mAR (x' x:AR) (k:Prop):Prop :=match x',x with| .f q' r',.f q r=>(match jbG q' q with|true=>Ob (r=r')∧k|false=>False)| .i r',.i r=>Ob (r=r')∧k|_,_=>False
def joi [Globs] {x' x:AR} {k:Prop} (h:mAR x' x k):x'=x∧k:=by
 unfold mAR at h;split at h
 ·split at h
  ·rename_i hk;have hk:=jbV hk;obtain⟨⟨rfl⟩,hk2⟩:=h;subst hk;exact⟨rfl,hk2⟩
  ·exact h.elim
 ·obtain⟨⟨rfl⟩,hk2⟩:=h;exact⟨rfl,hk2⟩
 ·exact h.elim
def mW (x' x:W) (m:Rn) (k:Rn->Prop):Prop :=match x',x with| .c y',.c y=>mC y' y m k| .a l',.a l=>mCs l' l m k| .b e' x',.b e x=>if e'=e then mAR x' x (k m)else False|_,_=>False
def mWs:List W->List W->Rn->(Rn->Prop)->Prop|[],[],m,k=>k m|x' :: r',x::r,m,k=>mW x' x m fun m=>mWs r' r m k|_,_,_,_=>False
def mV (x' x:V) (m:Rn) (k:Rn->Prop):Prop :=match x',x with| .w y',.w y=>mW y' y m k| .t l',.t l=>mWs l' l m k|_,_=>False
def mT:List (Nat × V)->List (Nat × V)->Rn->(Rn->Prop)->Prop|[],_,m,k=>k m|(t,v')::r,tm,m,k=>match jaP tm t with|some v=>mV v' v m fun m=>mT r tm m k|none=>False
def jek:Cont->Cont->Prop| .ints k l,.ints k' l'=>if k=k' then Ob (l'=l)else False| .recs e l,.recs e' l'=>if e=e' then Ob (l'=l)else False| .floats k l,.floats k' l'=>if k=k' then Ob (l'=l)else False| .strs l,.strs l'=>Ob (l'=l)| .bools l,.bools l'=>Ob (l'=l)| .lits e l,.lits e' l'=>if e=e' then Ob (l'=l)else False| .frs k e l,.frs k' e' l'=>if k=k'∧e=e' then Ob (l'=l)else False|_,_=>False
def mX:XC->XC->Prop| .st sh l,.st sh' l'=>if sh=sh' then Ob (l'=l)else False| .ii k l,.ii k' l'=>if k=k' then Ob (l'=l)else False| .ff k l,.ff k' l'=>if k=k' then Ob (l'=l)else False| .bb k e l,.bb k' e' l'=>if k=k'∧e=e' then Ob (l'=l)else False| .rr e l,.rr e' l'=>if e=e' then Ob (l'=l)else False|_,_=>False
def mO (o' o:O) (m:Rn) (k:Rn->Prop):Prop :=match o',o with| .box ty cs',.box ty' cs=>if ty=ty' then mCs cs' cs m k else False| .row ty c',.row ty' c=>if ty=ty' then jek c' c∧k m else False| .ext c',.ext c=>jek c' c∧k m| .nan q',.nan q=>(match jbG q' q with|true=>k m|false=>False)| .ebox cs',.ebox cs=>mCs cs' cs m k| .arr ty e' x',.arr ty' e x=>if ty=ty'∧e'=e then mAR x' x (k m)else False| .xext X',.xext X=>mX X' X∧k m| .fext c',.fext c=>jek c' c∧k m| .xrow ty X',.xrow ty' X=>if ty=ty' then mX X' X∧k m else False| .mrow ty ts X' none,.mrow ty' ts' X none=>if ty=ty'∧ts=ts' then mX X' X∧k m else False| .trow ty ts X' q',.trow ty' ts' X q=>if ty=ty'∧ts=ts' then mX X' X∧Ob (q'=q)∧k m else False| .mrow ty ts X' none,.trow ty' ts' X q=>if ty=ty'∧ts=ts' then mX X' X∧Ob (∀i j,i<X.n->j<X.e->q<=i*X.e+j->(X.sh.getD j .b).isSl=false)∧k m else False| .sub r' i' e' j' ty' c',.sub r i e j ty c=>if e'=e∧j'=j∧ty'=ty then Ob (i=i')∧jek c' c∧jjw r' r m k else False| .view _ c' false,o=>(match o.cont with|some c=>jek c' c∧k m|none=>False)|_,_=>False
def mH:Hp->Hp->Rn->(Rn->Prop)->Prop
 |[],_,m,k=>k m
 |(h',o')::r,hp,m,k =>
  match jbb m h' with|some (some h)=>(match find hp h with|some o=>mO o' o m fun m=>mH r hp m k|none=>False)|some none=>(match o' with| .row _ c=>Ob (c.n=0)∧mH r hp m k| .xrow _ X=>Ob (X.n=0)∧mH r hp m k| .mrow _ _ X none=>Ob (X.n=0)∧mH r hp m k|_=>False)|none=>match find hp h' with|some o=>jjw h' h' m fun m=>mO o' o m fun m=>mH r hp m k|none=>False
def D.ltb (_:Nat):D->Bool|_=>true
def C.ltb (n:Nat):C->Bool| .d _=>true| .p h _ _ _=>xD h n| .o h=>xD h n| .fn _ hs=>hs.all fun h=>xD h n| .g _ _ _ _=>true
def W.ltb (n:Nat):W->Bool| .c x=>x.ltb n| .a l=>l.all (C.ltb n)| .b _ _=>true
def V.ltb (n:Nat):V->Bool| .w x=>x.ltb n| .t l=>l.all (W.ltb n)
def O.ltb (n:Nat):O->Bool| .box _ cs=>cs.all (C.ltb n)| .view r _ _=>xD r n| .sub r _ _ _ _ _=>xD r n| .ebox cs=>cs.all (C.ltb n)|_=>true
def St.wfb (st:St):Bool:=(st.tm.all fun x=>x.2.ltb st.nx)&&(st.hp.all fun x=>xD x.1 st.nx&&x.2.ltb st.nx)
def jzl (n0:Nat) (m:Rn):Bool:=m.all fun x=>!(xD x.1 n0)||x.2==some x.1
def Le (n0:Nat) (st st':St):Prop :=match st'.wfb&&Nat.ble n0 st'.nx with|true=>(mT st'.tm st.tm [] fun m=>mH st'.hp st.hp m fun m=>match jzl n0 m with|true=>True|false=>False)|false=>False
structure LI where
 X:Type
 st:X->St
 inv:X->Prop
 mu:X->Nat
abbrev jel:=List Nat->Nat->St->Option LI
def jui (body:St->(Ex->St->Prop)->Prop):Nat->St->(Ex->St->Prop)->Prop|0,_,_=>False|n+1,st,k=>body st fun e st'=>match e with| .normal=>jui body n st' k|e=>k e st'
def sx [Globs] (P:zP) (sp:jab) (N n0 fuel:Nat) (loops:jel) (drawn:Array qu->St->(St->Prop)->Prop):Code->Nat->List Nat->St->(Ex->St->Prop)->Prop
 | .skip,_,_,st,k=>k .normal st
 | .label _,_,_,st,k=>k .normal st
 | .region _ ops draw,_,_,st,k =>
  match draw with|false=>jjv P sp N ops.toList ops.toList st fun st'=>k .normal st'|true=>drawn ops st fun st'=>k .normal st'
 | .seq x y,cur,gs,st,k=>sx P sp N n0 fuel loops drawn x cur gs st fun e st'=>match e with| .normal=>sx P sp N n0 fuel loops drawn y cur gs st' k|e=>k e st'
 | .cond c x y,cur,gs,st,k =>
  match(jcv st c).bind V.bool? with
  |some b=>Br b (sx P sp N n0 fuel loops drawn x cur gs st k) (sx P sp N n0 fuel loops drawn y cur gs st k)
  |none=>False
 | .block id c,_,gs,st,k=>sx P sp N n0 fuel loops drawn c id gs st fun e st'=>match e with| .exit j=>if j=id then k .normal st' else k (.exit j) st'|e=>k e st'
 | .loop c,cur,gs,st,k =>
  match loops gs cur st with|some L=>((∃x,Ob (L.inv x)∧Le n0 st (L.st x))∧∀x,L.inv x->sx P sp N n0 fuel loops drawn c cur (L.mu x::gs) (L.st x) fun e st'=>match e with| .normal=>∃x',Ob (L.inv x')∧Ob (L.mu x'<L.mu x)∧Le n0 st' (L.st x')|e=>k e st')|none=>jui (fun st k=>sx P sp N n0 fuel loops drawn c cur gs st k) fuel st k
 | .exit id,_,_,st,k=>k (.exit id) st
 | .ret,_,_,st,k=>k .ret st
 |_,_,_,_,_=>False
end Go.Sx
end

section
open Go.RowKit
namespace Go.Sx
section
variable [Globs] {P:zP} {I:Env} {B:Kd} {N n0:Nat} {st:St} {w:zr} {a:Act} {sp:jab} {ds:List yK}
def juj {d:Option Nat} (h:jcR N d=true):∀t,d=some t->t<N:=by
 intro t ht;subst ht;simpa [jcR,qL]using h
def jbB {a:Act} {d:Option Nat} {v:zs} {t:Nat} (hd:∀x,d=some x->x<a.tmps.size) :
  (a.put d v).tmps.getD t zJ=if d=some t then v else a.tmps.getD t zJ:=by
 cases d with
 |none=>simp[jO]
 |some x =>
  have:=hd x rfl;simp only[jO,zj]
  by_cases h:x=t
  ·subst h;simp[this]
  ·simp[h,Array.getElem?_setIfInBounds_ne h]
def jbn {a:Act} {d:Option Nat} {v:zs}:(a.put d v).tmps.size=a.tmps.size:=by
 cases d<;>simp[jO]
def jb5 {a:Act} {d:Option Nat} {v:zs}:(a.put d v).defers=a.defers:=by
 cases d<;>simp[jO]
def RelD.put1 {o:qu} {r:Res} {M:Bool} {I':Env} {w':zr} {B1:Kd} (h:RelD ds I B N n0 st a w) (g:Grow B B1 false w w) (hd:jcR N o.dst=true) (hl:Left I B1 st.nx w r M I' w') :
  RelD ds I' B N n0 (st.put o.dst r) (a.put o.dst (r.v.val I')) w':=by
 have hdl:∀x,o.dst=some x->x<a.tmps.size:=fun x hx=>by rw[h.size];exact juj hd x hx
 have hnx:(st.put o.dst r).nx=r.nx:=by cases o.dst<;>rfl
 have hhp:(st.put o.dst r).hp=r.hp:=by cases o.dst<;>rfl
 refine⟨fun t v hv=>?_,by rw[jbn];exact h.size,by rw[jb5];exact h.defers,by
  rw[hhp,hnx];obtain⟨B2,g2,h2⟩:=hl.heap;exact⟨B2,((g.trans g2.weak (zp _) hl.below.size).weak),h2⟩,(hl.below.mono g.le.kp).old h.le,by rw[hnx];exact xb h.n0 hl.le⟩
 rw[jbB hdl,hnx]
 have hold:∀v,jaP st.tm t=some v->v.lt r.nx∧a.tmps.getD t zJ=v.val I':=fun v hv=>by
  have:=h.tm t v hv;exact⟨V.lt_mono hl.le this.1,by rw[this.2,V.val_agree hl.agree this.1]⟩
 cases hdst:o.dst with
 |none =>
  simp only[hdst,St.put]at hv;simpa using hold v hv
 |some x =>
  simp only[hdst,St.put,jaP]at hv;split at hv
  ·rename_i e;subst e;cases hv;simp[hl.lt]
  ·rename_i e;simp only[zj,e,if_false];exact hold v hv
def RelD.skip {o:qu} (h:RelD ds I B N n0 st a w) (hd:jcR N o.dst=true):RelD ds I B N n0 (st.put o.dst ⟨True,vu,st.hp,st.nx⟩) (a.put o.dst zJ) w :=let ⟨_,g,hh⟩:=h.heap
 h.put1 (M:=true) (o:=o) (r:=⟨True,vu,st.hp,st.nx⟩) g hd ⟨jah.refl _ _,trivial,zp _,hh.gr,Bel.refl _ _,(fun _=>xM _ _),fun _ k o b hn hf _=>absurd (hh.ok k o hf).1 (by omega)⟩
def RelD.know {t:Nat} {b:Bool} (h:RelD ds I B N n0 st a w) (hb:jaP st.tm t=some (vb b)):RelD ds I B N n0 ⟨(t,vb b)::st.tm,st.hp,st.nx⟩ a w:=by
 refine⟨fun t' v hv=>?_,h.size,h.defers,h.heap,h.le,h.n0⟩;simp only[jaP]at hv;split at hv
 ·rename_i e;subst e;cases hv;exact h.tm t _ hb
 ·exact h.tm t' v hv
def Qx (ds:List yK) (I0:Env) (B:Kd) (N n0:Nat) (w0:zr) (k:Ex->St->Prop):Exit->Act->zr->Prop:=fun e a w =>
 ∃x I st,e=x.toExit∧k x st∧RelD ds I B N n0 st a w∧jah n0 I0 I∧Bel B w0 w
variable {I0:Env} {w0:zr}
def jv7 {op:BinOp} {k k':IntKind} {m n:Int} {ob:Prop} {v:V} (ht:(match op with | .quo | .rem | .shl | .shr=>false|_=>true)=true) (h:jkO op k m k' n=some (ob,v)):ob:=by
 unfold jkO at h;cases op<;>simp at ht h<;>obtain⟨_,h,_⟩:=h<;>first|exact h|exact h ▸ trivial
def jbi {α:Type} {x:Option α} {f:α->Prop × V} {ob:Prop} {v:V} (h:x.map f=some (ob,v)) (hf:∀a,(f a).1=True):ob:=by
 cases x with
 |none=>cases h
 |some a =>
  simp only[qk,zj]at h;have:=hf a;rw[h]at this;exact cast this.symm trivial
def jAT {op:Op} {rd:zZ->Option V} {hp:Hp} {ob:Prop} {v:V} (ht:jbw op rd hp=true) (h:jjl P op rd hp=some (ob,v)):ob:=by
 unfold jjl at h;unfold jbw at ht;cases op with
 |binOp op t x y yt =>
  dsimp only at h ht;split at h
  ·rename_i u u' hx hy;split at h
   ·unfold jtG at h;cases op<;>simp at h<;>exact h.1
   ·cases h
  ·cases h
 |call c =>
  dsimp only at h ht;split at h
  ·split at h
   ·split at h
    ·cases h;trivial
    ·cases h
   ·cases h
  ·cases h
 |slice t x lo hi mx=>simp at ht
 |convert s d x=>simp at ht
 |index t x i=>simp at ht
 |indexAddr t x i=>simp at ht
 |sliceToArrayPointer t x=>simp at ht
 |_=>simp at h
def jAU {op:Op} {rd:zZ->Option V} {hp:Hp} {nx:Nat} {r:Res} (ht:jbw op rd hp=true) (h:jg6 P op rd hp nx=some r):r.ob:=by
 unfold jg6 at h;unfold jbw at ht;cases op with
 |box elem x =>
  dsimp only at h;split at h
  ·cases h;trivial
  ·cases h
 |alloc elem =>
  dsimp only at h;split at h
  ·cases h;trivial
  ·cases h
 |buildSlice t n ps =>
  dsimp only at h;split at h
  ·split at h
   ·split at h
    ·cases h;trivial
    ·cases h
   ·cases h
  ·cases h
 |slice t x lo hi mx=>simp at ht
 |convert s d x=>simp at ht
 |load t x =>
  dsimp only at h ht;split at h
  ·rename_i hx;split at h
   ·rename_i hf;simp only[hx]at ht;split at ht
    ·rename_i heq;cases heq;obtain⟨ox,hf1,hf2⟩:=zK.1 hf;cases ox<;>simp[O.xk]at hf2<;>simp[hf1]at ht
    ·cases ht
   ·cases h
  ·cases h
 |store t x y =>
  dsimp only at h ht;split at h
  ·rename_i hx hy;split at h
   ·rename_i hf;simp only[hx]at ht;split at ht
    ·rename_i heq;cases heq;simp[hf]at ht
    ·cases ht
   ·rename_i hf;simp only[hx]at ht;split at ht
    ·rename_i heq;cases heq;simp[hf]at ht
    ·cases ht
   ·cases h
  ·rename_i hx hy;split at h
   ·rename_i hf;simp only[hx]at ht;split at ht
    ·rename_i heq;cases heq;simp[hf]at ht
    ·cases ht
   ·rename_i hf;simp only[hx]at ht;split at ht
    ·rename_i heq;cases heq;simp[hf]at ht
    ·cases ht
   ·cases h
  ·rename_i hx hy;split at h
   ·rename_i hf;simp only[hx]at ht;split at ht
    ·rename_i heq;cases heq;simp[hf]at ht
    ·cases ht
   ·cases h
  ·cases h
 |_=>simp at h
def jAV {op:Op} {rd:zZ->Option V} {hp:Hp} {nx:Nat} {r:Res} (ht:jbw op rd hp=true) (h:jg7 P op rd hp nx=some r):r.ob:=by
 unfold jg7 at h;unfold jbw at ht;cases op with
 |buildSlice t n ps =>
  dsimp only at h;split at h
  ·split at h
   ·split at h
    ·cases h;trivial
    ·cases h
   ·cases h
  ·cases h
 |makeSlice t l c=>simp at ht
 |store t x y =>
  dsimp only at h ht;split at h
  ·rename_i k i e j u hx hy;split at h
   ·rename_i ty X sz hf hs;simp only[hx]at ht;split at ht
    ·rename_i heq;cases heq;simp[hf]at ht
    ·cases ht
   ·cases h
  ·cases h
 |call c =>
  dsimp only at h ht;split at h
  ·rename_i hc _ _;simp[hc]at ht
  ·cases h
 |_=>simp at h
def jAW {op:Op} {rd:zZ->Option V} {hp:Hp} {nx:Nat} {r:Res} (ht:jbw op rd hp=true) (h:jg9 P op rd hp nx=some r):r.ob:=by
 unfold jg9 at h;unfold jbw at ht;cases op with
 |load t x =>
  dsimp only at h ht;split at h
  ·rename_i k i e j hx;split at h
   ·rename_i ty ts X m hf;simp only[hx]at ht;split at ht
    ·rename_i heq;cases heq;simp[hf]at ht
    ·cases ht
   ·cases h
  ·cases h
 |store t x y =>
  dsimp only at h ht;split at h
  ·rename_i k i e j u hx hy;simp only[hx]at ht;split at h
   ·rename_i ty ts X m sz hf hs;split at ht
    ·rename_i heq;cases heq;simp[hf]at ht
    ·cases ht
   ·split at h
    ·cases h;trivial
    ·cases h
   ·cases h
  ·cases h
 |_=>simp at h
def jAX {op:Op} {rd:zZ->Option V} {hp:Hp} {nx:Nat} {r:Res} (ht:jbw op rd hp=true) (h:jg8 P op rd hp nx=some r):r.ob:=by
 unfold jg8 at h;unfold jbw at ht;cases op with
 |buildSlice t n ps =>
  dsimp only at h;split at h
  ·split at h
   ·split at h
    ·split at h
     ·cases h;trivial
     ·cases h
    ·cases h
   ·cases h
  ·cases h
 |makeSlice t l c=>simp at ht
 |load t x =>
  dsimp only at h ht;split at h
  ·rename_i k i e j hx;split at h
   ·rename_i ty ts X hf;simp only[hx]at ht;split at ht
    ·rename_i heq;cases heq;simp[hf]at ht
    ·cases ht
   ·cases h
  ·cases h
 |store t x y =>
  dsimp only at h ht;split at h
  ·rename_i k i e j u hx hy;simp only[hx]at ht;split at h
   ·rename_i ty ts X ho sz hf hs;split at ht
    ·rename_i heq;cases heq;simp[hf]at ht
    ·cases ht
   ·rename_i r0 i0 e0 j0 t0 c sz hf hs;split at ht
    ·rename_i heq;cases heq;simp[hf]at ht
    ·cases ht
   ·cases h
  ·cases h
 |call c =>
  dsimp only at h ht;split at h
  ·rename_i hc _ _;simp[hc]at ht
  ·cases h
 |_=>simp at h
def jiv {op:Op} {rd:zZ->Option V} {hp:Hp} {nx:Nat} {r:Res} (ht:jbw op rd hp=true) (h:jda P sp op rd hp nx=some r):r.ob:=by
 unfold jda at h;cases hv:jcj P op rd hp with
 |some p =>
  obtain⟨ob,v⟩:=p;simp only[hv,zj]at h;subst h
  show ob
  unfold jcj at hv;split at hv
  rotate_left
  ·exact jAT ht hv
  rename_i p hv0;cases hv;have hv:=hv0;clear hv0;unfold jio at hv;unfold jbw at ht;cases op with
  |binOp op t x y yt =>
   dsimp only at hv ht;split at hv
   ·split at hv
    ·refine jv7 ?_ hv;cases op<;>first|rfl|exact ht
    ·split at hv
     ·split at hv
      ·unfold jmF at hv;cases op<;>simp at hv<;>exact hv.1
      ·cases hv
     ·split at hv
      ·unfold jpb at hv;cases op<;>simp at hv<;>exact hv.1
      ·split at hv
       ·rename_i hu _;unfold jpa at hv;split at hv
        ·cases op<;>simp at hv<;>first|exact hv.1|(simp_all)
        ·cases hv
       ·split at hv
        ·split at hv
         ·exact jbi hv (fun _=>rfl)
         ·exact jbi hv (fun _=>rfl)
         ·cases hv
        ·cases hv
   ·cases hv
  |load t x =>
   dsimp only at hv ht;split at hv
   ·rename_i k i e j hx;cases e with
    |zero=>simp[hx]at ht
    |succ e =>
    simp only[hx]at ht;split at hv
    ·rename_i o hf;simp only[hf]at ht;cases o with
     |box ty cs =>
      unfold jpd at hv;split at hv
      ·dsimp only[jmG]at hv;split at hv
       ·split at hv
        ·cases hv;trivial
        ·cases hv
       ·cases hc:cs[i*(e+1)+j]? with
        |none=>simp[hc]at hv
        |some c=>simp[hc]at hv;exact hv.1
      ·cases hv
     |_=>simp at ht
    ·cases hv
   ·cases hv
  |call c =>
   dsimp only at hv ht;split at hv
   ·split at hv
    ·exact jbi hv (fun _=>rfl)
    ·split at hv
     ·cases hv;trivial
     ·cases hv
    ·exact jbi hv (fun _=>rfl)
    ·cases hv;trivial
    ·cases hv
   ·split at hv
    ·exact jbi hv (fun _=>rfl)
    ·cases hv
   ·split at hv
    ·exact jbi hv (fun _=>rfl)
    ·cases hv
   ·cases hv
  |pick c x y =>
   dsimp only at hv;split at hv
   ·exact jbi hv (fun _=>rfl)
   ·exact jbi hv (fun _=>rfl)
   ·cases hv
  |unOp op t x =>
   dsimp only at hv;split at hv
   ·exact jbi hv (fun _=>rfl)
   ·exact jbi hv (fun _=>rfl)
   ·cases hv
  |move x=>exact jbi hv (fun _=>rfl)
  |assign x=>exact jbi hv (fun _=>rfl)
  |extract t i =>
   dsimp only at hv;split at hv
   ·exact jbi hv (fun _=>rfl)
   ·cases hv
  |field t x f =>
   dsimp only at hv;split at hv
   ·split at hv
    ·exact jbi hv (fun _=>rfl)
    ·cases hv
   ·cases hv
  |nilCheck x =>
   dsimp only at hv;split at hv
   ·cases hv;trivial
   ·cases hv
  |fieldAddr s x f =>
   dsimp only at hv;split at hv
   ·split at hv
    ·split at hv
     ·cases hv;trivial
     ·cases hv
    ·cases hv
   ·cases hv
  |build t parts =>
   dsimp only at hv;split at hv
   ·exact jbi hv (fun _=>rfl)
   ·cases hv
  |makeFunc f first cap =>
   cases f with
   |func f =>
    dsimp only at hv;split at hv
    ·cases hv;trivial
    ·cases hv
   |_=>simp at hv
  |_=>simp at hv ht
 |none =>
  simp only[hv]at h;split at h
  ·rename_i r0 hX;cases h;exact jAU ht hX
  split at h
  ·rename_i r0 hX;cases h;exact jAX ht hX
  split at h
  ·rename_i r0 hX;cases h;exact jAW ht hX
  split at h
  ·rename_i r0 hX;cases h;exact jAV ht hX
  unfold jpm at h;unfold jbw at ht;cases op with
  |box elem x =>
   dsimp only at h;split at h
   ·split at h
    ·cases h;trivial
    ·cases h
   ·cases h
  |alloc elem =>
   dsimp only at h;split at h
   ·cases h;trivial
   ·cases h
  |buildSlice t n ps =>
   dsimp only at h;split at h
   ·split at h
    ·cases h;trivial
    ·cases h
   ·cases h
  |store t x y =>
   dsimp only at h ht;split at h
   ·rename_i k i e j u hx hy;cases e with
    |zero=>simp[hx]at ht
    |succ e =>
    simp only[hx]at ht;split at h
    ·split at h
     ·split at h
      ·cases h;trivial
      ·cases h
     ·rename_i hf;simp[hf]at ht
     ·cases h
    ·cases h
   ·cases h
  |call c =>
   dsimp only at h ht;split at h
   ·rename_i hc _ _;simp[hc]at ht
   ·rename_i hc;simp[hc]at ht
   ·cases h
  |_=>simp at h ht
def jcS {o:qu} {k:St->Prop} {K:Act->zr->Prop} {Q:Exit->Act->zr->Prop} (hsp:jam P sp) (hr:RelD ds I B N n0 st a w) (hag:jah n0 I0 I) (hbl:Bel B w0 w) (h:jju P sp N o st k)
  (hK:∀I' st' a' w',RelD ds I' B N n0 st' a' w'->jah n0 I0 I'->Bel B w0 w'->k st'->K a' w'):o.wp P a w K Q:=by
 unfold jju at h;split at h
 ·rename_i t ht2;split at h
  ·rename_i hd;have h:=RT.run_sel h;obtain⟨B1,g,hh⟩:=hr.heap;obtain⟨M,hS⟩:=jv6 hsp hh (g.old hr.le) hr.reads ht2 h.1.h;refine hS K Q fun I' w' hl=>?_;exact hK I' _ _ w' (hr.put1 g hd hl) (hag.trans hl.agree hr.n0) (hbl.trans (hl.below.mono g.le.kp)) h.2
  ·exact h.elim
 split at h
 ·rename_i r hr2;split at h
  ·rename_i hd;obtain⟨B1,g,hh⟩:=hr.heap;split at h
   ·rename_i ht;refine jcQ hsp hh (g.old hr.le) hr.reads hr2 (jiv ht hr2) K Q fun I' w' hl=>?_;exact hK I' _ _ w' (hr.put1 g hd hl) (hag.trans hl.agree hr.n0) (hbl.trans (hl.below.mono g.le.kp)) h
   ·refine jcQ hsp hh (g.old hr.le) hr.reads hr2 h.1.h K Q fun I' w' hl=>?_;exact hK I' _ _ w' (hr.put1 g hd hl) (hag.trans hl.agree hr.n0) (hbl.trans (hl.below.mono g.le.kp)) h.2
  ·exact h.elim
 ·exact h.elim
def jgo {o:qu} {k:St->Prop} {K:Act->zr->Prop} (hr:RelD ds I B N n0 st a w) (hag:jah n0 I0 I) (hbl:Bel B w0 w) (h:jk6 N o st k)
  (hK:∀I' st' a' w',RelD ds I' B N n0 st' a' w'->jah n0 I0 I'->Bel B w0 w'->k st'->K a' w'):K (a.put o.dst zJ) w:=by
 unfold jk6 at h;split at h
 ·rename_i hd;exact hK I _ _ w (hr.skip hd) hag hbl h
 ·exact h.elim
def jj9 {all:List qu} {j t:Nat} {v:V} (hr:RelD ds I B N n0 st a w) (h:jqL all j st=some (t,v)) (ht:t<N∨v=v) :
  fc all.toArray a.tmps j=(match v.val I with | .bool b=>some b|_=>none)∧jaP st.tm t=some v:=by
 unfold jqL at h;cases hd:(all[j]?).bind (·.dst)with
 |none=>simp[hd]at h
 |some t' =>
  cases hg:jaP st.tm t' with
  |none=>simp[hd,hg]at h
  |some v' =>
   simp[hd,hg]at h;obtain⟨rfl,rfl⟩:=h;refine⟨?_,hg⟩;have h1:=(hr.tm t' v' hg).2;unfold fc;have hd2:((all.toArray[j]?).bind (·.dst))=some t':=by simpa using hd
   rw[hd2];simp only[zV];rw[<-h1]
   by_cases hlt:t'<a.tmps.size
   ·simp only[xO,xm hlt,z9];cases a.tmps[t']<;>rfl
   ·simp[hlt,zJ]
def jpy {all:List qu} {Q:Exit->Act->zr->Prop} {k:St->Prop} (hsp:jam P sp)
  (hQ:∀I' st' a' w',RelD ds I' B N n0 st' a' w'->jah n0 I0 I'->Bel B w0 w'->k st'->Q .normal a' w') :
  ∀(l:List qu) (I:Env) (st:St) (a:Act) (w:zr),RelD ds I B N n0 st a w->jah n0 I0 I->Bel B w0 w->jjv P sp N all l st k->wpList P all.toArray Q l a w
 |[],I,st,a,w,hr,hag,hbl,h=>hQ I st a w hr hag hbl h
 |o::r,I,st,a,w,hr,hag,hbl,h=>by
  have ih:=fun I' st' a' w' (h1:RelD ds I' B N n0 st' a' w') h2 h3 h4=>jpy (all:=all) hsp hQ r I' st' a' w' h1 h2 h3 h4;unfold jjv at h;unfold wpList;cases hg:o.guard with
  |none =>
   simp only[hg]at h;have hw:yP o (fc all.toArray a.tmps)=true:=by simp[yP,hg]
   rw[if_pos hw];exact .inl (jcS hsp hr hag hbl h ih)
  |some p =>
   obtain⟨j,want⟩:=p;simp only[hg]at h;have hwanted:∀ob,fc all.toArray a.tmps j=ob->yP o (fc all.toArray a.tmps)=(ob==some want):=fun ob hob=>by simp[yP,hg,hob]
   split at h
   ·rename_i t b hgo;obtain⟨hy,hget⟩:=jj9 hr hgo (.inr rfl);have hw:=hwanted _ hy;have hval:(V.w (.c (.d (.b b)))).val I=.bool b:=rfl;rw[hval]at hw;have hkn:=hr.know hget;cases b<;>cases want<;>simp only[Br]at h
    ·rw[if_pos (by rw[hw];rfl)];exact .inl (jcS hsp hkn hag hbl h ih)
    ·rw[if_neg (by rw[hw];simp)];exact jgo hkn hag hbl h ih
    ·rw[if_neg (by rw[hw];simp)];exact jgo hkn hag hbl h ih
    ·rw[if_pos (by rw[hw];rfl)];exact .inl (jcS hsp hkn hag hbl h ih)
   ·rename_i t vs hgo;obtain⟨hy,hget⟩:=jj9 hr hgo (.inr rfl);have hw:=hwanted _ hy;have hval:(V.w (.c (.d (.v (.tuple vs))))).val I=.tuple vs:=rfl;rw[hval]at hw;rw[if_neg (by rw[hw];simp)];exact jgo hr hag hbl h ih
   ·exact h.elim
def jcq (I:Env) (m:Rn):Env:=fun h=>match jbb m h with|some (some s)=>I s|some none=>.slice none 0 0|none=>I h
def Ext (m m':Rn):Prop:=∀h x,jbb m h=some x->jbb m' h=some x
def Ext.refl (m:Rn):Ext m m:=fun _ _ h=>h
def Ext.trans {a b c:Rn} (h:Ext a b) (k:Ext b c):Ext a c:=fun x y hx=>k x y (h x y hx)
def Inj (m:Rn):Prop:=∀h h' s,jbb m h=some (some s)->jbb m h'=some (some s)->h=h'
def jxR {m:Rn} {s:Nat} (h:jty m s=false):∀x,jbb m x≠some (some s):=by
 induction m with
 |nil=>intro x hx;simp[jbb]at hx
 |cons p r ih =>
  obtain⟨k,v⟩:=p;simp only[jty,List.any_cons,Bool.or_eq_false_iff]at h;intro x hx;simp only[jbb]at hx;split at hx
  ·simp only[zj]at hx;subst hx;simp at h
  ·exact ih (by simpa [jty]using h.2) x hx
def juk {m:Rn} {h:Nat} {x:Option Nat} (hn:jbb m h=none):Ext m ((h,x)::m):=by
 intro k y hk;simp only[jbb];split
 ·rename_i e;subst e;rw[hn]at hk;cases hk
 ·exact hk
def jem {h' h:Nat} {m:Rn} {k:Rn->Prop} (hb:jjw h' h m k) (hi:Inj m):∃m',k m'∧Ext m m'∧Inj m'∧jbb m' h'=some (some h):=by
 unfold jjw at hb;split at hb
 ·rename_i s hs;split at hb
  ·rename_i e;subst e;exact⟨m,hb,Ext.refl m,hi,hs⟩
  ·exact hb.elim
 ·exact hb.elim
 ·rename_i hn;split at hb
  ·exact hb.elim
  ·rename_i hu;have hu':=jxR hu;refine⟨_,hb,juk hn,?_,by simp[jbb]⟩;intro x y s hx hy;simp only[jbb]at hx hy;split at hx
   ·rename_i e;subst e;simp only[zj]at hx;subst hx;split at hy
    ·rename_i e;exact e
    ·exact absurd hy (hu' y)
   ·split at hy
    ·rename_i e;subst e;simp only[zj]at hy;subst hy;exact absurd hx (hu' x)
    ·exact hi x y s hx hy
def jAY {m:Rn} {h:Nat} (hi:Inj m):Inj ((h,none)::m):=by
 intro x y s hx hy;simp only[jbb]at hx hy;split at hx
 ·cases hx
 ·split at hy
  ·cases hy
  ·exact hi x y s hx hy
def jmL {d' d:D} (h:mD d' d):d'=d:=by
 unfold mD at h;split at h
 all_goals first
  |exact h.elim
  |(rw[h.h];done)
  |(split at h
    ·rename_i e;obtain⟨rfl,rfl⟩:=e;rw[h.h]
    ·exact h.elim)
  |(split at h
    ·rename_i e;subst e;rw[h.h]
    ·exact h.elim)
  |(split at h
    ·rename_i e;rw[jbV e,h.h]
    ·exact h.elim)
def jd9 {c' c:XC} (h:mX c' c):c'=c:=by
 unfold mX at h;split at h
 all_goals first
  |exact h.elim
  |(split at h
    ·rename_i e;obtain⟨rfl,rfl⟩:=e;rw[h.h]
    ·exact h.elim)
  |(split at h
    ·rename_i e;subst e;rw[h.h]
    ·exact h.elim)
def Same (I:Env) (m:Rn) (f:Env->zs) (v:zs):Prop:=∀m',Ext m m'->f (jcq I m')=v
def jaC {I:Env} {m:Rn} {h s:Nat} (h1:jbb m h=some (some s)):jcq I m h=I s:=by simp[jcq,h1]
def jce {I:Env} {m:Rn} {h:Nat} (h1:jbb m h=some none):jcq I m h=.slice none 0 0:=by simp[jcq,h1]
def jpz:∀{l' l:List Nat} {m:Rn} {k:Rn->Prop},jxQ l' l m k->Inj m->∃m',k m'∧Ext m m'∧Inj m'∧∀m2,Ext m' m2->l'.map (jcq I m2)=l.map I
 |[],[],m,k,h,hi=>⟨m,h,Ext.refl m,hi,fun _ _=>rfl⟩
 |x' :: r',x::r,m,k,h,hi=>by
  obtain⟨m1,h1,hE1,hI1,hl1⟩:=jem h hi;obtain⟨m2,h2,hE2,hI2,hS2⟩:=jpz h1 hI1;refine⟨m2,h2,hE1.trans hE2,hI2,fun m3 h3=>?_⟩;simp only[zL,hS2 m3 h3,jaC (h3 _ _ (hE2 _ _ hl1))]
 |[],_::_,_,_,h,_=>h.elim
 |_::_,[],_,_,h,_=>h.elim
def jw0 {x' x:C} {m:Rn} {k:Rn->Prop} (h:mC x' x m k) (hi:Inj m):∃m',k m'∧Ext m m'∧Inj m'∧Same I m' (fun I'=>x'.val I') (x.val I):=by
 unfold mC at h;split at h
 ·rename_i d' d;exact⟨m,h.2,Ext.refl m,hi,fun m' _=>by rw[jmL h.1];rfl⟩
 ·rename_i h' i' e' j' hh i e j;split at h
  ·rename_i he;obtain⟨rfl,rfl⟩:=he;obtain⟨⟨rfl⟩,hb⟩:=h;obtain⟨m',hk,hE,hI,hl⟩:=jem hb hi;exact⟨m',hk,hE,hI,fun m2 h2=>by simp only[C.val,jaC (h2 _ _ hl)]⟩
  ·exact h.elim
 ·rename_i h' hh;obtain⟨m',hk,hE,hI,hl⟩:=jem h hi;exact⟨m',hk,hE,hI,fun m2 h2=>by simp only[C.val,jaC (h2 _ _ hl)]⟩
 ·rename_i h';split at h
  ·rename_i hl;exact⟨m,h,Ext.refl m,hi,fun m2 h2=>by simp only[C.val,jce (h2 _ _ hl),D.val]⟩
  ·exact h.elim
  ·rename_i hn;refine⟨_,h,juk hn,jAY hi,fun m2 h2=>?_⟩;simp only[C.val,jce (h2 h' none (by simp[jbb])),D.val]
 ·split at h
  ·rename_i e;subst e;obtain⟨m',hk,hE,hI,hl⟩:=jpz (I:=I) h hi;exact⟨m',hk,hE,hI,fun m2 h2=>by simp only[C.val,hl m2 h2]⟩
  ·exact h.elim
 ·split at h
  ·rename_i e;obtain⟨rfl,rfl,rfl⟩:=e;obtain⟨⟨rfl⟩,hk⟩:=h;exact⟨m,hk,Ext.refl m,hi,fun _ _=>rfl⟩
  ·exact h.elim
 ·exact h.elim
def jjx:∀{l' l:List C} {m:Rn} {k:Rn->Prop},mCs l' l m k->Inj m->∃m',k m'∧Ext m m'∧Inj m'∧∀m2,Ext m' m2->l'.map (C.val (jcq I m2))=l.map (C.val I)
 |[],[],m,k,h,hi=>⟨m,h,Ext.refl m,hi,fun _ _=>rfl⟩
 |x' :: r',x::r,m,k,h,hi=>by
  obtain⟨m1,h1,hE1,hI1,hS1⟩:=jw0 (I:=I) h hi;obtain⟨m2,h2,hE2,hI2,hS2⟩:=jjx h1 hI1;refine⟨m2,h2,hE1.trans hE2,hI2,fun m3 h3=>?_⟩;simp only[zL,hS2 m3 h3,hS1 m3 (hE2.trans h3)]
 |[],_::_,_,_,h,_=>h.elim
 |_::_,[],_,_,h,_=>h.elim
def jw1 {x' x:W} {m:Rn} {k:Rn->Prop} (h:mW x' x m k) (hi:Inj m):∃m',k m'∧Ext m m'∧Inj m'∧Same I m' (fun I'=>x'.val I') (x.val I):=by
 unfold mW at h;split at h
 ·exact jw0 h hi
 ·obtain⟨m',h1,h2,h3,h4⟩:=jjx (I:=I) h hi;exact⟨m',h1,h2,h3,fun m2 h5=>by simp only[W.val,h4 m2 h5]⟩
 ·split at h
  ·rename_i e;subst e;obtain⟨rfl,hk⟩:=joi h;exact⟨m,hk,Ext.refl m,hi,fun _ _=>rfl⟩
  ·exact h.elim
 ·exact h.elim
def jul:∀{l' l:List W} {m:Rn} {k:Rn->Prop},mWs l' l m k->Inj m->∃m',k m'∧Ext m m'∧Inj m'∧∀m2,Ext m' m2->l'.map (W.val (jcq I m2))=l.map (W.val I)
 |[],[],m,k,h,hi=>⟨m,h,Ext.refl m,hi,fun _ _=>rfl⟩
 |x' :: r',x::r,m,k,h,hi=>by
  obtain⟨m1,h1,hE1,hI1,hS1⟩:=jw1 (I:=I) h hi;obtain⟨m2,h2,hE2,hI2,hS2⟩:=jul h1 hI1;refine⟨m2,h2,hE1.trans hE2,hI2,fun m3 h3=>?_⟩;simp only[zL,hS2 m3 h3,hS1 m3 (hE2.trans h3)]
 |[],_::_,_,_,h,_=>h.elim
 |_::_,[],_,_,h,_=>h.elim
def jCB {x' x:V} {m:Rn} {k:Rn->Prop} (h:mV x' x m k) (hi:Inj m):∃m',k m'∧Ext m m'∧Inj m'∧Same I m' (fun I'=>x'.val I') (x.val I):=by
 unfold mV at h;split at h
 ·exact jw1 h hi
 ·obtain⟨m',h1,h2,h3,h4⟩:=jul (I:=I) h hi;exact⟨m',h1,h2,h3,fun m2 h5=>by simp only[V.val,h4 m2 h5]⟩
 ·exact h.elim
def jw2 (tm:List (Nat × V)):∀{l:List (Nat × V)} {m:Rn} {k:Rn->Prop},mT l tm m k->Inj m->∃m',k m'∧Ext m m'∧Inj m' ∧ ∀t v',jaP l t=some v'->∃v,jaP tm t=some v∧Same I m' (fun I'=>v'.val I') (v.val I)
 |[],m,k,h,hi=>⟨m,h,Ext.refl m,hi,fun _ _ hv=>by cases hv⟩
 |(t0,v0)::r,m,k,h,hi=>by
  unfold mT at h;split at h
  ·rename_i v hv;obtain⟨m1,h1,hE1,hI1,hS1⟩:=jCB (I:=I) h hi;obtain⟨m2,h2,hE2,hI2,hS2⟩:=jw2 tm h1 hI1;refine⟨m2,h2,hE1.trans hE2,hI2,fun t v' hv'=>?_⟩;simp only[jaP]at hv';split at hv'
   ·rename_i e;subst e;cases hv';exact⟨v,hv,fun m3 h3=>hS1 m3 (hE2.trans h3)⟩
   ·exact hS2 t v' hv'
  ·exact h.elim
def jb6 {c' c:Cont} (h:jek c' c):c'=c:=by
 unfold jek at h;split at h
 all_goals first
  |exact h.elim
  |(rw[h.h];done)
  |(split at h
    ·rename_i e;obtain⟨rfl,rfl⟩:=e;rw[h.h]
    ·exact h.elim)
  |(split at h
    ·rename_i e;subst e;rw[h.h]
    ·exact h.elim)
def joj (I:Env) (B:Kd) (w:zr) (hp:Hp) (m:Rn) (h':Nat) (o':O):Prop :=(∀m2,Ext m m2->o'.ok (jcq I m2) B w h') ∧ ((∃s o,jbb m h'=some (some s)∧find hp s=some o∧∀m2,Ext m m2->∀k,o'.blk (jcq I m2 h')=some k->o.blk (I s)=some k)∨(∀m2,Ext m m2->o'.blk (jcq I m2 h')=none))
def joj.mono {hp:Hp} {m m':Rn} {h':Nat} {o':O} (h:joj I B w hp m h' o') (hE:Ext m m'):joj I B w hp m' h' o':=by
 refine⟨fun m2 h2=>h.1 m2 (hE.trans h2),?_⟩;rcases h.2 with ⟨s,o,h1,h2,h3⟩|h1
 ·exact .inl ⟨s,o,hE _ _ h1,h2,fun m2 h4=>h3 m2 (hE.trans h4)⟩
 ·exact .inr fun m2 h2=>h1 m2 (hE.trans h2)
def jw3 {hp:Hp} {nx h' s:Nat} {o' o:O} {m:Rn} {k:Rn->Prop} (h:mO o' o m k) (hi:Inj m) (hh:HRel I B hp nx w) (hf:find hp s=some o) (hl:jbb m h'=some (some s)) :
  ∃m',k m'∧Ext m m'∧Inj m'∧joj I B w hp m' h' o':=by
 have hok:=(hh.ok s o hf).2.2;unfold mO at h;split at h
 ·rename_i ty cs' ty' cs;split at h
  ·rename_i e;subst e;obtain⟨m1,h1,hE,hI,hS⟩:=jjx (I:=I) h hi;refine⟨m1,h1,hE,hI,fun m2 h2=>?_,.inl ⟨s,_,hE _ _ hl,hf,fun m2 h2 k hk=>?_⟩⟩
   ·obtain⟨g,h3,h4,h5⟩:=hok;exact⟨g,by rw[jaC (h2 _ _ (hE _ _ hl))];exact h3,h4,by rw[hS m2 h2];exact h5⟩
   ·rw[jaC (h2 _ _ (hE _ _ hl))]at hk;exact hk
  ·exact h.elim
 ·rename_i ty c' ty' c;split at h
  ·rename_i e;subst e;have hc:=jb6 h.1;subst hc;refine⟨m,h.2,Ext.refl m,hi,fun m2 h2=>?_,.inl ⟨s,_,hl,hf,fun m2 h2 k hk=>?_⟩⟩
   ·unfold O.ok;rw[jaC (h2 _ _ hl)];exact hok
   ·rw[jaC (h2 _ _ hl)]at hk;exact hk
  ·exact h.elim
 ·rename_i c' c;have hc:=jb6 h.1;subst hc;refine⟨m,h.2,Ext.refl m,hi,fun m2 h2=>?_,.inr fun _ _=>rfl⟩;unfold O.ok;rw[jaC (h2 _ _ hl)];exact hok
 ·split at h
  ·rename_i hk;have hk:=jbV hk;subst hk;refine⟨m,h,Ext.refl m,hi,fun m2 h2=>?_,.inr fun _ _=>rfl⟩;unfold O.ok;rw[jaC (h2 _ _ hl)];exact hok
  ·exact h.elim
 ·rename_i cs' cs;obtain⟨m1,h1,hE,hI,hS⟩:=jjx (I:=I) h hi;refine⟨m1,h1,hE,hI,fun m2 h2=>?_,.inr fun _ _=>rfl⟩;obtain⟨g,o,h3,h4,h5⟩:=hok;refine⟨g,o,by rw[jaC (h2 _ _ (hE _ _ hl))];exact h3,h4,fun j c hj=>?_⟩;have hj2:(List.map (C.val (jcq I m2)) cs')[j]?=some (c.val (jcq I m2)):=by rw[zR,hj];rfl
  rw[hS m2 h2,zR]at hj2;obtain⟨c0,hc0,he0⟩:=z4.1 hj2;rw[<-he0];exact h5 j c0 hc0
 ·split at h
  ·rename_i e;obtain⟨rfl,rfl⟩:=e;obtain⟨rfl,hk⟩:=joi h;refine⟨m,hk,Ext.refl m,hi,fun m2 h2=>?_,.inl ⟨s,_,hl,hf,fun m2 h2 k hk=>?_⟩⟩
   ·unfold O.ok;rw[jaC (h2 _ _ hl)];exact hok
   ·rw[jaC (h2 _ _ hl)]at hk;exact hk
  ·exact h.elim
 ·have hc:=jd9 h.1;subst hc;refine⟨m,h.2,Ext.refl m,hi,fun m2 h2=>?_,.inr fun _ _=>rfl⟩;unfold O.ok;rw[jaC (h2 _ _ hl)];exact hok
 ·have hc:=jb6 h.1;subst hc;refine⟨m,h.2,Ext.refl m,hi,fun m2 h2=>?_,.inr fun _ _=>rfl⟩;unfold O.ok;rw[jaC (h2 _ _ hl)];exact hok
 ·split at h
  ·rename_i e;subst e;have hc:=jd9 h.1;subst hc;refine⟨m,h.2,Ext.refl m,hi,fun m2 h2=>?_,.inl ⟨s,_,hl,hf,fun m2 h2 k hk=>?_⟩⟩
   ·unfold O.ok;rw[jaC (h2 _ _ hl)];exact hok
   ·rw[jaC (h2 _ _ hl)]at hk;exact hk
  ·exact h.elim
 ·split at h
  ·rename_i e;obtain⟨rfl,rfl⟩:=e;have hc:=jd9 h.1;subst hc;refine⟨m,h.2,Ext.refl m,hi,fun m2 h2=>?_,.inl ⟨s,_,hl,hf,fun m2 h2 k hk=>?_⟩⟩
   ·unfold O.ok;rw[jaC (h2 _ _ hl)];exact hok
   ·rw[jaC (h2 _ _ hl)]at hk;exact hk
  ·exact h.elim
 ·split at h
  ·rename_i e;obtain⟨rfl,rfl⟩:=e;obtain⟨hc,⟨rfl⟩,hk⟩:=h;have hc:=jd9 hc;subst hc;refine⟨m,hk,Ext.refl m,hi,fun m2 h2=>?_,.inl ⟨s,_,hl,hf,fun m2 h2 k hk=>?_⟩⟩
   ·unfold O.ok;rw[jaC (h2 _ _ hl)];exact hok
   ·rw[jaC (h2 _ _ hl)]at hk;exact hk
  ·exact h.elim
 ·split at h
  ·rename_i e;obtain⟨rfl,rfl⟩:=e;obtain⟨hc,⟨hs⟩,hk⟩:=h;have hc:=jd9 hc;subst hc;refine⟨m,hk,Ext.refl m,hi,fun m2 h2=>?_,.inl ⟨s,_,hl,hf,fun m2 h2 k hk=>?_⟩⟩
   ·have:=jAS hok hs;unfold O.ok;rw[jaC (h2 _ _ hl)];exact this
   ·rw[jaC (h2 _ _ hl)]at hk;exact hk
  ·exact h.elim
 ·split at h
  ·rename_i e;obtain⟨rfl,rfl,rfl⟩:=e;obtain⟨⟨rfl⟩,hc,hb⟩:=h;have hc:=jb6 hc;subst hc;obtain⟨m1,h1,hE,hI,hb1⟩:=jem hb hi;refine⟨m1,h1,hE,hI,fun m2 h2=>?_,.inr fun _ _=>rfl⟩;unfold O.ok;simp only;rw[jaC (h2 _ _ (hE _ _ hl)),jaC (h2 _ _ hb1)];exact hok
  ·exact h.elim
 ·rename_i r' c';split at h
  ·rename_i c hc;have he:=jb6 h.1;subst he;refine⟨m,h.2,Ext.refl m,hi,fun m2 h2=>?_,.inr fun _ _=>rfl⟩;unfold O.ok;rw[jaC (h2 _ _ hl)];exact⟨jcc hok hc,fun h=>by cases h⟩
  ·exact h.elim
 ·exact h.elim
def jw4 {hp:Hp} {nx:Nat} (hh:HRel I B hp nx w):∀{l:Hp} {m:Rn} {k:Rn->Prop},mH l hp m k->Inj m->∃m',k m'∧Ext m m'∧Inj m'∧∀h' o',find l h'=some o'->joj I B w hp m' h' o'
 |[],m,k,h,hi=>⟨m,h,Ext.refl m,hi,fun _ _ hv=>by cases hv⟩
 |(h0,o0)::r,m,k,h,hi=>by
  have close:∀m1,Ext m m1->Inj m1->joj I B w hp m1 h0 o0->mH r hp m1 k->∃m',k m'∧Ext m m'∧Inj m'∧∀h' o',find ((h0,o0)::r) h'=some o'->joj I B w hp m' h' o':=by
   intro m1 hE1 hI1 hO1 h1;obtain⟨m2,h2,hE2,hI2,hS2⟩:=jw4 hh h1 hI1;refine⟨m2,h2,hE1.trans hE2,hI2,fun h' o' hf=>?_⟩;simp only[find]at hf;split at hf
   ·rename_i e;subst e;cases hf;exact hO1.mono hE2
   ·exact hS2 h' o' hf
  unfold mH at h;split at h
  ·rename_i s hs;split at h
   ·rename_i o hf;obtain⟨m1,h1,hE1,hI1,hO1⟩:=jw3 h hi hh hf hs;exact close m1 hE1 hI1 hO1 h1
   ·exact h.elim
  ·rename_i hs;split at h
   ·rename_i ty c;refine close m (Ext.refl m) hi ⟨fun m2 h2=>?_,.inr fun m2 h2=>?_⟩ h.2
    ·have hfl:c.flat=[]:=z5 (by rw[Cont.flat_length,h.1.h,yd])
     show w.ownsRow 0 ty c.e (jcq I m2 h0) c.n (c.flat.map D.val)∧∀k,(jcq I m2 h0).ownBlock=some k->¬B.all k
     rw[jce (h2 _ _ hs),hfl,h.1.h];exact⟨xU w 0 ty c.e,fun k hk=>by cases hk⟩
    ·rw[jce (h2 _ _ hs)];rfl
   ·rename_i ty X;refine close m (Ext.refl m) hi ⟨fun m2 h2=>?_,.inr fun m2 h2=>?_⟩ h.2
    ·refine⟨[],?_,fun i j h1 _=>?_,fun k hk=>?_⟩
     ·rw[jce (h2 _ _ hs),h.1.h];exact xU w 0 ty X.e
     ·rw[h.1.h]at h1;exact absurd h1 (ye _)
     ·rw[jce (h2 _ _ hs)]at hk;cases hk
    ·rw[jce (h2 _ _ hs)];rfl
   ·rename_i ty ts X;refine close m (Ext.refl m) hi ⟨fun m2 h2=>?_,.inr fun m2 h2=>?_⟩ h.2
    ·refine⟨[],?_,fun i j h1 _=>?_,fun i j i' j' u v k h1=>?_,fun k hk=>?_⟩
     ·rw[jce (h2 _ _ hs),h.1.h];exact xU w 0 ty X.e
     ·rw[h.1.h]at h1;exact absurd h1 (ye _)
     ·rw[h.1.h]at h1;exact absurd h1 (ye _)
     ·rw[jce (h2 _ _ hs)]at hk;cases hk
    ·rw[jce (h2 _ _ hs)];rfl
   ·exact h.elim
  ·split at h
   ·rename_i o hf;obtain⟨m1,h1,hE1,hI1,hl1⟩:=jem h hi;obtain⟨m2,h2,hE2,hI2,hO2⟩:=jw3 h1 hI1 hh hf hl1;exact close m2 (hE1.trans hE2) hI2 hO2 h2
   ·exact h.elim
def C.ltb_spec {n:Nat} {x:C} (h:x.ltb n=true):x.lt n:=by
 cases x with
 |d=>trivial
 |p=>simpa [C.ltb,C.lt,qL]using h
 |o=>simpa [C.ltb,C.lt,qL]using h
 |fn f hs=>intro y hy;have:=zy.1 h y hy;simpa [qL]using this
 |g=>trivial
def W.ltb_spec {n:Nat} {x:W} (h:x.ltb n=true):x.lt n:=by
 cases x with
 |c c=>exact C.ltb_spec h
 |a l=>exact fun y hy=>C.ltb_spec (zy.1 h y hy)
 |b=>trivial
def V.ltb_spec {n:Nat} {x:V} (h:x.ltb n=true):x.lt n:=by
 cases x with
 |w c=>exact W.ltb_spec h
 |t l=>exact fun y hy=>W.ltb_spec (zy.1 h y hy)
def O.ltb_spec {n:Nat} {x:O} (h:x.ltb n=true):x.lt n:=by
 cases x with
 |box ty cs=>exact fun y hy=>C.ltb_spec (zy.1 h y hy)
 |view r c _=>simpa [O.ltb,O.lt,qL]using h
 |sub r i e j ty c=>simpa [O.ltb,O.lt,qL]using h
 |ebox cs=>exact fun y hy=>C.ltb_spec (zy.1 h y hy)
 |_=>trivial
def jAZ {l:List (Nat × V)} {t:Nat} {v:V} (h:jaP l t=some v):(t,v)∈l:=by
 induction l with
 |nil=>cases h
 |cons p r ih =>
  obtain⟨k,x⟩:=p;simp only[jaP]at h;split at h
  ·rename_i e;subst e;cases h;exact zw
  ·exact zu _ (ih h)
def jum {l:Hp} {t:Nat} {v:O} (h:find l t=some v):(t,v)∈l:=by
 induction l with
 |nil=>cases h
 |cons p r ih =>
  obtain⟨k,x⟩:=p;simp only[find]at h;split at h
  ·rename_i e;subst e;cases h;exact zw
  ·exact zu _ (ih h)
def jzm {l:Rn} {t:Nat} {v:Option Nat} (h:jbb l t=some v):(t,v)∈l:=by
 induction l with
 |nil=>cases h
 |cons p r ih =>
  obtain⟨k,x⟩:=p;simp only[jbb]at h;split at h
  ·rename_i e;subst e;cases h;exact zw
  ·exact zu _ (ih h)
def Le.rel {st':St} (h:Le n0 st st') (hr:RelD ds I B N n0 st a w):∃I',RelD ds I' B N n0 st' a w∧jah n0 I I':=by
 unfold Le at h;split at h
 ·rename_i hwf;simp only[zk]at hwf;obtain⟨hwf,hn0⟩:=hwf;simp only[St.wfb,zk,zy]at hwf;obtain⟨m1,h1,hE1,hI1,hT⟩:=jw2 (I:=I) st.tm h (fun _ _ _ hx=>by cases hx);obtain⟨B1,g,hh1⟩:=hr.heap;obtain⟨m2,h2,hE2,hI2,hO⟩:=jw4 hh1 h1 hI1
  have h2:jzl n0 m2=true:=by
   split at h2
   ·assumption
   ·exact h2.elim
  refine⟨jcq I m2,⟨fun t v' hv'=>?_,hr.size,hr.defers,⟨B1,g,⟨fun h' o' hf=>?_,fun h' o' g' p' k hf hf' hne hk hk'=>?_,hh1.glob⟩⟩,hr.le,by simpa [Nat.ble_eq]using hn0⟩,fun h hh=>?_⟩
  ·obtain⟨v,hv,hS⟩:=hT t v' hv';refine⟨V.ltb_spec (hwf.1 (t,v') (jAZ hv')),?_⟩;rw[(hr.tm t v hv).2];exact(hS m2 hE2).symm
  ·have hm:=hwf.2 (h',o') (jum hf);simp only[qL]at hm;exact⟨hm.1,O.ltb_spec hm.2,(hO h' o' hf).1 m2 (Ext.refl _)⟩
  ·rcases(hO h' o' hf).2 with ⟨s,o,h3,h4,h5⟩|h3
   ·rcases(hO g' p' hf').2 with ⟨s',o2,h3',h4',h5'⟩|h3'
    ·have hss:s≠s':=fun e=>hne (hI2 h' g' s h3 (by rw[e];exact h3'));exact hh1.apart s o s' o2 k h4 h4' hss (h5 m2 (Ext.refl _) k hk) (h5' m2 (Ext.refl _) k hk')
    ·rw[h3' m2 (Ext.refl _)]at hk';cases hk'
   ·rw[h3 m2 (Ext.refl _)]at hk;cases hk
  ·unfold jcq;cases hl:jbb m2 h with
   |none=>rfl
   |some x =>
    have:=zy.1 h2 (h,x) (jzm hl);have hb:h.blt n0=true:=by rw[qL];exact hh
    simp[hb]at this;subst this;rfl
 ·exact h.elim
end
end Go.Sx
end

section
open Go.RowKit
namespace Go.Sx
section
variable [Globs] {P:zP} {B:Kd} {N n0:Nat} {sp:jab} {I0:Env} {w0:zr} {ds:List yK}
def jdy [Globs] (P:zP) (B:Kd) (N n0:Nat) (I0:Env) (w0:zr) (drawn:Array qu->St->(St->Prop)->Prop):Prop :=
 ∀⦃ds:List yK⦄ (id:Nat) (ops:Array qu) (st:St) (k:St->Prop) (I:Env) (a:Act) (w:zr) (Q:Exit->Act->zr->Prop),drawn ops st k->RelD ds I B N n0 st a w->jah n0 I0 I->Bel B w0 w -> (∀I' st' a' w',RelD ds I' B N n0 st' a' w'->jah n0 I0 I'->Bel B w0 w'->k st'->Q .normal a' w')->(Code.region id ops true).wp P Q a w
def jzn {I:Env} {st:St} {a:Act} {w:zr} {c:zZ} {b:Bool} (hr:RelD ds I B N n0 st a w) (h:(jcv st c).bind V.bool?=some b):a.eval c=.bool b:=by
 cases hc:jcv st c with
 |none=>simp[hc]at h
 |some v =>
  simp only[hc,zV]at h;rw[(hr.reads c v hc).2,V.bool?_eq h];rfl
def jk7 {c:Code} {F:St->(Ex->St->Prop)->Prop} (hF:∀st k I a w,F st k->RelD ds I B N n0 st a w->jah n0 I0 I->Bel B w0 w->c.wp P (Qx ds I0 B N n0 w0 k) a w) :
  ∀(n:Nat) (st:St) (k:Ex->St->Prop) (I:Env) (a:Act) (w:zr),jui F n st k->RelD ds I B N n0 st a w->jah n0 I0 I->Bel B w0 w->fy P c (Qx ds I0 B N n0 w0 k) n a w
 |0,_,_,_,_,_,h,_,_,_=>h.elim
 |n+1,st,k,I,a,w,h,hr,hag,hbl=>by
  rw[ki];refine yl (hF st _ I a w h hr hag hbl) ?_;rintro e a' w' ⟨x,I',st',rfl,hk,hr',hag',hbl'⟩;cases x with
  |normal=>exact jk7 hF n st' k I' a' w' hk hr' hag' hbl'
  |exit j=>exact⟨.exit j,I',st',rfl,hk,hr',hag',hbl'⟩
  |ret=>exact⟨.ret,I',st',rfl,hk,hr',hag',hbl'⟩
def ja2 {fuel:Nat} {loops:jel} {drawn:Array qu->St->(St->Prop)->Prop} (hsp:jam P sp) (hdr:jdy P B N n0 I0 w0 drawn) :
  ∀(c:Code) (cur:Nat) (gs:List Nat) (st:St) (k:Ex->St->Prop) (I:Env) (a:Act) (w:zr),sx P sp N n0 fuel loops drawn c cur gs st k->RelD ds I B N n0 st a w->jah n0 I0 I->Bel B w0 w -> c.wp P (Qx ds I0 B N n0 w0 k) a w
 | .skip,_,_,st,k,I,a,w,h,hr,hag,hbl=>wp_skip ⟨.normal,I,st,rfl,h,hr,hag,hbl⟩
 | .label _,_,_,st,k,I,a,w,h,hr,hag,hbl=>wp_label ⟨.normal,I,st,rfl,h,hr,hag,hbl⟩
 | .region id ops draw,_,_,st,k,I,a,w,h,hr,hag,hbl=>by
  unfold sx at h;cases draw with
  |false =>
   refine wp_region_list ?_;have:=jpy (P:=P) (Q:=Qx ds I0 B N n0 w0 k) (k:=fun st'=>k .normal st') (all:=ops.toList) hsp (fun I' st' a' w' h1 h2 h3 h4=>⟨.normal,I',st',rfl,h4,h1,h2,h3⟩) ops.toList I st a w hr hag hbl h;simpa using this
  |true=>exact hdr id ops st _ I a w _ h hr hag hbl (fun I' st' a' w' h1 h2 h3 h4=>⟨.normal,I',st',rfl,h4,h1,h2,h3⟩)
 | .seq x y,cur,gs,st,k,I,a,w,h,hr,hag,hbl=>by
  unfold sx at h;refine wp_seq (yl (ja2 hsp hdr x cur gs st _ I a w h hr hag hbl) ?_);rintro e a' w' ⟨ex,I',st',rfl,hk,hr',hag',hbl'⟩;cases ex with
  |normal=>exact ja2 hsp hdr y cur gs st' k I' a' w' hk hr' hag' hbl'
  |exit j=>exact⟨.exit j,I',st',rfl,hk,hr',hag',hbl'⟩
  |ret=>exact⟨.ret,I',st',rfl,hk,hr',hag',hbl'⟩
 | .cond c x y,cur,gs,st,k,I,a,w,h,hr,hag,hbl=>by
  unfold sx at h;split at h
  ·rename_i b hb;have he:=jzn hr hb;cases b with
   |true=>exact wp_cond_true he (ja2 hsp hdr x cur gs st k I a w h hr hag hbl)
   |false=>exact wp_cond_false he (ja2 hsp hdr y cur gs st k I a w h hr hag hbl)
  ·exact h.elim
 | .block id c,_,gs,st,k,I,a,w,h,hr,hag,hbl=>by
  unfold sx at h;refine wp_block (yl (ja2 hsp hdr c id gs st _ I a w h hr hag hbl) ?_);rintro e a' w' ⟨ex,I',st',rfl,hk,hr',hag',hbl'⟩;cases ex with
  |normal=>exact⟨.normal,I',st',rfl,hk,hr',hag',hbl'⟩
  |exit j =>
   simp only[Ex.toExit,Exit.inBlock];dsimp only at hk;split
   ·rename_i e;rw[if_pos e]at hk;exact⟨.normal,I',st',rfl,hk,hr',hag',hbl'⟩
   ·rename_i e;rw[if_neg e]at hk;exact⟨.exit j,I',st',rfl,hk,hr',hag',hbl'⟩
  |ret=>exact⟨.ret,I',st',rfl,hk,hr',hag',hbl'⟩
 | .loop c,cur,gs,st,k,I,a,w,h,hr,hag,hbl=>by
  unfold sx at h;split at h
  ·rename_i L hL;obtain⟨⟨x0,⟨hx0⟩,hle0⟩,hround⟩:=h;obtain⟨I1,hr1,hag1⟩:=hle0.rel hr;have hag01:jah n0 I0 I1:=fun h hh=>(hag1 h hh).trans (hag h hh)
   have key:∀(n:Nat) (x:L.X),L.mu x=n->L.inv x->∀(I:Env) (a:Act) (w:zr),RelD ds I B N n0 (L.st x) a w->jah n0 I0 I->Bel B w0 w->fy P c (Qx ds I0 B N n0 w0 k) (n+1) a w:=by
    intro n
    induction n using Nat.strongRecOn with
    |_ n ih =>
     intro x hn hx I a w hr hag hbl;rw[ki];refine yl (ja2 hsp hdr c cur (L.mu x::gs) (L.st x) _ I a w (hround x hx) hr hag hbl) ?_;rintro e a' w' ⟨ex,I',st',rfl,hk,hr',hag',hbl'⟩;cases ex with
     |normal =>
      obtain⟨x',⟨hx'⟩,⟨hmu⟩,hle⟩:=hk;obtain⟨I2,hr2,hag2⟩:=Le.rel hle hr';have hlt:L.mu x'<n:=by omega
      have:=ih (L.mu x') hlt x' rfl hx' I2 a' w' hr2 (fun h hh=>(hag2 h hh).trans (hag' h hh)) hbl';exact rounds_le (by omega) this
     |exit j=>exact⟨.exit j,I',st',rfl,hk,hr',hag',hbl'⟩
     |ret=>exact⟨.ret,I',st',rfl,hk,hr',hag',hbl'⟩
   exact kt _ (key _ x0 rfl hx0 I1 a w hr1 hag01 hbl)
  ·refine kt fuel (jk7 (F:=fun st k=>sx P sp N n0 fuel loops drawn c cur gs st k) ?_ fuel st k I a w h hr hag hbl);intro st k I a w h hr hag hbl;exact ja2 hsp hdr c cur gs st k I a w h hr hag hbl
 | .exit id,_,_,st,k,I,a,w,h,hr,hag,hbl=>wp_exit ⟨.exit id,I,st,rfl,h,hr,hag,hbl⟩
 | .ret,_,_,st,k,I,a,w,h,hr,hag,hbl=>wp_ret ⟨.ret,I,st,rfl,h,hr,hag,hbl⟩
 | .scope _,_,_,_,_,_,_,_,h,_,_,_=>h.elim
 | .goto _,_,_,_,_,_,_,_,h,_,_,_=>h.elim
 | .rangeFunc _ _ _ _,_,_,_,_,_,_,_,h,_,_,_=>h.elim
 | .refuse _,_,_,_,_,_,_,_,h,_,_,_=>h.elim
 where
 rounds_le {c:Code} {Q:Exit->Act->zr->Prop}:∀{n m:Nat} {a:Act} {w:zr},n<=m->fy P c Q n a w->fy P c Q m a w
  |0,_,_,_,_,h=>h.elim
  |n+1,0,_,_,hl,_=>by omega
  |n+1,m+1,a,w,hl,h=>by
   rw[ki]at *;refine yl h ?_;intro e a' w' hq;cases e<;>first|exact rounds_le (Nat.le_of_succ_le_succ hl) hq|exact hq
end
end Go.Sx
end

section
open Go.RowKit
namespace Go.Sx
def jpA (P:zP) (st:St):gE->Option (Prop × W)| .tmp t=>(match jaP st.tm t with|some (.w u)=>some (True,u)|_=>none)| .cell t ty=>match jaP st.tm t with|some (.w (.c (.p h i e j)))=>(match find st.hp h with|some o=>(match jpd P ty o i e j with|some (ob,.w u)=>some (ob,u)|_=>none)|none=>none)|_=>none
def jfp (P:zP) (st:St):List gE->Option (List (Prop × W))|[]=>some []|r::rs=>match jpA P st r,jfp P st rs with|some x,some l=>some (x::l)|_,_=>none
def jb7:List W->V|[u]=>.w u|l=>.t l
def jk8:List (Prop × W)->Prop->Prop|[],k=>k|x::l,k=>Ob x.1∧jk8 l k
def jbN (P:zP) (rs:List gE) (post:V->Hp->Nat->Prop):Ex->St->Prop| .exit _,_=>False|_,st=>match jfp P st rs with|some l=>jk8 l (post (jb7 (l.map (·.2))) st.hp st.nx)|none=>False
def jbo:Nat->List V->List (Nat × V)|_,[]=>[]|n,v::l=>(n,v)::jbo (n+1) l
def jpB (tmps:Array zs):gE->Sem zs
 | .tmp t=>pure (tmps.getD t zJ)
 | .cell c t=>do loadVar t (<-asAddr (tmps.getD c zJ))
def jpC (fn:Func) (tmps:Array zs):results fn tmps=(fn.results.mapM (jpB tmps) >>= fun vs=>pure (if h:vs.size=1 then vs[0]else .tuple vs)):=by
 unfold results
 congr 1
section
variable [Globs] {P:zP} {B:Kd} {N n0:Nat} {I:Env} {st:St} {a:Act} {w:zr} {ds:List yK}
def jxT {r:gE} {ob:Prop} {u:W} (hr:RelD ds I B N n0 st a w) (h:jpA P st r=some (ob,u)) (ho:ob) :
  (jpB a.tmps r).run P w=.ok (u.val I) w∧u.lt st.nx:=by
 unfold jpA at h;split at h
 ·rename_i t;split at h
  ·rename_i u' hg;cases h;have:=hr.tm t _ hg;exact⟨by simp only[jpB,zt,this.2];rfl,this.1⟩
  ·cases h
 ·rename_i t ty;split at h
  ·rename_i k i e j hg;split at h
   ·rename_i o hf;split at h
    ·rename_i ob' u' hro;cases h;have h1:=(hr.tm t _ hg).2;obtain⟨B1,g,hh1⟩:=hr.heap;have h2:=jrW hh1 hf hro ho;refine⟨?_,h2.2⟩;simp only[jpB,h1,cell_val,C.val,asAddr,zq,zt,zn];exact h2.1
    ·cases h
   ·cases h
  ·cases h
def jjy (hr:RelD ds I B N n0 st a w):∀(rs:List gE) (l:List (Prop × W)) (k:Prop),jfp P st rs=some l->jk8 l k -> (rs.mapM (jpB a.tmps)).run P w=.ok (l.map fun x=>x.2.val I) w∧(∀x∈l,x.2.lt st.nx)∧k
 |[],l,k,h,ho=>by
  simp only[jfp,zj]at h;subst h;exact⟨by simp,(fun _ hx=>by cases hx),ho⟩
 |r::rs,l,k,h,ho=>by
  simp only[jfp]at h;split at h
  ·rename_i x l' hx hl;cases h;obtain⟨h1,h2⟩:=ho;have ih:=jjy hr rs l' k hl h2;have h3:=jxT hr hx h1.h;refine⟨?_,?_,ih.2.2⟩
   ·simp only[List.mapM_cons,zq,h3.1,zn,ih.1,zt,zL]
   ·intro y hy;rcases qr.1 hy with rfl|hy
    ·exact h3.2
    ·exact ih.2.1 y hy
  ·cases h
def jdk (l:List W):(jb7 l).val I=(if h:(l.map (W.val I)).toArray.size=1 then(l.map (W.val I)).toArray[0]else .tuple (l.map (W.val I)).toArray):=by
 match l with
 |[]=>rfl
 |[u]=>rfl
 |u::v::r=>simp[jb7,V.val]
def jf8 {n:Nat} {l:List W} (h:∀x∈l,x.lt n):(jb7 l).lt n:=by
 match l with
 |[]=>exact h
 |[u]=>exact h u zw
 |u::v::r=>exact h
def jr0:∀(l:List V) (n t:Nat) (v:V),jaP (jbo n l) t=some v->n<=t∧l[t-n]?=some v
 |[],_,_,_,h=>by cases h
 |x::l,n,t,v,h=>by
  simp only[jbo,jaP]at h;split at h
  ·rename_i e;subst e;cases h;simp
  ·have:=jr0 l (n+1) t v h;refine⟨by omega,?_⟩;have e:t-n=(t-(n+1))+1:=by omega
   rw[e];simpa using this.2
def jfq {N:Nat} {args:List V} {hp0:Hp} {nx0:Nat} (hlen:args.length<=N) (hlt:∀x∈args,V.lt nx0 x) (hn0:n0<=nx0) (I:Env) (w:zr) (hh:HRel I B hp0 nx0 w) (hB:Old B w) :
  Rel I B N n0 ⟨jbo 0 args,hp0,nx0⟩ { tmps:=(args.map (V.val I)).toArray++xZ (N-(args.map (V.val I)).toArray.size) zJ,defers:=[] } w:=by
 refine⟨fun t v hv=>?_,by simp;omega,rfl,⟨B,Grow.refl _ _ _ _,hh⟩,hB,hn0⟩;have hg:=jr0 args 0 t v hv;simp only[Nat.sub_zero]at hg;have hlt2:t<args.length:=(zC.1 hg.2).1;refine⟨hlt v (List.mem_of_getElem? hg.2),?_⟩;have hv2:args[t]=v:=(zC.1 hg.2).2;have hsz:t<((args.map (V.val I)).toArray++xZ (N-(args.map (V.val I)).toArray.size) zJ).size:=by simp;omega
 simp only[xO,xm hsz,z9];rw[Array.getElem_append_left (by simpa using hlt2)];simp[hv2]
def jjz {sp:jab} {fuel:Nat} {loops:jel} {drawn:Array qu->St->(St->Prop)->Prop} {f:Nat} {fn:Func} {body:Code} {args:List V} {hp0:Hp} {nx0:Nat} {post:V->Hp->Nat->Prop}
  (hsp:jam P sp) (hdr:∀I w,jdy P B fn.ntmps n0 I w drawn) (hf:P.funcs[f]?=some fn) (hb:fn.body=some body) (hlen:args.length<=fn.ntmps)
  (h:sx P sp fn.ntmps n0 fuel loops drawn body 0 [] ⟨jbo 0 args,hp0,nx0⟩ (jbN P fn.results.toList post)) (hlt:∀x∈args,V.lt nx0 x) (hn0:n0<=nx0) (I:Env) (w:zr) (hh:HRel I B hp0 nx0 w) (hB:Old B w) :
  Calls P f (args.map (V.val I)).toArray w fun e w'=>∃I' v hp' nx',e=.returned (v.val I')∧v.lt nx'∧jah n0 I I'∧(∃B',Grow B B' false w' w'∧HRel I' B' hp' nx' w')∧Bel B w w'∧Old B w'∧post v hp' nx':=by
 refine calls_of_wp hf hb ?_;have hrel:=jfq (n0:=n0) hlen hlt hn0 I w hh hB;refine yl (ja2 hsp (hdr I w) body 0 [] _ _ I _ w h hrel (jah.refl _ _) (Bel.refl _ _)) ?_;rintro e a' w' ⟨x,I',st',rfl,hk,hr',hag',hbl'⟩
 have fin:∀l:List (Prop × W),jfp P st' fn.results.toList=some l->jk8 l (post (jb7 (l.map (·.2))) st'.hp st'.nx) ->
   a'.defers=[]∧∃v,(results fn a'.tmps).run P w'=.ok v w'∧∃I' v' hp' nx',Ending.returned v=.returned (v'.val I')∧v'.lt nx'∧jah n0 I I'∧(∃B',Grow B B' false w' w'∧HRel I' B' hp' nx' w')∧Bel B w w'∧Old B w'∧post v' hp' nx':=by
  intro l hl ho;have hra:=jjy hr' _ l _ hl ho;refine⟨hr'.defers,(jb7 (l.map (·.2))).val I',?_,I',jb7 (l.map (·.2)),st'.hp,st'.nx,rfl,jf8 (fun y hy=>?_),hag',hr'.heap,hbl',hr'.le,hra.2.2⟩
  ·rw[jdk];simp only[jpC,Array.mapM_eq_mapM_toList,zq,Sem.run_map,hra.1,zn,zt,List.map_map];rfl
  ·obtain⟨z,hz,rfl⟩:=qn.1 hy;exact hra.2.1 z hz
 cases x with
 |normal =>
  simp only[jbN]at hk;split at hk
  ·rename_i l hl;exact fin l hl hk
  ·exact hk.elim
 |exit j=>exact hk.elim
 |ret =>
  simp only[jbN]at hk;split at hk
  ·rename_i l hl;exact fin l hl hk
  ·exact hk.elim
end
end Go.Sx
end
