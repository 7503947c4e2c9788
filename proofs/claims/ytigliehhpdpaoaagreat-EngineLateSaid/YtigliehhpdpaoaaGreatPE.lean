/- Part 5 of the proof of EngineLate: the executor, the mirrors of the functions, the plain facts. -/
import Derived.Test.YtigliehhpdpaoaaGreatPD
import Derived.IntWalk
set_option maxRecDepth 100000
set_option linter.unusedSectionVars false
set_option linter.unusedSimpArgs false
set_option linter.unusedVariables false
set_option linter.defProp false
open Bool renaming and_eq_true->zm,eq_iff_iff->yJ,false_eq_true->zV,false_ne_true->qx,not_eq_false->fx,not_eq_false'->jE,not_eq_true->jZ,not_eq_true'->xt,or_eq_false_iff->yo,or_eq_true->qK,or_false->f7,true_and->f8
open ByteArray renaming mk->qD
open Classical renaming byContradiction->jo
open Eq renaming mp->jI
open Go renaming Oper->qu,Operand->zR,Program->zL,World->zs,undef->z3,wpList->gZ,wp_mono->x6
open Go.Ending renaming returned->xX
open Go.FloatKind renaming decode->qG,encode->jg,nearest->qv
open Go.IntKind renaming i64->xu
open Go.Region renaming ready->jm,wanted->yB
open Go.Result renaming andThen_ok->zn
open Go.Sem renaming run_bind->zr,run_pure->zx
open Go.Value renaming ownBlock->z4,slice->qd
open Int renaming le_refl->yz,toNat->zg,toNat_natCast->zi
open List renaming all_eq_true->zy,any_append->gQ,any_cons->jx,any_eq_false->xx,any_eq_true->qM,any_nil->kh,append_assoc->qL,append_nil->yr,cons_append->qq,drop->yI,drop_zero->xU,ext_getElem->xH,find?_cons->fR,findIdx?_cons->xL,findIdx?_eq_none_iff->qt,findIdx?_eq_some_iff_getElem->qm,getD->za,getElem?_eq_getElem->zG,getElem?_eq_none->qb,getElem?_take_of_lt->jw,getElem_map->j3,getElem_mem->zZ,getElem_range->yE,getElem_set->fG,headD->qg,length->ze,length_append->qh,length_cons->zA,length_drop->xm,length_map->qk,length_nil->qi,length_range->yq,length_set->gR,map->xj,map_append->qQ,map_congr_left->qy,map_map->xh,mem_cons->qp,mem_cons_of_mem->zu,mem_cons_self->zw,mem_iff_getElem->xf,mem_map->qa,mem_map_of_mem->jt,mem_range->qJ,range->zo,range_succ->ye,replicate->zf,replicate_succ->yu,set->qw,set_append_right->yF,take->yH,take_length->yk,take_of_length_le->xq
open Nat renaming beq->zC,div_eq_of_lt->jY,eq_of_beq_eq_true->zj,le_of_ble_eq_true->zh,le_of_not_lt->x5,le_refl->zq,lt_log2_self->gF,min_eq_left->ya,mul_assoc->x7,mul_comm->xr,mul_one->yR,not_lt_of_le->yj,pow_add->yA,shiftLeft_eq->jk,strongRecOn->yX,sub_self->yV,sub_zero->jl,two_pow_pos->yd,zero_add->z6
open Option renaming bind->zb,getD->zM,getD_none->yP,getD_some->zY,map_eq_some_iff->zX,map_some->qr
open Option.some renaming injEq->zk
open Prod.mk renaming injEq->qo
section
open Go.RowKit
namespace Go.Sx
def allN:List Nat->(Nat->Prop)->Prop
 |[],_=>True
 |i::is,f=>f i∧allN is f
def jyo [Globs] (P:zL) (sp:jaa) (N:Nat) (ops:Array qu) (k:St->Prop):Nat->Array Bool->St->Prop
 |0,l,st=>match jm .any ops l with
  |[]=>k st
  |_=>False
 |n+1,l,st=>match jm .any ops l with
  |[]=>k st
  |is=>allN is fun i=>match ops[i]? with
   |some o=>match o.guard,jcU N o.dst,jdb P sp o.op (jcw st) st.hp st.nx with
    |none,true,some r=>Ob r.ob∧jyo P sp N ops k n (l.setIfInBounds i true) (st.put o.dst r)
    |_,_,_=>False
   |none=>False
def jwN [Globs] (P:zL) (sp:jaa) (N:Nat) (ops:Array qu) (k:St->Prop):List Nat->Nat->Array Bool->St->Prop
 |[],n,l,st=>jyo P sp N ops k n l st
 |_::_,0,_,_=>False
 |i::F,n+1,l,st=>match ops[i]?,jBJ ops l i with
  |some o,true=>match o.guard,o.dst with
   |none,some t=>match jci P o.op (jcw st) [],Nat.blt t N with
    |some (ob,v),true=>Ob ob∧jwN P sp N ops k F n (l.setIfInBounds i true) (st.put (some t) ⟨ob,v,st.hp,st.nx⟩)
    |_,_=>False
   |_,_=>False
  |_,_=>False
def jyp [Globs] (P:zL) (sp:jaa) (N:Nat):List qu->St->Prop->(St->Prop->Prop)->Prop
 |[],st,ps,k=>k st ps
 |o::L,st,ps,k=>match jdb P sp o.op (jcw st) st.hp st.nx with
  |some r=>match jbA o.op (jcw st) st.hp with
   |true=>jyp P sp N L (st.put o.dst r) ps k
   |false=>Ob r.ob∧jyp P sp N L (st.put o.dst r) (r.ob∧ps) k
  |none=>False
def C.hs:C->List Nat
 | .o h=>[h]
 | .p h _ _ _=>[h]
 | .fn _ l=>l
 |_=>[]
def V.hs:V->List Nat
 | .w (.c x)=>x.hs
 | .w (.a l)=>l.flatMap C.hs
 | .w (.b _ _)=>[]
 | .t l=>l.flatMap fun u=>match u with
  | .c x=>x.hs
  | .a l=>l.flatMap C.hs
  | .b _ _=>[]
def O.hs:O->List Nat
 | .box _ cs=>cs.flatMap C.hs
 | .ebox cs=>cs.flatMap C.hs
 | .view r _ _=>[r]
 | .sub r _ _ _ _ _=>[r]
 |_=>[]
def jDX (hp:Hp):Nat->List Nat->List Nat
 |0,l=>l
 |n+1,l=>jDX hp n (jeD (l.flatMap fun h=>((find hp h).map O.hs).getD []) l)
def jwO (T:List Nat) (st:St):List (Nat × V):=T.filterMap fun t=>(jaS st.tm t).map fun v=>(t,v)
def joz (T:List Nat) (st:St):St:=⟨jwO T st,(jDX st.hp 4 (jeD ((jwO T st).flatMap fun x=>x.2.hs) [])).reverse.filterMap fun h=>(find st.hp h).map fun o=>(h,o),st.nx⟩
def ordA [Globs] (P:zL) (sp:jaa) (N n0:Nat) (F:List Nat) (ops:Array qu) (st X:St) (ps:Prop):Prop :=
 ps->jwN P sp N ops (fun st'=>Le n0 st' X) F ops.size (Array.replicate ops.size false) st
def jsy [Globs] (P:zL) (sp:jaa) (N n0 n:Nat) (T0 T F:List Nat) (ops:Array qu) (st:St) (k:St->Prop):Prop :=
 match zC ops.size n with
 |true=>jyp P sp N ops.toList (joz T0 st) True fun X ps=>Ob (ordA P sp N n0 F ops (joz T0 st) (joz T X) ps)∧k (joz T X)
 |false=>jcA P sp N ops st k
section
variable [Globs] {P:zL} {sp:jaa} {B:Kd} {N n0:Nat} {I:Env} {a:Act} {w:zs} {hp:Hp} {nx:Nat} {rd:zR->Option V} {ds:List Deferred}
def jyq {f:Nat->Prop}:∀{l:List Nat},allN l f->∀i,i∈l->f i
 |_::_,h,_,.head _=>h.1
 |_::_,h,_,.tail _ hm=>jyq h.2 _ hm
def jyr {w0:zs} {I0:Env} (hsp:jab P sp) {ops:Array qu} {k:St->Prop} {Q:Exit->Act->zs->Prop}
  (hK:∀(I':Env) (st':St) (a':Act) (w':zs),RelD ds I' B N n0 st' a' w'->jak n0 I0 I'->Bel B w0 w'->k st'->Q .normal a' w') :
  ∀(n:Nat) (l:Array Bool) (st:St) (I:Env) (a:Act) (w:zs),jyo P sp N ops k n l st->RelD ds I B N n0 st a w->jak n0 I0 I->Bel B w0 w->wpAny P .any ops Q n l a w
 |0,l,st,I,a,w,h,hr,hag,hbl=>by
  unfold jyo at h;split at h
  ·rename_i he;exact⟨he,hK I st a w hr hag hbl h⟩
  ·exact h.elim
 |n+1,l,st,I,a,w,h,hr,hag,hbl=>by
  unfold jyo at h;split at h
  ·rename_i he;exact⟨fun _=>hK I st a w hr hag hbl h,by rw[he];simp⟩
  ·rename_i hne;refine⟨fun he=>absurd he hne,fun i hi=>?_⟩;have h1:=jyq h i hi;split at h1
   ·rename_i o ho;split at h1
    ·rename_i r hgd hdst hstep;obtain⟨B1,g1,hh⟩:=hr.heap;have hB1:Old B1 w:=g1.old hr.le;unfold wpOp;simp only[ho];rw[if_pos (by simp[yB,hgd])];refine .inl ?_;refine jcT hsp hh hB1 hr.reads hstep h1.1.h _ Q fun I' w' hl=>?_;exact jyr hsp hK n _ _ I' _ w' h1.2 (hr.put1 g1 hdst hl) (hag.trans hl.agree hr.n0) (hbl.trans (hl.below.mono g1.le.kp))
    ·exact h1.elim
   ·exact h1.elim
def jvt {w0 w:zs} {I0:Env} (hG:∀(B:Bd) (w:zs),jbC B w) (hsp:jab P sp) {ops:Array qu} {k:St->Prop} {Q:Exit->Act->zs->Prop} (hQ:∀c a w,¬Q (.panic c) a w) (hbl:Bel B w0 w)
  (hK:∀(I':Env) (st':St) (a':Act) (w':zs),RelD ds I' B N n0 st' a' w'->jak n0 I0 I'->Bel B w0 w'->k st'->Q .normal a' w') :
  ∀(F:List Nat) (n:Nat) (l:Array Bool) (st:St) (I:Env) (a:Act),jwN P sp N ops k F n l st->RelD ds I B N n0 st a w->jak n0 I0 I->wpAny P .any ops Q n l a w
 |[],n,l,st,I,a,h,hr,hag=>jyr hsp hK n l st I a w h hr hag hbl
 |i::F,0,l,st,I,a,h,hr,hag=>h.elim
 |i::F,n+1,l,st,I,a,h,hr,hag=>by
  unfold jwN at h;split at h
  ·rename_i o hi htb;split at h
   ·rename_i t hg hd;split at h
    ·rename_i ob v hv hlt;obtain⟨B1,g1,hh1⟩:=hr.heap;have hrun:=fun(w':zs)=>jd5 (B:=kd fun _=>False) (w:=w') ⟨(fun h o hf=>by cases hf),(fun h o h' o' k hf=>by cases hf),hG _ w'⟩ hr.reads hv h.1.h;have hl:Left I B1 st.nx w ⟨ob,v,st.hp,st.nx⟩ true I w:=⟨jak.refl _ _,(hrun w).2,zq _,hh1.gr,Bel.refl _ _,(fun _=>Below.refl _ _),fun _ h o k hn hf _=>absurd (hh1.ok h o hf).1 (by omega)⟩
     have hput:=hr.put1 g1 (o:=o) (by rw[hd];simpa [jcU]using hlt) hl;rw[hd]at hput;have ih:=jvt hG hsp hQ hbl hK F n (l.setIfInBounds i true) (st.put (some t) ⟨ob,v,st.hp,st.nx⟩) I _ h.2 hput hag;obtain⟨t1,t2,t3⟩:=jBK htb;refine wpAny_take (v:=v.val I) hi t1 t2 (by simpa using t3) (fun c a w hq=>absurd hq (hQ c _ w)) (.inl ⟨by simp[yB,hg],fun w'=>(hrun w').1⟩) ?_;rw[hd];exact ih
    ·exact h.elim
   ·exact h.elim
  ·exact h.elim
def jqL {k:St->Prop->Prop}:∀(L:List qu) (st:St) (ps:Prop),jyp P sp N L st ps k->ps->∃X ps,k X ps∧ps
 |[],st,ps,h,hp=>⟨st,ps,h,hp⟩
 |o::L,st,ps,h,hp=>by
  unfold jyp at h;split at h
  ·split at h
   ·exact jqL L _ _ h hp
   ·exact jqL L _ _ h.2 ⟨h.1.h,hp⟩
  ·exact h.elim
def RelD.drewA {st:St} (h:RelD ds I B N n0 st a w):RelD ds I B N n0 st a (drew w) :=
 let ⟨B1,g1,hh⟩:=h.heap
 ⟨h.tm,h.size,h.defers,⟨B1,g1.later (zq _),hh.below (jkw _ _) (g1.old h.le)⟩,h.le,h.n0⟩
def jnC {st:St} {t:Nat} {v:V}:∀{T:List Nat},jaS (jwO T st) t=some v->jaS st.tm t=some v
 |[],h=>by cases h
 |x::T,h=>by
  unfold jwO at h;rw[List.filterMap_cons]at h;cases hx:jaS st.tm x with
  |none=>rw[hx]at h;exact jnC h
  |some u =>
   rw[hx]at h;simp only[qr,jaS]at h;split at h
   ·rename_i e;subst e;rw[hx];exact h
   ·exact jnC h
def jlf {hp:Hp} {h:Nat} {o:O}:∀{H:List Nat},find (H.filterMap fun h=>(find hp h).map fun o=>(h,o)) h=some o->find hp h=some o
 |[],h=>by cases h
 |x::H,h=>by
  rw[List.filterMap_cons]at h;cases hx:find hp x with
  |none=>rw[hx]at h;exact jlf h
  |some u =>
   rw[hx]at h;simp only[qr,find]at h;split at h
   ·rename_i e;subst e;rw[hx];exact h
   ·exact jlf h
def RelD.pack {st:St} (T:List Nat) (h:RelD ds I B N n0 st a w):RelD ds I B N n0 (joz T st) a w :=
 let ⟨B1,g1,hh⟩:=h.heap
 ⟨fun t v hv=>h.tm t v (jnC hv),h.size,h.defers,⟨B1,g1,hh.sub fun _ _ hf=>jlf hf⟩,h.le,h.n0⟩
def jys {w0:zs} {I0:Env} (hG:∀(B:Bd) (w:zs),jbC B w) (hm:P.follows .mixedOrders=true) (hsp:jab P sp) (n:Nat) (T0 T F:List Nat):jd7 P B N n0 I0 w0 (jsy P sp N n0 n T0 T F):=by
 intro ds id ops st k I a w Q hd hr hag hbl hK;unfold jsy at hd;split at hd
 ·obtain⟨X,ps,⟨hX,hk⟩,hps⟩:=jqL _ _ _ hd trivial
  have h1:=wp_region_any (id:=id) hm (jvt (w:=drew w) (Q:=fun e a w=>match e with | .normal=>Q .normal a w|_=>False) hG hsp (fun _ _ _ h=>h) ⟨hbl.os,hbl.tape,hbl.output,hbl.size,hbl.block⟩
   (fun I' st' a' w' hr' hag' hbl' (hl:Le n0 st' (joz T X)) =>
    let ⟨I2,hr2,ha2⟩:=hl.rel hr'
    hK I2 _ a' w' hr2 (fun x hx=>(ha2 x hx).trans (hag' x hx)) hbl' hk) F ops.size _ _ I a (hX.h hps) (hr.pack T0).drewA hag)
  refine x6 h1 ?_;intro e a w h;cases e<;>first|exact h|exact h.elim
 ·exact jb0 hm hsp id ops st k I a w Q hd hr hag hbl hK
def jvu {f:Nat} {fn:Func} {body:Code} {shs:List SV} {g:List Lf->Option GT} {drawn:Nat->Array qu->St->(St->Prop)->Prop} (hdr:∀(B:Kd) (n0:Nat) (I:Env) (w:zs),jd7 P B fn.ntmps n0 I w (drawn n0)) (hsp:jab P sp) (hf:P.funcs[f]?=some fn) (hb:fn.body=some body) (hn:(fn.name == "runtime.NumGoroutine")=false)
  (h:∀ls t,g ls=some t->t.sel.1->∀b:Bv,jdL shs 0 ls=some b->b.vs.length<=fn.ntmps∧∃fuel loops,sx P sp fn.ntmps b.n fuel loops (drawn b.n) body 0 [] ⟨jbD 0 b.vs,b.hp,b.n⟩ (jbX P fn.results.toList fun v hp _=>jg8 b.n t.sel.2 v hp)) :
  jaf P f true (jah shs g) :=
 jie hf hb hn fun ls t hg ho b hbl I0 w hlt hh=>by
  obtain⟨hlen,fuel,loops,hx⟩:=h ls t hg ho b hbl;exact jkC (n0:=b.n) (B:=kd fun k=>k<w.heap.size) hsp (fun I w=>hdr _ _ I w) hf hb hlen hx hlt (zq _) I0 w hh (fun k hk=>jbM.1 hk)
end
end Go.Sx
end

section
open Go.RowKit
namespace Go.Sx
def rdO:O->O
 | .row ty c=>.row ty c
 | .ext c=>.ext c
 | .fext c=>.fext c
 | .box ty cs=>.box ty cs
 | .ebox cs=>.ebox cs
 | .xext x=>.xext x
 | .xrow ty x=>.xrow ty x
 | .nan k=>.nan k
 |_=>.dead
def rdM (ks:List Nat) (hp:Hp):Hp:=hp.map fun x=>(x.1,match ks.contains x.1 with|true=>.dead|false=>rdO x.2)
def jqM {ks:List Nat} {h:Nat}:∀{hp:Hp},find (rdM ks hp) h=(find hp h).map fun o=>match ks.contains h with|true=>.dead|false=>rdO o
 |[]=>rfl
 |(k,o)::r=>by
  have ih:=jqM (ks:=ks) (h:=h) (hp:=r);unfold rdM at ih ⊢;simp only[List.map_cons,find];split
  ·rename_i e;subst e;rfl
  ·exact ih
def movL (ty:Nat):O->Option Lf
 | .row ty' c=>match zC ty' ty with
  |true=>some (.r c)
  |false=>none
 | .xrow ty' X=>match zC ty' ty with
  |true=>some (.x X)
  |false=>none
 |_=>none
def jf2 (hp:Hp) (am:List C):List (Nat × Nat)->Option (List (Nat × O) × List Lf)
 |[]=>some ([],[])
 |(i,ty)::l=>match am[i]? with
  |some (.o h)=>match find hp h with
   |some o=>match movL ty o,jf2 hp am l with
    |some x,some (mo,ms)=>some ((h,o)::mo,x::ms)
    |_,_=>none
   |none=>none
  |_=>none
def rowM (ty:Nat):Lf->O
 | .r c=>.row ty c
 | .x X=>.xrow ty X
 |_=>.dead
def mkM:List (Nat × Nat)->List Lf->Hp
 |(i,ty)::l,x::ms=>(i,rowM ty x)::mkM l ms
 |_,_=>[]
def jeW:List (Nat × Nat)->List (Nat × O)->List Lf->Hp
 |(_,ty)::l,(h,_)::mo,x::ms=>(h,rowM ty x)::jeW l mo ms
 |_,_,_=>[]
def juf:List Nat->Bool
 |[]=>true
 |h::l=>!(l.contains h)&&juf l
inductive GM where
 |leaf (ob:Prop) (ms:List Lf) (rs:List RR)
 |br (b:Bool) (x y:GM)
def GM.sel:GM->Prop × List Lf × List RR
 | .leaf ob ms rs=>(ob,ms,rs)
 | .br b x y=>match b with
  |true=>x.sel
  |false=>y.sel
def GM.toRM (am:List C) (mv:List (Nat × Nat)) (mo:List (Nat × O)) (hp:Hp) (nx:Nat):GM->RT
 | .leaf ob ms rs=>let b:=jck am rs nx; .leaf ⟨ob,jb7 b.ws,b.hp++(jeW mv mo ms++jam hp),b.n⟩
 | .br b x y=>.br b (x.toRM am mv mo hp nx) (y.toRM am mv mo hp nx)
def jqN {am:List C} {mv:List (Nat × Nat)} {mo:List (Nat × O)} {hp:Hp} {nx:Nat}:∀t:GM,(t.toRM am mv mo hp nx).sel=⟨t.sel.1,jb7 (jck am t.sel.2.2 nx).ws,(jck am t.sel.2.2 nx).hp++(jeW mv mo t.sel.2.1++jam hp),(jck am t.sel.2.2 nx).n⟩
 | .leaf ob ms rs=>rfl
 | .br b x y=>by
  cases b
  ·exact jqN y
  ·exact jqN x
def jeq (shs:List SV) (mv:List (Nat × Nat)) (g:List Lf->List Lf->Option GM):Spec:=fun vs hp nx =>
 match jiR (rdM [] hp) shs vs with
 |some (_,am1)=>match jf2 hp am1 mv with
  |some (mo1,_)=>match jiR (rdM (mo1.map (·.1)) hp) shs vs with
   |some (ls,am)=>match jf2 hp am mv with
    |some (mo,ms)=>match juf (mo.map (·.1))&&decide (mo.map (·.1)=mo1.map (·.1)),g ls ms with
     |true,some t=>some (t.toRM am mv mo hp nx)
     |_,_=>none
    |none=>none
   |none=>none
  |none=>none
 |none=>none
def joA (hp:Hp):List (Nat × Nat)->List Lf->Prop->Prop
 |[],[],k=>k
 |(i,ty)::l,x::ms,k=>match find hp i,x with
  |some (.row ty' c'),.r c=>match zC ty' ty with
   |true=>jef c c'∧joA hp l ms k
   |false=>False
  |some (.xrow ty' X'),.x X=>match zC ty' ty with
   |true=>mX X X'∧joA hp l ms k
   |false=>False
  |_,_=>False
 |_,_,_=>False
def fitVu (n0:Nat) (us:List Nat) (rs:List RR) (v:V) (hp:Hp):Prop:=match v with
 | .w u=>jic n0 hp rs [u] us
 | .t [_]=>False
 | .t l=>jic n0 hp rs l us
def fitM (n0:Nat) (mv:List (Nat × Nat)) (ms:List Lf) (rs:List RR) (v:V) (hp:Hp):Prop:=joA hp mv ms (fitVu n0 (mv.map (·.1)) rs v hp)
section
variable [Globs] {P:zL} {sp:jaa} {I I':Env} {B:Kd} {nx:Nat} {hp hp':Hp} {w w':zs} {am:List C}
def jJf (ks:List Nat) (hh:HRel I B hp nx w):HRel I B (rdM ks hp) nx w:=by
 have key:∀h o,find (rdM ks hp) h=some o->∃o1,find hp h=some o1∧o.lt nx∧o.ok I B w h∧∀k,o.blk (I h)=some k->o1.blk (I h)=some k:=fun h o hf=>by
  rw[jqM]at hf;obtain⟨o1,h1,h2⟩:=zX.1 hf;obtain⟨_,a2,a3⟩:=hh.ok h o1 h1;refine⟨o1,h1,?_⟩;subst h2;split
  ·exact⟨trivial,trivial,fun _ h=>by cases h⟩
  ·cases o1<;>first|exact⟨a2,a3,fun _ h=>h⟩|exact⟨trivial,trivial,fun _ h=>by cases h⟩
 refine⟨fun h o hf=>?_,fun h o h' o' k hf hf' hne hb hb'=>?_,hh.glob⟩
 ·obtain⟨o1,h1,h2,h3,_⟩:=key h o hf;exact⟨(hh.ok h o1 h1).1,h2,h3⟩
 ·obtain⟨o1,h1,_,_,h4⟩:=key h o hf;obtain⟨o2,h5,_,_,h6⟩:=key h' o' hf';exact hh.apart h o1 h' o2 k h1 h5 hne (h4 k hb) (h6 k hb')
def jDY {h:Nat} {l:List Nat} (hn:juf (h::l)=true):h∉l∧juf l=true:=by
 simp only[juf,zm]at hn;exact⟨fun hm=>by simp[hm]at hn,hn.2⟩
def jji:O->Bool
 | .row _ _=>true
 | .xrow _ _=>true
 |_=>false
def jeX {o:O} {v:Value} (h:jji o=true):o.blk v=v.ownBlock:=by cases o<;>first|rfl|cases h
def jyt {ty:Nat} {o:O} {x:Lf} (h:movL ty o=some x):o=rowM ty x∧jji o=true:=by
 unfold movL at h;split at h
 ·split at h
  ·rename_i e;have e:=zj e;subst e;cases h;exact⟨rfl,rfl⟩
  ·cases h
 ·split at h
  ·rename_i e;have e:=zj e;subst e;cases h;exact⟨rfl,rfl⟩
  ·cases h
 ·cases h
def jir:∀{mv:List (Nat × Nat)} {mo:List (Nat × O)} {ms:List Lf},jf2 hp am mv=some (mo,ms) ->
  (∀p∈mo,find hp p.1=some p.2∧jji p.2=true) ∧
  (∀x o,find (mkM mv ms) x=some o->∃h,am[x]?=some (.o h)∧find hp h=some o∧jji o=true∧h∈mo.map (·.1))
 |[],mo,ms,h=>by
  simp only[jf2,zk,qo]at h;obtain⟨rfl,rfl⟩:=h;exact⟨(fun _ h=>by cases h),fun _ _ h=>by cases h⟩
 |(i,ty)::l,mo,ms,h=>by
  unfold jf2 at h;split at h
  ·rename_i h0 ha;split at h
   ·rename_i o0 hf;split at h
    ·rename_i x0 mo' ms' hx hm;cases h;obtain⟨e1,e2⟩:=jyt hx;obtain⟨r1,r2⟩:=jir hm;refine⟨fun p hp'=>?_,fun x o hfx=>?_⟩
     ·rcases qp.1 hp' with rfl|hp'
      ·exact⟨hf,e2⟩
      ·exact r1 p hp'
     ·simp only[mkM,find]at hfx;split at hfx
      ·rename_i e;subst e;cases hfx;rw[<-e1];exact⟨h0,ha,hf,e2,zw⟩
      ·obtain⟨h,q1,q2,q3,q4⟩:=r2 x o hfx;exact⟨h,q1,q2,q3,zu _ q4⟩
    ·cases h
   ·cases h
  ·cases h
def jyu:∀{mv:List (Nat × Nat)} {mo:List (Nat × O)} {ms:List Lf},jf2 hp am mv=some (mo,ms)->juf (mo.map (·.1))=true ->
  ∀x x' o o' h,find (mkM mv ms) x=some o->find (mkM mv ms) x'=some o'->am[x]?=some (.o h)->am[x']?=some (.o h)->x=x'
 |[],mo,ms,h,_,x,x',o,o',g,hx,_,_,_=>by
  simp only[jf2,zk,qo]at h;obtain⟨rfl,rfl⟩:=h;cases hx
 |(i,ty)::l,mo,ms,h,hn,x,x',o,o',g,hx,hx',hg,hg'=>by
  unfold jf2 at h;split at h
  ·rename_i h0 ha;split at h
   ·rename_i o0 hf;split at h
    ·rename_i x0 mo' ms' hx0 hm;cases h;obtain⟨n1,n2⟩:=jDY hn;simp only[mkM,find]at hx hx';split at hx
     ·rename_i e;subst e;rw[ha]at hg;cases hg;split at hx'
      ·rename_i e;exact e
      ·obtain⟨h2,q1,_,_,q4⟩:=(jir hm).2 x' o' hx';rw[q1]at hg';cases hg';exact absurd q4 n1
     ·split at hx'
      ·rename_i e;subst e;rw[ha]at hg';cases hg';obtain⟨h2,q1,_,_,q4⟩:=(jir hm).2 x o hx;rw[q1]at hg;cases hg;exact absurd q4 n1
      ·exact jyu hm n2 x x' o o' g hx hx' hg hg'
    ·cases h
   ·cases h
  ·cases h
def jvv {k:Prop}:∀{mv:List (Nat × Nat)} {mo:List (Nat × O)} {ms ms':List Lf},jf2 hp am mv=some (mo,ms)->joA hp' mv ms' k ->
  k∧(∀h o,find (jeW mv mo ms') h=some o->∃x,x∈mv.map (·.1)∧am[x]?=some (.o h)∧find hp' x=some o∧jji o=true∧∃o0,find hp h=some o0∧jji o0=true) ∧
  (∀h,find (jeW mv mo ms') h=none->h∉mo.map (·.1))∧(∀x∈mv.map (·.1),∃o h,find hp' x=some o∧jji o=true∧am[x]?=some (.o h)∧h∈mo.map (·.1)) ∧
  ∀h∈mo.map (·.1),∃x∈mv.map (·.1),am[x]?=some (.o h)
 |[],mo,ms,[],h,hk=>by
  simp only[jf2,zk,qo]at h;obtain⟨rfl,rfl⟩:=h;exact⟨hk,(fun _ _ h=>by cases h),(fun _ _ h=>by cases h),(fun _ h=>by cases h),fun _ h=>by cases h⟩
 |[],mo,ms,_::_,h,hk=>hk.elim
 |(i,ty)::l,mo,ms,[],h,hk=>hk.elim
 |(i,ty)::l,mo,ms,y::ms',h,hk=>by
  unfold jf2 at h;split at h
  ·rename_i h0 ha;split at h
   ·rename_i o0 hf;split at h
    ·rename_i x0 mo' ms0 hx0 hm;cases h;obtain⟨_,e2⟩:=jyt hx0
     have hy:∃o1,find hp' i=some o1∧o1=rowM ty y∧jji o1=true∧joA hp' l ms' k:=by
      unfold joA at hk;split at hk
      ·rename_i ty' c' c hfi;split at hk
       ·rename_i e;have e:=zj e;subst e;have:=jb6 hk.1;subst this;exact⟨_,hfi,rfl,rfl,hk.2⟩
       ·exact hk.elim
      ·rename_i ty' X' X hfi;split at hk
       ·rename_i e;have e:=zj e;subst e;have:=jd6 hk.1;subst this;exact⟨_,hfi,rfl,rfl,hk.2⟩
       ·exact hk.elim
      ·exact hk.elim
     obtain⟨o1,g1,g2,g3,g4⟩:=hy;obtain⟨r0,r1,r2,r3,r4⟩:=jvv hm g4;refine⟨r0,fun g o hg=>?_,fun g hg=>?_,fun x hx=>?_,fun g hg=>?_⟩
     ·simp only[jeW,find]at hg;split at hg
      ·rename_i e;subst e;cases hg;rw[<-g2];exact⟨i,zw,ha,g1,g3,o0,hf,e2⟩
      ·obtain⟨x,q1,q2⟩:=r1 g o hg;exact⟨x,zu _ q1,q2⟩
     ·simp only[jeW,find]at hg;split at hg
      ·cases hg
      ·rename_i hne;intro hm2;rcases qp.1 hm2 with e|hm2
       ·exact hne e.symm
       ·exact r2 g hg hm2
     ·rcases qp.1 hx with rfl|hx
      ·exact⟨o1,h0,g1,g3,ha,zw⟩
      ·obtain⟨o,h,q1,q2,q3,q4⟩:=r3 x hx;exact⟨o,h,q1,q2,q3,zu _ q4⟩
     ·rcases qp.1 hg with rfl|hg
      ·exact⟨i,zw,ha⟩
      ·obtain⟨x,q1,q2⟩:=r4 g hg;exact⟨x,zu _ q1,q2⟩
    ·cases h
   ·cases h
  ·cases h
def jA0 {B':Kd} {h h':Nat} {o:O} (hr:jji o=true) (he:I' h'=I h) (hok:o.ok I B w h) (hF:∀k,B.fr k->B'.fr k) (hb:∀k,(I h).ownBlock=some k->¬B'.all k):o.ok I' B' w h':=by
 cases o with
 |row ty c=>exact⟨by rw[he];exact hok.1,fun k hk=>hb k (by rw[<-he];exact hk)⟩
 |xrow ty X =>
  obtain⟨us,q1,q2,q3⟩:=hok;exact⟨us,by rw[he];exact q1,fun i j hi hj=>let ⟨u,hu,hux⟩:=q2 i j hi hj; ⟨u,hu,NC.at_mono hF hux⟩,fun k hk=>hb k (by rw[<-he];exact hk)⟩
 |_=>cases hr
def jA1 {o:O} {n:Nat} (hr:jji o=true):o.lt n:=by cases o<;>first|trivial|cases hr
def jsz {ks:List Nat} {h:Nat} {o:O} (hf:find (rdM ks hp) h=some o) (hd:o≠.dead):find hp h=some o∧h∉ks∧rdO o=o:=by
 rw[jqM]at hf;obtain⟨o1,h1,h2⟩:=zX.1 hf;split at h2
 ·exact absurd h2.symm hd
 ·rename_i hc;have hr:rdO o1=o1∨rdO o1=.dead:=by cases o1<;>first|exact .inl rfl|exact .inr rfl
  rcases hr with e|e
  ·rw[e]at h2;subst h2;exact⟨h1,fun hm=>(by rw[show ks.contains h=true by simpa using hm]at hc;cases hc),e⟩
  ·exact absurd (h2.symm.trans e) hd
def jDZ {f:Nat} {fn:Func} {body:Code} {shs:List SV} {mv:List (Nat × Nat)} {g:List Lf->List Lf->Option GM} {drawn:Nat->Array qu->St->(St->Prop)->Prop} (hdr:∀(B:Kd) (n0:Nat) (I:Env) (w:zs),jd7 P B fn.ntmps n0 I w (drawn n0)) (hsp:jab P sp) (hf:P.funcs[f]?=some fn) (hb:fn.body=some body) (hn:(fn.name == "runtime.NumGoroutine")=false)
  (h:∀ls ms t,g ls ms=some t->t.sel.1->∀b:Bv,jdL shs 0 ls=some b->b.vs.length<=fn.ntmps∧∃fuel loops,sx P sp fn.ntmps b.n fuel loops (drawn b.n) body 0 [] ⟨jbD 0 b.vs,mkM mv ms++b.hp,b.n⟩ (jbX P fn.results.toList fun v hp _=>fitM b.n mv t.sel.2.1 t.sel.2.2 v hp)) :
  jaf P f false (jeq shs mv g):=by
 refine .inl ⟨jdn hf hb hn,fun I B w args hp nx t hS hob hlt hh hB=>?_⟩;unfold jeq at hS;split at hS
 ·rename_i am1 _;split at hS
  ·rename_i mo1 _ _;split at hS
   ·rename_i ls am hto;split at hS
    ·rename_i mo ms hmv;split at hS
     ·rename_i t' hnd hg;cases hS;rw[jqN]at hob ⊢;have hob:t'.sel.1:=hob;rw[zm]at hnd;obtain⟨hnd,hks⟩:=hnd;have hks:=of_decide_eq_true hks;rw[<-hks]at hto;obtain⟨mf1,mf2⟩:=jir hmv;have hhR:=jJf (mo.map (·.1)) hh
      let Q:Nat->Prop:=fun k=>k<w.heap.size∧∀p∈mo,p.2.blk (I p.1)≠some k
      have hAQ:∀k,B.all k->Q k:=fun k hk=>⟨hB k hk,fun p hp e=>(O.blk_lt (hh.ok p.1 p.2 (mf1 p hp).1).2.2 e).2 hk⟩
      have hBQ:∀k,B.kp k->Q k:=fun k hk=>hAQ k (.inl hk)
      have hOQ:∀h o k,find hp h=some o->h∉mo.map (·.1)->o.blk (I h)=some k->Q k:=fun h o k hf hnm hk =>
       ⟨(O.blk_lt (hh.ok h o hf).2.2 hk).1,fun p hp e=>hh.apart h o p.1 p.2 k hf (mf1 p hp).1 (fun e2=>hnm (e2 ▸ jt hp)) hk e⟩
      have hQ:RdQ Q I (rdM (mo.map (·.1)) hp) w:=by
       refine⟨fun h cs hc=>?_,fun h o x hf hx _=>?_,fun h o X hf hx he=>?_⟩
       ·unfold jdS at hc;split at hc
        ·rename_i ty cs' hf;obtain⟨h1,h2,_⟩:=jsz hf (fun e=>by cases e);exact hOQ h _ _ h1 h2 rfl
        ·rename_i cs' hf;obtain⟨h1,_,_⟩:=jsz hf (fun e=>by cases e);obtain⟨k,o,h3,h4,_⟩:=(hh.ok h _ h1).2.2;rw[h3];exact hBQ k h4
        ·cases hc
       ·obtain⟨h1,h2,h3⟩:=jsz hf (fun e=>by subst e;cases hx);have hok:=(hh.ok h o h1).2.2;cases o with
        |row ty c=>exact fun a n cap hv _=>hOQ h _ a.block h1 h2 (by simp[O.blk,hv,z4])
        |ext c=>exact jaZ hBQ hok.2
        |fext c=>exact jaZ (fun k hk=>hBQ k (B.sub k hk)) hok.2
        |_=>first|(cases h3;done)|(cases hx;done)
       ·obtain⟨h1,h2,h3⟩:=jsz hf (fun e=>by subst e;cases hx);have hok:=(hh.ok h o h1).2.2;cases o with
        |xext Y=>cases hx;exact jET hBQ hok
        |xrow ty Y =>
         obtain⟨a1,cap,hv1,hc1,hx1⟩:=jd2 hok hx;refine⟨a1,cap,hv1,hc1,fun hn=>?_⟩;obtain⟨b,off,rfl,hcell⟩:=hx1 hn;exact⟨b,off,rfl,hOQ h _ b h1 h2 (by simp[O.blk,hv1,z4]),fun i j hi hj=>let ⟨u,hu,hux⟩:=hcell i j hi hj; ⟨u,hu,NC.at_mono hAQ hux⟩⟩
        |_=>first|(cases h3;done)|(cases hx;done)
      obtain⟨b,I0,hbl,q⟩:=jid hQ hhR hB shs args ls am hto hlt 0 (fun _=>z3) [];rw[yr]at hbl;have hbn:b.n=am.length:=by have:=q.nn;omega
      let B0:Kd:=⟨Q,B.fr,fun _=>none,fun k hk=>hBQ k (B.sub k hk),fun _ _=>rfl⟩
      have hall0:∀k,B0.all k->Q k:=fun k hk=>hk.elim id fun h=>absurd rfl h
      have ham:∀x h,am[x]?=some (.o h)->x<b.n∧I0 x=I h:=fun x h hx=>by
       have hlt:=(List.getElem?_eq_some_iff.1 hx).1;refine⟨by rw[hbn];exact hlt,?_⟩;have h1:=q.own x hlt;rw[z6]at h1;rw[h1];simp[za,hx,C.val]
      have hkQ:∀h o k,find hp h=some o->h∈mo.map (·.1)->o.blk (I h)=some k->¬Q k:=fun h o k hf hm hk hq=>by
       obtain⟨p,hp1,rfl⟩:=qa.1 hm;have:=(mf1 p hp1).1;rw[hf]at this;cases this;exact hq.2 p hp1 hk
      have hh0:HRel I0 B0 (mkM mv ms++b.hp) b.n w:=by
       have key:∀x o,find (mkM mv ms++b.hp) x=some o->find (mkM mv ms) x=some o∨find b.hp x=some o:=fun x o hf=>by
        rw[jat]at hf;cases hg2:find (mkM mv ms) x with
        |some o2=>rw[hg2]at hf;exact .inl hf
        |none=>rw[hg2]at hf;exact .inr hf
       refine⟨fun x o hf=>?_,fun x o x' o' k hf hf' hne hk hk'=>?_,hh.glob.sub hBQ⟩
       ·rcases key x o hf with hf|hf
        ·obtain⟨h,a1,a2,a3,a4⟩:=mf2 x o hf;exact⟨(ham x h a1).1,jA1 a3,jA0 (I:=I) (I':=I0) (B:=B) (B':=B0) a3 (ham x h a1).2 (hh.ok h o a2).2.2 (fun _ h=>h) fun k hk hq=>hkQ h o k a2 a4 (by rw[jeX a3];exact hk) (hall0 k hq)⟩
        ·obtain⟨_,a2,a3,a4,a5⟩:=q.heap x o hf;exact⟨a2,a3,O.ok_moreB (B:=kd Q) (B2:=B0) ⟨fun _ h=>h,fun _ h=>h.elim⟩ (fun _ _ h=>by cases h) a4 fun k hk=>by rw[a5]at hk;cases hk⟩
       ·rcases key x o hf with hf|hf
        ·rcases key x' o' hf' with hf' | hf'
         ·obtain⟨h,a1,a2,a3,a4⟩:=mf2 x o hf;obtain⟨h',c1,c2,c3,c4⟩:=mf2 x' o' hf';rw[(ham x h a1).2]at hk;rw[(ham x' h' c1).2]at hk'
          by_cases e:h=h'
          ·subst e;exact hne (jyu hmv hnd x x' o o' h hf hf' a1 c1)
          ·exact hh.apart h o h' o' k a2 c2 e hk hk'
         ·obtain⟨_,_,_,_,a5⟩:=q.heap x' o' hf';rw[a5]at hk';cases hk'
        ·obtain⟨_,_,_,_,a5⟩:=q.heap x o hf;rw[a5]at hk;cases hk
      obtain⟨hlen,fuel,loops,hx⟩:=h ls ms t' hg hob b hbl;have hcalls:=jkC (n0:=b.n) (B:=B0) hsp (fun I w=>hdr _ _ I w) hf hb hlen hx q.lt (zq _) I0 w hh0 (fun k hk=>(hall0 k hk).1);rw[q.val]at hcalls;refine hcalls.mono ?_;rintro e w' ⟨I',v,hp',nx',rfl,hvlt,hag,⟨Bc,gB,hh'⟩,hbel,hold,hfit⟩;obtain⟨hfv,n1,n2,n3,n4⟩:=jvv hmv hfit;have hBc:Old Bc w':=gB.old hold
      have hM:∀k,k<w.heap.size->¬Q k->∃p∈mo,p.2.blk (I p.1)=some k:=fun k hk hq=>by
       apply jo;intro hc;exact hq ⟨hk,fun p hp e=>hc ⟨p,hp,e⟩⟩
      have hat:∀p∈mo,∀k,p.2.blk (I p.1)=some k->∃x∈mv.map (·.1),∃o,find hp' x=some o∧o.blk (I' x)=some k:=fun p hp k hk=>by
       obtain⟨x,hx1,hx2⟩:=n4 p.1 (jt hp);obtain⟨o,h,hx3,hx4,hx5,_⟩:=n3 x hx1;refine⟨x,hx1,o,hx3,?_⟩;rw[jeX hx4,hag x (ham x p.1 hx2).1,(ham x p.1 hx2).2,<-jeX (mf1 p hp).2];exact hk
      have hmB:∀p∈mo,∀k,p.2.blk (I p.1)=some k->¬Bc.all k:=fun p hp k hk=>by
       obtain⟨x,_,o,h1,h2⟩:=hat p hp k hk;exact(O.blk_lt (hh'.ok x o h1).2.2 h2).2
      have hfr:∀k,Bc.fr k->B.fr k∨w.heap.size<=k:=fun k hk=>by
       rcases gB.out k hk with h1|h1
       ·exact .inl h1
       ·refine .inr (x5 fun hlt=>?_);obtain⟨p,hp,e⟩:=hM k hlt h1;exact hmB p hp k e (.inl (Bc.sub k hk))
      have hmu:∀k,Bc.mu k≠none->w.heap.size<=k:=fun k hk=>x5 fun hlt=>by
       by_cases hq:Q k
       ·exact hk (Bc.dis k (gB.le.kp k hq))
       ·obtain⟨p,hp,e⟩:=hM k hlt hq;exact hmB p hp k e (.inr hk)
      let Bn:Kd:=⟨fun k=>B.kp k∨Bc.fr k,fun k=>B.fr k∨Bc.fr k,fun k=>match B.mu k with|some g=>some g|none=>Bc.mu k,fun k hk=>hk.imp (B.sub k) id,fun k hk=>by
       have h1:B.mu k=none:=by
        rcases hk with hk|hk
        ·exact B.dis k hk
        ·rcases hfr k hk with h2|h2
         ·exact B.dis k (B.sub k h2)
         ·cases hm2:B.mu k with
          |none=>rfl
          |some g=>exact absurd (hB k (.inr (by rw[hm2];simp))) (yj h2)
       have h2:Bc.mu k=none:=by
        rcases hk with hk|hk
        ·exact Bc.dis k (gB.le.kp k (hBQ k hk))
        ·exact Bc.dis k (Bc.sub k hk)
       show(match B.mu k with|some g=>some g|none=>Bc.mu k)=none
       rw[h1,h2]⟩
      have hmn:∀k,Bn.mu k=match B.mu k with|some g=>some g|none=>Bc.mu k:=fun _=>rfl
      have hBn:B.Le Bn:=⟨fun k hk=>.inl hk,fun k hk=>.inl hk⟩
      have hBm:B.LeM Bn:=fun k g hk=>by rw[hmn,hk]
      have hna:∀k,Bn.all k->B.all k∨(w.heap.size<=k∧Bc.all k):=fun k hk=>by
       rcases hk with (hk|hk)|hk
       ·exact .inl (.inl hk)
       ·rcases hfr k hk with h2|h2
        ·exact .inl (.inl (B.sub k h2))
        ·exact .inr ⟨h2,.inl (Bc.sub k hk)⟩
       ·rw[hmn]at hk;cases hm2:B.mu k with
        |none=>rw[hm2]at hk;exact .inr ⟨hmu k hk,.inr hk⟩
        |some g=>exact .inl (.inr (by rw[hm2];simp))
      have gn:Grow B Bn false w w':=⟨hBn,fun k hk=>(hna k hk).imp id fun h=>hBc k h.2,fun k hk=>by
       rcases hk with hk|hk
       ·exact .inl hk
       ·exact(hfr k hk).imp id fun h hb=>absurd (hB k (.inl hb)) (yj h),fun h=>by cases h⟩
      have hsame:∀k,k<w.heap.size->¬(∃p∈mo,p.2.blk (I p.1)=some k)->w'.heap[k]?=w.heap[k]?:=fun k hk hnm=>hbel.block k ⟨hk,fun p hp e=>hnm ⟨p,hp,e⟩⟩;have hGB:∀k,(∃p∈mo,p.2.blk (I p.1)=some k)->¬B.all k:=fun k ⟨p,hp,e⟩=>(O.blk_lt (hh.ok p.1 p.2 (mf1 p hp).1).2.2 e).2
      have old:∀h o,find (jeW mv mo t'.sel.2.1++jam hp) h=some o->(find (jeW mv mo t'.sel.2.1) h=some o)∨(h∉mo.map (·.1)∧find (jam hp) h=some o):=fun h o hf=>by
       rw[jat]at hf;cases hg2:find (jeW mv mo t'.sel.2.1) h with
       |some o2=>rw[hg2]at hf;exact .inl hf
       |none=>rw[hg2]at hf;exact .inr ⟨n2 h hg2,hf⟩
      have own0:∀h o k,find (jeW mv mo t'.sel.2.1++jam hp) h=some o->o.blk (I h)=some k->∃o0,find hp h=some o0∧o0.blk (I h)=some k:=fun h o k hf hk=>by
       rcases old h o hf with hf|⟨_,hf⟩
       ·obtain⟨x,_,_,_,q4,o0,q5,q6⟩:=n1 h o hf;exact⟨o0,q5,by rw[jeX q6,<-jeX q4];exact hk⟩
       ·obtain⟨o1,h2,_,_,_,_,h7⟩:=jaP hh hf;exact⟨o1,h2,h7 k hk⟩
      have hh1:HRel I Bn (jeW mv mo t'.sel.2.1++jam hp) nx w':=by
       refine⟨fun h o hf=>?_,fun h o h' o' k hf hf' hne hk hk'=>?_,(jjD hsame (fun k hk=>nkp (hGB k hk)) hh.glob).sub hBn.kp⟩
       ·have hnB:∀k,o.blk (I h)=some k->¬Bn.all k:=fun k hk hb=>by
         obtain⟨o0,h1,h2⟩:=own0 h o k hf hk;have h3:=O.blk_lt (hh.ok h o0 h1).2.2 h2;rcases hna k hb with hb|hb
         ·exact h3.2 hb
         ·exact absurd h3.1 (yj hb.1)
        rcases old h o hf with hf|⟨hnm,hf⟩
        ·obtain⟨x,q1,q2,q3,q4,o0,q5,_⟩:=n1 h o hf;have he:I h=I' x:=by rw[hag x (ham x h q2).1,(ham x h q2).2]
         exact⟨(hh.ok h o0 q5).1,jA1 q4,jA0 (I:=I') (I':=I) (B:=Bc) (B':=Bn) q4 he (hh'.ok x o q3).2.2 (fun k hk=>.inr hk) fun k hk=>hnB k (by rw[jeX q4,he];exact hk)⟩
        ·obtain⟨o1,h2,h3,h4,h5,h6,h7⟩:=jaP hh hf
         exact⟨h3,h4,O.ok_moreB hBn hBm (O.ok_exceptS hsame hGB h5 (fun k hk hm=>by
          obtain⟨p,hp,e⟩:=hm;exact hh.apart h o1 p.1 p.2 k h2 (mf1 p hp).1 (fun e2=>hnm (e2 ▸ jt hp)) (h7 k hk) e) h6) hnB⟩
       ·obtain⟨o0,a1,a2⟩:=own0 h o k hf hk;obtain⟨o0',c1,c2⟩:=own0 h' o' k hf' hk';exact hh.apart h o0 h' o0' k a1 c1 hne a2 c2
      obtain⟨ws,hws,hfw⟩:∃ws,(jb7 ws).val I'=v.val I'∧jic b.n hp' t'.sel.2.2 ws (mv.map (·.1)):=by
       match v,hfv with
       | .w u,hfit=>exact⟨[u],rfl,hfit⟩
       | .t [],hfit=>exact⟨[],rfl,hfit⟩
       | .t (x::y::l),hfit=>exact⟨x::y::l,rfl,hfit⟩
      have hin:CIn I I' Bn (jeW mv mo t'.sel.2.1++jam hp) hp' nx w.heap.size b.n am w' (mv.map (·.1)) (mv.map (·.1)):=by
       refine⟨(fun _ h=>h),hh1,fun k o b hk hbk=>?_,fun i hi=>?_⟩
       ·obtain⟨o0,a1,a2⟩:=own0 k o b hk hbk;exact .inl (O.blk_lt (hh.ok k o0 a1).2.2 a2).1
       ·have hi2:i<am.length:=by omega
        have h1:=q.own i hi2;rw[z6]at h1;refine⟨?_,by rw[hag i hi];exact h1.symm⟩;have:am.getD i (.d (.v z3))=am[i]:=by simp[za,hi2]
        rw[this];exact q.xlt _ (zZ hi2)
      obtain⟨us2,I2,k⟩:=jkR (B:=Bn) (m:=w.heap.size) (us0:=mv.map (·.1)) (fun q' oq k hq hus hk=>x5 fun hlt=>by
       by_cases hq2:Q k
       ·exact(O.blk_lt (hh'.ok q' oq hq).2.2 hk).2 (.inl (gB.le.kp k hq2))
       ·obtain⟨p,hp,e⟩:=hM k hlt hq2;obtain⟨x,hx1,o,hx2,hx3⟩:=hat p hp k e;exact hh'.apart q' oq x o k hq hx2 (fun e2=>by subst e2;rw[show(mv.map (·.1)).contains q'=true by simpa using hx1]at hus;cases hus) hk hx3) (fun k hk=>(hna k hk).elim (fun h=>.inl (gB.le.kp k (hAQ k h))) (fun h=>h.2)) (fun k hk=>.inr hk) (fun k g hk=>by
       rw[hmn];cases hm2:B.mu k with
       |none=>exact hk
       |some g'=>exact absurd (hB k (.inr (by rw[hm2];simp))) (yj (hmu k (by rw[hk];simp)))) hh' t'.sel.2.2 ws (mv.map (·.1)) hfw nx _ I hin
      refine⟨I2,?_,k.agree,jgN k.lt,k.le,⟨Bn,gn,k.heap⟩,⟨hbel.os,hbel.tape,hbel.output,hbel.size,fun k hk=>hbel.block k (hBQ k hk)⟩,(fun h=>by cases h),fun h=>by cases h⟩
      show xX _=xX ((jb7 (jck am t'.sel.2.2 nx).ws).val I2)
      rw[<-hws,jdk,jdk];simp only[k.val]
     ·cases hS
    ·cases hS
   ·cases hS
  ·cases hS
 ·cases hS
def jlg {f:Nat} {fn:Func} {body:Code} {shs:List SV} {mv:List (Nat × Nat)} {g:List Lf->List Lf->Option GM} (hm:P.follows .mixedOrders=true) (hsp:jab P sp) (hf:P.funcs[f]?=some fn) (hb:fn.body=some body) (hn:(fn.name == "runtime.NumGoroutine")=false)
  (h:∀ls ms t,g ls ms=some t->t.sel.1->∀b:Bv,jdL shs 0 ls=some b->b.vs.length<=fn.ntmps∧∃fuel loops,sx P sp fn.ntmps b.n fuel loops (jcA P sp fn.ntmps) body 0 [] ⟨jbD 0 b.vs,mkM mv ms++b.hp,b.n⟩ (jbX P fn.results.toList fun v hp _=>fitM b.n mv t.sel.2.1 t.sel.2.2 v hp)) :
  jaf P f false (jeq shs mv g) :=
 jDZ (drawn:=fun _=>jcA P sp fn.ntmps) (fun _ _ _ _=>jb0 hm hsp) hsp hf hb hn h
end
end Go.Sx
end

section
open Go.RowKit
namespace Go.Sh
open Go Go.Proofs Go.RowKit Go.Sx
abbrev runA (n:Nat) (T0 T F:List Nat) (fn:Func) (sp:jaa) (loops:jfo) (b:Bv) (rs:List RR):Prop :=
 sx Tryz.prog sp fn.ntmps b.n 40 loops (jsy Tryz.prog sp fn.ntmps b.n n T0 T F) (bodyOf fn) 0 [] ⟨jbD 0 b.vs,b.hp,b.n⟩ (jbX Tryz.prog fn.results.toList fun v hp _=>jg8 b.n rs v hp)
def jeY:Code->Option (Array qu)
 | .region _ ops true=>some ops
 | .seq a b=>match jeY a with
  |some x=>some x
  |none=>jeY b
 | .cond _ a b=>match jeY a with
  |some x=>some x
  |none=>jeY b
 | .block _ b=>jeY b
 | .loop b=>jeY b
 |_=>none
def jeZ:Code->List (Array qu)
 | .region _ ops true=>[ops]
 | .seq a b=>jeZ a++jeZ b
 | .cond _ a b=>jeZ a++jeZ b
 | .block _ b=>jeZ b
 | .loop b=>jeZ b
 |_=>[]
def jHL (B:Bd) (w:zs):jbC B w:=⟨fun _ _ h=>(by cases h),jmf (fun _=>rfl) B w⟩
abbrev runM (mv:List (Nat × Nat)) (fn:Func) (sp:jaa) (loops:jfo) (b:Bv) (ms0 ms1:List Lf) (rs:List RR):Prop :=
 sx Tryz.prog sp fn.ntmps b.n 40 loops (jcA Tryz.prog sp fn.ntmps) (bodyOf fn) 0 [] ⟨jbD 0 b.vs,mkM mv ms0++b.hp,b.n⟩ (jbX Tryz.prog fn.results.toList fun v hp _=>fitM b.n mv ms1 rs v hp)
end Go.Sh
end

section
namespace Go.Sh
open Go Go.Proofs Go.RowKit Go.Sx
open Go.IntKind (wrap)
def jht:List SV:=[.c (.mp 10),.c (.d)]
abbrev pu1 (iu x_:Int) (us:List (List Int)):Int:=(wrap .i64 (wrap .i64 (wrap .i64 (wrap .i64 (wrap .i64 (za (za us iu.toNat []) 0 0*x_)+wrap .i64 (za (za us iu.toNat []) 1 0*za (za us iu.toNat []) 5 (0:Int)))+wrap .i64 (za (za us iu.toNat []) 2 0*za (za us iu.toNat []) 6 (0:Int)))-wrap .i64 (za (za us iu.toNat []) 3 0*za (za us iu.toNat []) 7 (0:Int)))-wrap .i64 (za (za us iu.toNat []) 4 0*za (za us iu.toNat []) 8 (0:Int))))
abbrev pu9 (iu:Int) (us:List (List Int)):List (List Int):=qw us iu.toNat (wr (10:Nat) (za us iu.toNat []) (9:Nat) [wrap .i64 (za (za us iu.toNat []) 9 (0:Int)+1)])
abbrev pu5 (iu x_:Int) (us:List (List Int)):List (List Int):=qw us iu.toNat (wr (10:Nat) (za us iu.toNat []) (5:Nat) [x_,za (za us iu.toNat []) 5 (0:Int)])
abbrev puc (r:Int):Int:=if(if r<32767 then r else(32767:Int))>(-32767:Int)then if r<32767 then r else(32767:Int)else(-32767:Int)
def jlh (iu x_:Int) (us:List (List Int)):Option (Int × List (List Int)) :=
 if zg iu<ze us then
  if zg iu<ze us then
  if zg iu<ze us then
   if zg iu<ze us then
   if zg iu<ze us then
    if zg iu<ze us then
    if zg iu<ze us then
     if zg iu<ze us then
     if zg iu<ze us then
      zb (y94 (pu1 iu x_ us) (16384:Int)) fun r0 =>
      if((puc r0)!=r0)=true then
      if zg iu<ze us then
       if zg iu<ze us then
       if zg iu<ze (pu9 iu us)then
        if zg iu<ze (pu9 iu us)then
        if zg iu<ze (pu9 iu us)then
         if zg iu<ze (pu5 iu x_ (pu9 iu us))then
         some ((puc r0,qw (pu5 iu x_ (pu9 iu us)) iu.toNat (wr (10:Nat) (za (pu5 iu x_ (pu9 iu us)) iu.toNat []) (7:Nat) [puc r0,za (za (pu9 iu us) iu.toNat []) 7 (0:Int)])))
         else none
        else none
        else none
       else none
       else none
      else none
      else
      if zg iu<ze us then
       if zg iu<ze us then
       if zg iu<ze us then
        if zg iu<ze (pu5 iu x_ us)then
        some ((puc r0,qw (pu5 iu x_ us) iu.toNat (wr (10:Nat) (za (pu5 iu x_ us) iu.toNat []) (7:Nat) [puc r0,za (za us iu.toNat []) 7 (0:Int)])))
        else none
       else none
       else none
      else none
     else none
     else none
    else none
    else none
   else none
   else none
  else none
  else none
 else none
def jhu:List Lf->List Lf->Option GM
 |[.d (.i .i64 iu),.d (.i .i64 x_)],[.r (.recs 10 us)]=>some (.leaf (ok (jlh iu x_ us)) [.r (.recs 10 ((val (jlh iu x_ us)).2))] [.c (.d (.i .i64 ((val (jlh iu x_ us)).1)))])
 |_,_=>none
abbrev sp_178:jaa->jaa:=jan 178 false (jeq jht [(0,236)] jhu)
def jyv (iu x_:Int) (us:List (List Int)) (r:Int × List (List Int)):Sk (top r) (jlh iu x_ us) :=
 .obC ((0:Int)<=0∧(0:Int)<3) (by decide) (.ob (.obC ((0:Int)<=1∧(1:Int)<3) (by decide) (.ob (.obC ((0:Int)<=0∧(0:Int)<2) (by decide) (.ob (.obC ((0:Int)<=2∧(2:Int)<3) (by decide) (.ob (.obC ((0:Int)<=1∧(1:Int)<2) (by decide) (.ob (.obC ((0:Int)<=0∧(0:Int)<2) (by decide) (.ob (.obC ((0:Int)<=0∧(0:Int)<2) (by decide) (.ob (.obC ((0:Int)<=1∧(1:Int)<2) (by decide) (.ob (.obC ((0:Int)<=1∧(1:Int)<2) (by decide) (.ob (.call (.brB
 (.ob (.ob (.obC ((0:Int)<=0∧(0:Int)<2) (by decide) (.ob (.obC ((0:Int)<=0∧(0:Int)<2) (by decide) (.ob (.ob (.ob (.obT (.ret (fun r=>(Ob (qw (pu5 iu x_ (pu9 iu us)) iu.toNat (wr (10:Nat) (za (pu5 iu x_ (pu9 iu us)) iu.toNat []) (7:Nat) [puc (val (y94 (pu1 iu x_ us) (16384:Int))),za (za (pu9 iu us) iu.toNat []) 7 (0:Int)])=r.2) ∧
 (Ob ((puc (val (y94 (pu1 iu x_ us) (16384:Int))))=r.1) ∧
 True))) ⟨⟨rfl⟩,⟨⟨rfl⟩,trivial⟩⟩))))))))))
 (.obC ((0:Int)<=0∧(0:Int)<2) (by decide) (.ob (.obC ((0:Int)<=0∧(0:Int)<2) (by decide) (.ob (.ob (.ob (.obT (.ret (fun r=>(Ob (qw (pu5 iu x_ us) iu.toNat (wr (10:Nat) (za (pu5 iu x_ us) iu.toNat []) (7:Nat) [puc (val (y94 (pu1 iu x_ us) (16384:Int))),za (za us iu.toNat []) 7 (0:Int)])=r.2) ∧
 (Ob ((puc (val (y94 (pu1 iu x_ us) (16384:Int))))=r.1) ∧
 True))) ⟨⟨rfl⟩,⟨⟨rfl⟩,trivial⟩⟩)))))))))))))))))))))))))))
def jwo (iu x_:Int) (us:List (List Int)) (r:Int × List (List Int)) (h:zb (jlh iu x_ us) some=some r):runM [(0,236)] Tryz.f178 ((sp_181 sp0)) (fun _ _ _=>none) (jaC jht [.d (.i .i64 iu),.d (.i .i64 x_)]) [.r (.recs 10 us)] [.r (.recs 10 r.2)] [.c (.d (.i .i64 r.1))] :=
 Sk.vc (jyv iu x_ us r) (by kernel_rfl) h
def jwp:jaf Tryz.prog 178 false (jeq jht [(0,236)] jhu):=by
 refine jlg (sp:=(sp_181 sp0)) (fn:=Tryz.f178) (body:=bodyOf Tryz.f178) mixed (sp_181_ok jaj) Tryz.func178 (by kernel_rfl) (by kernel_rfl) fun ls ms t h ho b hb=>?_;unfold jhu at h;split at h
 ·rename_i iu x_ us;cases h;obtain rfl:=jap hb;exact⟨zh (by kernel_rfl),_,_,jwo iu x_ us _ (jai ho)⟩
 ·cases h
def sp_178_ok {sp:jaa} (h:jab Tryz.prog sp):jab Tryz.prog (sp_178 sp):=jag jwp h
attribute [irreducible] jlh
end Go.Sh
end

section
namespace Go.Sh
open Go Go.Proofs Go.RowKit Go.Sx
open Go.IntKind (wrap)
def jf3:List SV:=[.c (.m),.c (.d)]
def jqO (l:List (List Int)) (x0:(Int × Int × List (List Int))):Option ((Int × Int × List (List Int)) ⊕ (Int × List (List Int))) :=
 if x0.2.1<(↑l.length:Int)then
  if 0<=x0.2.1∧x0.2.1<(↑x0.2.2.length:Int)then
  zb (jlh (↑x0.2.1.toNat:Int) x0.1 x0.2.2) fun r0 =>
  some (.inl ((r0.1,wrap .i64 (x0.2.1+1),r0.2)))
  else none
 else
  some (.inr (x0.1,x0.2.2))
def je0 (u4:Int × List (List Int)):Option (Int × List (List Int)) :=
 some (u4.1,u4.2)
def jnD (x_:Int) (l:List (List Int)):Option (Int × List (List Int)) :=
 zb (jae (jqO l) big ((x_,0,l))) (je0)
def jf4:List Lf->List Lf->Option GM
 |[.d (.i .i64 x_)],[.r (.recs 10 l)]=>some (.leaf (ok (jnD x_ l)) [.r (.recs 10 ((val (jnD x_ l)).2))] [.c (.d (.i .i64 ((val (jnD x_ l)).1)))])
 |_,_=>none
abbrev sp_169:jaa->jaa:=jan 169 false (jeq jf3 [(0,236)] jf4)
abbrev jj6 (x_:Int) (l:List (List Int)) (r:Int × List (List Int)):Lp ((Int × Int × List (List Int)) × Nat) ((Int × Int × List (List Int))) ((Int × List (List Int))) ((Int × List (List Int))) (Int × List (List Int)) :=
 ⟨fun z=>z.1,fun z=>z.2,fun z x n=>(x,n),fun z=>jqO l,fun z=>je0,fun z=>top r,fun z=>0,[.c fun vv=>vv.1.1,.c fun _=>(↑l.length:Int),.c fun vv=>vv.1.2.1,.c fun vv=>vv.1.2.2]⟩
def jug (x_:Int) (l:List (List Int)) (r:Int × List (List Int)):Sk (top r) (zb (jae (jqO l) big ((x_,0,l))) (je0)) :=
 .loop (jj6 x_ l r) (fun kk=>((x_,0,l),big)) fun z0 =>
 .br
 (.ob (.call (.next)))
 (.exit (.obT (.ret (fun r=>(Ob (z0.1.2.2=r.2) ∧
 (Ob (z0.1.1=r.1) ∧
 True))) ⟨⟨rfl⟩,⟨⟨rfl⟩,trivial⟩⟩)))
def jwq (x_:Int) (l:List (List Int)) (r:Int × List (List Int)):Sk (top r) (jnD x_ l) :=
 jug x_ l r
def juh (x_:Int) (l:List (List Int)) (r:Int × List (List Int)) (h:zb (jnD x_ l) some=some r):runM [(0,236)] Tryz.f169 ((sp_178 sp0)) (fun gs id st=>match id with
 |0=>some ⟨(Int × Int × List (List Int)) × Nat,fun z=>⟨[(0,.w (.c (.o 0))),(1,.w (.c (.d (.i .i64 z.1.1)))),(7,.w (.c (.d (.i .i64 ((↑l.length:Int)))))),(8,.w (.c (.d (.i .i64 z.1.2.1))))],[(0,.row 236 (.recs 10 z.1.2.2))],1⟩,fun z=>(jj6 x_ l r).inv z,fun z=>z.2⟩
 |_=>none) (jaC jf3 [.d (.i .i64 x_)]) [.r (.recs 10 l)] [.r (.recs 10 r.2)] [.c (.d (.i .i64 r.1))] :=
 Sk.vc (jwq x_ l r) (by kernel_rfl) h
def jui:jaf Tryz.prog 169 false (jeq jf3 [(0,236)] jf4):=by
 refine jlg (sp:=(sp_178 sp0)) (fn:=Tryz.f169) (body:=bodyOf Tryz.f169) mixed (sp_178_ok jaj) Tryz.func169 (by kernel_rfl) (by kernel_rfl) fun ls ms t h ho b hb=>?_;unfold jf4 at h;split at h
 ·rename_i x_ l;cases h;obtain rfl:=jap hb;exact⟨zh (by kernel_rfl),_,_,juh x_ l _ (jai ho)⟩
 ·cases h
def sp_169_ok {sp:jaa} (h:jab Tryz.prog sp):jab Tryz.prog (sp_169 sp):=jag jui h
end Go.Sh
end

section
namespace Go.Sh
open Go Go.Proofs Go.RowKit Go.Sx
open Go.IntKind (wrap)
attribute [local irreducible] y39 jda
def juj:List SV:=[.c (.r (.recs 5 [])),.b (.f .f32 []) 32,.c (.r (.recs 4 []))]
def jc2 (b:List Nat) (x0:(Int × List (List Int) × List Nat)):Option ((Int × List (List Int) × List Nat) ⊕ (List (List Int) × List Nat)) :=
 if x0.1<32 then
  if 0<=x0.1∧x0.1<(↑(32:Nat):Int)then
  if jbU .f32 .i64 (za b x0.1.toNat (0:Nat))=true then
   zb (jnD (f2i .f32 (za b x0.1.toNat (0:Nat))) x0.2.1) fun r5 =>
   if 0<=x0.1∧x0.1<(↑(32:Nat):Int)then
   if 0+(0+zg x0.1*1)<32 then
    some (.inl ((wrap .i64 (x0.1+1),r5.2,jev (32:Nat) x0.2.2 (0+(0+zg x0.1*1)) (qv .f32 r5.1))))
   else none
   else none
  else none
  else none
 else
  some (.inr (x0.2.1,x0.2.2))
def jhv (u4:List (List Int) × List Nat):Option (List Nat × List (List Int) × Int × Int) :=
 zb (y55 u4.1) fun r6 =>
 zb (y88 u4.1) fun r7 =>
 some ((u4.2,r6,r7,0))
def jdM (c:List (List Int)) (b:List Nat) (s:List (List Int)):Option (List Nat × List (List Int) × Int × Int) :=
 zb (y39 c) fun r0 =>
 if ze b=(32:Nat)∧0<=zM none (0:Int)∧zM none 0<=zM none (↑(32:Nat):Int)∧zM none (↑(32:Nat):Int)<=(↑(32:Nat):Int)then
  zb (y68 (yH (32:Nat) (yI (0:Nat) b))) fun r1 =>
  zb (jda [r0,r1]) fun r2 =>
  if(r2==0)=true then
  zb (y69 c s) fun r3 =>
  if(r3.2 != 0)=true then
   some ((zO,[],0,r3.2))
  else
   zb (y87 c s) fun r4 =>
   zb (jae (jc2 b) big (((0:Int),r4,zO))) (jhv)
  else
  if(r2 != 0)=true then
   some ((zO,[],0,r2))
  else
   zb (y87 c s) fun r4 =>
   zb (jae (jc2 b) big (((0:Int),r4,zO))) (jhv)
 else none
def juk:List Lf->Option GT
 |[.r (.recs 5 c),.b 32 (.f .f32 b),.r (.recs 4 s)]=>some (.leaf (ok (jdM c b s)) [.b 32 (.f .f32 ((val (jdM c b s)).1)),.c (.row 174 (.recs 4 ((val (jdM c b s)).2.1))),.c (.d (.i .i64 ((val (jdM c b s)).2.2.1))),.c (.d (.i .i64 ((val (jdM c b s)).2.2.2)))])
 |_=>none
abbrev sp_143:jaa->jaa:=jan 143 true (jah juj juk)
abbrev jyw (c:List (List Int)) (b:List Nat) (s:List (List Int)) (r:List Nat × List (List Int) × Int × Int):Lp ((Int × List (List Int) × List Nat) × Nat) ((Int × List (List Int) × List Nat)) ((List (List Int) × List Nat)) ((List Nat × List (List Int) × Int × Int)) (List Nat × List (List Int) × Int × Int) :=
 ⟨fun z=>z.1,fun z=>z.2,fun z x n=>(x,n),fun z=>jc2 b,fun z=>jhv,fun z=>top r,fun z=>0,[.c fun _=>0,.c fun _=>0,.c fun _=>b,.c fun vv=>vv.1.1,.c fun _=>zO,.c fun vv=>vv.1.2.1,.c fun vv=>vv.1.2.2]⟩
def jyx (c:List (List Int)) (b:List Nat) (s:List (List Int)) (r:List Nat × List (List Int) × Int × Int):Sk (top r) (zb (jae (jc2 b) big (((0:Int),val (y87 c s),zO))) (jhv)) :=
 .loop (jyw c b s r) (fun kk=>(((0:Int),val (y87 c s),zO),big)) fun z0 =>
 .br
 (.ob (.ob (.call (.obT (.ob (.ob (.next)))))))
 (.exit (.obT (.call (.call (.obT (.obT (.obT (.obT (.obT (.ret (fun r=>(Ob (r.1=z0.1.2.2) ∧
 (Ob (val (y55 z0.1.2.1)=r.2.1) ∧
 (Ob (val (y88 z0.1.2.1)=r.2.2.1) ∧
 (Ob ((0:Int)=r.2.2.2) ∧
 True))))) ⟨⟨rfl⟩,⟨⟨rfl⟩,⟨⟨rfl⟩,⟨⟨rfl⟩,trivial⟩⟩⟩⟩))))))))))
def jH6 (c:List (List Int)) (b:List Nat) (s:List (List Int)) (r:List Nat × List (List Int) × Int × Int):Sk (top r) (jdM c b s) :=
 .call (.ob (.call (.call (.brB
 (.call (.brB
 (.obT (.obT (.obT (.obT (.obT (.ret (fun r=>(Ob (r.1=zO) ∧
 (Ob (ze r.2.1=(0:Nat)) ∧
 (Ob ((0:Int)=r.2.2.1) ∧
 (Ob ((val (y69 c s)).2=r.2.2.2) ∧
 True))))) ⟨⟨rfl⟩,⟨⟨rfl⟩,⟨⟨rfl⟩,⟨⟨rfl⟩,trivial⟩⟩⟩⟩))))))
 (.call (.obT (jyx c b s r)))))
 (.brB
 (.obT (.obT (.obT (.obT (.obT (.ret (fun r=>(Ob (r.1=zO) ∧
 (Ob (ze r.2.1=(0:Nat)) ∧
 (Ob ((0:Int)=r.2.2.1) ∧
 (Ob (val (jda [val (y39 c),val (y68 (yH (32:Nat) (yI (0:Nat) b)))])=r.2.2.2) ∧
 True))))) ⟨⟨rfl⟩,⟨⟨rfl⟩,⟨⟨rfl⟩,⟨⟨rfl⟩,trivial⟩⟩⟩⟩))))))
 (.call (.obT (jyx c b s r))))))))
def jGn (c:List (List Int)) (b:List Nat) (s:List (List Int)) (r:List Nat × List (List Int) × Int × Int) (h:zb (jdM c b s) some=some r):jaG Tryz.f143 ((sp_161 (sp_166 (sp_165 (sp_167 (sp_168 (sp_169 (sp_170 (sp_171 sp0))))))))) (fun gs id st=>match id with
 |0=>some ⟨(Int × List (List Int) × List Nat) × Nat,fun z=>⟨[(6,.w (.c (.p 2 0 1 0))),(11,.w (.c (.o 3))),(12,.w (.c (.p 4 0 1 0))),(36,.w (.b 32 (.f .f32 b))),(37,.w (.c (.d (.i .i64 z.1.1))))],[(2,.arr 110 32 (.f .f32 (zO))),(3,.row 236 (.recs 10 z.1.2.1)),(4,.arr 110 32 (.f .f32 z.1.2.2))],5⟩,fun z=>(jyw c b s r).inv z,fun z=>z.2⟩
 |_=>none) (jaC juj [.r (.recs 5 c),.b 32 (.f .f32 b),.r (.recs 4 s)]) [.b 32 (.f .f32 r.1),.c (.row 174 (.recs 4 r.2.1)),.c (.d (.i .i64 r.2.2.1)),.c (.d (.i .i64 r.2.2.2))] :=
 Sk.vc (jH6 c b s r) (by kernel_rfl) h
def jGo:jaf Tryz.prog 143 true (jah juj juk):=by
 refine jal (sp:=(sp_161 (sp_166 (sp_165 (sp_167 (sp_168 (sp_169 (sp_170 (sp_171 sp0))))))))) (fn:=Tryz.f143) (body:=bodyOf Tryz.f143) mixed (sp_161_ok (sp_166_ok (sp_165_ok (sp_167_ok (sp_168_ok (sp_169_ok (sp_170_ok (sp_171_ok jaj)))))))) Tryz.func143 (by kernel_rfl) (by kernel_rfl) fun ls t h ho b hb=>?_;unfold juk at h;split at h
 ·rename_i c b s;cases h;obtain rfl:=jap hb;exact⟨zh (by kernel_rfl),_,_,jGn c b s _ (jai ho)⟩
 ·cases h
def sp_143_ok {sp:jaa} (h:jab Tryz.prog sp):jab Tryz.prog (sp_143 sp):=jag jGo h
attribute [irreducible] jdM
end Go.Sh
end

section
open Go Go.RowKit
namespace Go.Sx
def jCt (P:zL) (t:TypeId):Bool:=match P.underlying t with
 |some (.slice _)=>true
 |_=>false
section
variable [Globs] {P:zL} {sp:jaa} {I I0:Env} {B:Kd} {nx N n0:Nat} {hp:Hp} {w w0:zs} {st:St} {a:Act} {ds:List Deferred}
def jD0 {o:qu} {t yt:TypeId} {x:zR} {u:V} {aa:Option Addr} {n cap:Nat} {K:Act->zs->Prop} {Q:Exit->Act->zs->Prop} (hop:o.op=.binOp .eql t x (.const (.slice none 0 0)) yt) (hd:jcU N o.dst=true) (hit:jCt P t=true)
  (hx:jcw st x=some u) (hv:u.val I=.slice aa n cap) (hr:RelD ds I B N n0 st a w)
  (hK:RelD ds I B N n0 (st.put o.dst ⟨True,vb aa.isNone,st.hp,st.nx⟩) (a.put o.dst (.bool aa.isNone)) w->K (a.put o.dst (.bool aa.isNone)) w):o.wp P a w K Q:=by
 obtain⟨ms,hms⟩:∃ms,P.underlying t=some (.slice ms):=by
  unfold jCt at hit;split at hit
  ·rename_i ms h';exact⟨ms,h'⟩
  ·cases hit
 have h1:=hr.reads _ _ hx;have e1:a.eval x=.slice aa n cap:=by rw[h1.2,hv]
 have e2:a.eval (.const (.slice none 0 0))=.slice none 0 0:=rfl
 have heq:(Op.equal t (.slice aa n cap) (.slice none 0 0)).run P w=.ok aa.isNone w:=by
  unfold Op.equal;rw[show Op.maxDepth=9999+1 from rfl,Op.equalIn];cases aa<;>simp only[zr,run_underlying hms,zn,zx]<;>rfl
 have hg:(eqGuard .eql t x (.const (.slice none 0 0)) (.slice aa n cap) (.slice none 0 0)).run P w=.ok () w:=by
  cases x<;>rfl
 have hb:(binOp .eql t (.slice aa n cap) (.slice none 0 0)).run P w=.ok (.bool aa.isNone) w:=by
  simp only[binOp,zr,heq,zn,zx]
 have hrun:(execOp a.eval o).run P w=.ok (.value (.bool aa.isNone)) w:=by
  unfold execOp;simp only[hop,e1,e2,zr,hg,hb,zn,zx]
 obtain⟨B1,g,hh⟩:=hr.heap;have hl:Left I B1 st.nx w ⟨True,vb aa.isNone,st.hp,st.nx⟩ false I w:=⟨jak.refl _ _,trivial,zq _,⟨B1,Grow.refl _ _ _ _,hh⟩,Bel.refl _ _,(fun h=>by cases h),fun h=>by cases h⟩
 have:=hr.put1 (o:=o) g hd hl;unfold Oper.wp;rw[hrun];exact hK this
def jpN {f:Nat} {fn:Func} {body:Code} {args:List V} {hp0:Hp} {nx0:Nat} {post:V->Hp->Nat->Prop}
  (hf:P.funcs[f]?=some fn) (hb:fn.body=some body) (hlen:args.length<=fn.ntmps)
  (hlt:∀x∈args,V.lt nx0 x) (hn0:n0<=nx0) (I:Env) (w:zs) (hh:HRel I B hp0 nx0 w) (hB:Old B w)
  (h:∀a:Act,Rel I B fn.ntmps n0 ⟨jbD 0 args,hp0,nx0⟩ a w->body.wp P (Qx [] I B fn.ntmps n0 w (jbX P fn.results.toList post)) a w) :
  Calls P f (args.map (V.val I)).toArray w fun e w'=>∃I' v hp' nx',e=.returned (v.val I')∧v.lt nx'∧jak n0 I I'∧(∃B',Grow B B' false w' w'∧HRel I' B' hp' nx' w')∧Bel B w w'∧Old B w'∧post v hp' nx':=by
 refine calls_of_wp hf hb ?_;have hrel:=jfF (n0:=n0) hlen hlt hn0 I w hh hB;refine x6 (h _ hrel) ?_;rintro e a' w' ⟨x,I',st',rfl,hk,hr',hag',hbl'⟩
 have fin:∀l:List (Prop × W),jfE P st' fn.results.toList=some l->jmB l (post (jb7 (l.map (·.2))) st'.hp st'.nx) ->
   a'.defers=[]∧∃v,(results fn a'.tmps).run P w'=.ok v w'∧∃I' v' hp' nx',xX v=.returned (v'.val I')∧v'.lt nx'∧jak n0 I I'∧(∃B',Grow B B' false w' w'∧HRel I' B' hp' nx' w')∧Bel B w w'∧Old B w'∧post v' hp' nx':=by
  intro l hl ho;have hra:=jkB hr' _ l _ hl ho;refine⟨hr'.defers,(jb7 (l.map (·.2))).val I',?_,I',jb7 (l.map (·.2)),st'.hp,st'.nx,rfl,jgN (fun y hy=>?_),hag',hr'.heap,hbl',hr'.le,hra.2.2⟩
  ·rw[jdk];simp only[jrS,Array.mapM_eq_mapM_toList,zr,Sem.run_map,hra.1,zn,zx,xh];rfl
  ·obtain⟨z,hz,rfl⟩:=qa.1 hy;exact hra.2.1 z hz
 cases x with
 |normal =>
  simp only[jbX]at hk;split at hk
  ·rename_i l hl;exact fin l hl hk
  ·exact hk.elim
 |exit j=>exact hk.elim
 |ret =>
  simp only[jbX]at hk;split at hk
  ·rename_i l hl;exact fin l hl hk
  ·exact hk.elim
def jcP {o:qu} {r:List qu} {all:Array qu} {Q:Exit->Act->zs->Prop} (hg:o.guard=none) (h:o.wp P a w (fun a' w'=>gZ P all Q r a' w') Q):gZ P all Q (o::r) a w:=by
 unfold gZ;rw[if_pos (by simp[yB,hg])];exact .inl h
def jis:Code->Option (List qu)
 | .region _ ops false=>some ops.toList
 |_=>none
def jqP {c:Code} {l:List qu} {Q:Exit->Act->zs->Prop} (hc:jis c=some l) (h:gZ P l.toArray Q l a w):c.wp P Q a w:=by
 unfold jis at hc;split at hc
 ·cases hc;refine wp_region_list ?_;simpa using h
 ·cases hc
def jyy {fuel:Nat} {loops:jfo} {drawn:Array qu->St->(St->Prop)->Prop} (hsp:jab P sp) (hdr:jd7 P B N n0 I0 w0 drawn) {x y:Code} {cur:Nat} {gs:List Nat} {k:Ex->St->Prop}
  (h:sx P sp N n0 fuel loops drawn (.seq x y) cur gs st k) (hr:RelD ds I B N n0 st a w) (hag:jak n0 I0 I) (hbl:Bel B w0 w):x.wp P (Exit.then (y.wp P (Qx ds I0 B N n0 w0 k)) (Qx ds I0 B N n0 w0 k)) a w:=by
 unfold sx at h;refine x6 (ja9 hsp hdr x cur gs st _ I a w h hr hag hbl) ?_;rintro e a' w' ⟨ex,I',st',rfl,hk,hr',hag',hbl'⟩;cases ex with
 |normal=>exact ja9 hsp hdr y cur gs st' k I' a' w' hk hr' hag' hbl'
 |exit j=>exact⟨.exit j,I',st',rfl,hk,hr',hag',hbl'⟩
 |ret=>exact⟨.ret,I',st',rfl,hk,hr',hag',hbl'⟩
def jJh (P:zL) (sp:jaa) (N:Nat) (R1 CD:Code) (o1 o2:qu) (x:zR) (rs:List ResultVar) (c:Cont) (post:List RR):Prop :=
 sx P sp N 1 1 (fun _ _ _=>none) (jcA P sp N) R1 0 [] ⟨jbD 0 [.w (.c (.o 0))],[(0,.ext c)],1⟩ fun ex st=>ex=.normal∧jkx P sp N o1 st fun st=>jcw st x=some (.w (.c (.o 0))) ∧
  (Ob (c.n=0)->sx P sp N 1 1 (fun _ _ _=>none) (jcA P sp N) CD 0 [] (st.put o2.dst ⟨True,vb true,st.hp,st.nx⟩) (jbX P rs fun v hp _=>jg8 1 post v hp)) ∧
  sx P sp N 1 1 (fun _ _ _=>none) (jcA P sp N) CD 0 [] (st.put o2.dst ⟨True,vb false,st.hp,st.nx⟩) (jbX P rs fun v hp _=>jg8 1 post v hp)
def jqQ {f:Nat} {fn:Func} {R1 R2 C D:Code} {o1 o2:qu} {t yt:TypeId} {x:zR} {c0:Cont} {g:List Lf->Option GT} (hm:P.follows .mixedOrders=true) (hsp:jab P sp) (hf:P.funcs[f]?=some fn) (hb:fn.body=some (.seq R1 (.seq (.seq R2 C) D))) (hn:(fn.name == "runtime.NumGoroutine")=false)
  (hlen:1<=fn.ntmps) (hR2:jis R2=some [o1,o2]) (hg1:o1.guard=none) (hg2:o2.guard=none) (hop:o2.op=.binOp .eql t x (.const (.slice none 0 0)) yt) (hd:jcU fn.ntmps o2.dst=true) (hit:jCt P t=true)
  (hg:∀ls t,g ls=some t->∃c ob post,ls=[.r c]∧t=.leaf ob post∧(ob->jJh P sp fn.ntmps R1 (.seq C D) o1 o2 x fn.results.toList c post)):jaf P f true (jah [.c (.r c0)] g):=by
 refine jie hf hb hn fun ls t ht ho b hbl I w hlt hh=>?_;have hB:Old (kd fun k=>k<w.heap.size) w:=fun k hk=>jbM.1 hk;obtain⟨c,ob,post,rfl,rfl,hv⟩:=hg ls t ht;have hv:=hv ho;simp only[jdL,jxK,jdT,qr,jgB,zk]at hbl;subst hbl;have hh:HRel I (kd fun k=>k<w.heap.size) [(0,.ext c)] 1 w:=hh;refine jpN (args:=[.w (.c (.o 0))]) hf hb hlen hlt (zq _) I w hh hB fun a hr=>?_;obtain⟨aa,cap,hval,hcap,hcell⟩:=(hh.ok 0 _ rfl).2.2.1;refine wp_seq (x6 (ja9 hsp (jb0 hm hsp) R1 0 [] _ _ I a w hv hr (jak.refl _ _) (Bel.refl _ _)) ?_);rintro e a1 w1 ⟨ex,I1,st1,rfl,⟨rfl,hdo⟩,hr1,hag1,hbl1⟩;refine wp_seq (wp_seq (jqP hR2 (jcP hg1 (jcV hsp hr1 hag1 hbl1 hdo fun I2 st2 a2 w2 hr2 hag2 hbl2 hk=>?_))));obtain⟨hx,hk1,hk2⟩:=hk
 have hval2:(V.w (.c (.o 0))).val I2=.slice aa c.n cap:=by
  show I2 0=_
  rw[hag2 0 (by omega)];exact hval
 refine jcP hg2 (jD0 (u:=.w (.c (.o 0))) hop hd hit hx hval2 hr2 fun hr3=>?_)
 have fin:C.wp P (Exit.then (D.wp P (Qx [] I (kd fun k=>k<w.heap.size) fn.ntmps 1 w (jbX P fn.results.toList fun v hp _=>jg8 1 post v hp))) (Qx [] I (kd fun k=>k<w.heap.size) fn.ntmps 1 w (jbX P fn.results.toList fun v hp _=>jg8 1 post v hp))) (a2.put o2.dst (.bool aa.isNone)) w2:=by
  cases aa with
  |none =>
   refine jyy hsp (jb0 hm hsp) (hk1 ⟨?_⟩) hr3 hag2 hbl2;refine Nat.eq_zero_of_not_pos fun hn=>?_;obtain⟨b,off,e,_⟩:=hcell hn;cases e
  |some p=>exact jyy hsp (jb0 hm hsp) hk2 hr3 hag2 hbl2
 unfold gZ;exact fin
end
end Go.Sx
end

section
namespace Go.Sh
open Go Go.Proofs Go.RowKit Go.Sx Go.Sx09
def cl1 (f:Func):qu:=((jis (Sx09.sub [1,0,0] (Sx09.bodyOf f))).getD []).getD 0 default
def cl2 (f:Func):qu:=((jis (Sx09.sub [1,0,0] (Sx09.bodyOf f))).getD []).getD 1 default
def jnE:List SV:=[.c (.r (.ints .i64 []))]
def jaT (l:List (Int)):Option (List (Int)):=if l.length*8<=140737488355328 then some l else none
def jhw:List Lf->Option GT
 |[.r (.ints .i64 l)]=>some (.leaf (ok (jaT l)) [.c (.row 3 (.ints .i64 (val (jaT l))))])
 |_=>none
abbrev sp_136:jaa->jaa:=jan 136 true (jah jnE jhw)
def jwr:jaf Tryz.prog 136 true (jah jnE jhw):=by
 refine jqQ (sp:=sp0) (fn:=Tryz.f136) (R1:=Sx09.sub [0] (Sx09.bodyOf Tryz.f136)) (R2:=Sx09.sub [1,0,0] (Sx09.bodyOf Tryz.f136)) (C:=Sx09.sub [1,0,1] (Sx09.bodyOf Tryz.f136)) (D:=Sx09.sub [1,1] (Sx09.bodyOf Tryz.f136)) (o1:=cl1 Tryz.f136) (o2:=cl2 Tryz.f136) (t:=31) (yt:=31) (x:=.tmp 3)
  mixed jaj Tryz.func136 (by kernel_rfl) (by kernel_rfl) (zh (by kernel_rfl)) (by kernel_rfl) (by kernel_rfl) (by kernel_rfl) (by kernel_rfl) (by kernel_rfl) (by kernel_rfl) fun ls t h=>?_
 unfold jhw at h;split at h
 ·rename_i l;cases h;refine⟨_,_,_,rfl,rfl,fun ho=>?_⟩
  have hl:l.length*8<=140737488355328:=by
   unfold ok jaT at ho;split at ho
   ·assumption
   ·cases ho
  have hv:val (jaT l)=l:=by
   unfold jaT;rw[if_pos hl];rfl
  rw[hv];refine jI (by kernel_rfl:(Ex.normal=Ex.normal∧some (V.w (W.c (Sx.C.o 0)))=some (V.w (W.c (Sx.C.o 0)))∧(Ob (l.length=0)->Ob True∧Ob (l.length=0)∧True)∧Ob ((([]:List (Int)).length+l.length)*8<=140737488355328∧([]:List (Int)).length+l.length<=9223372036854775807)∧Ob True∧Ob (([]:List (Int))++l=l)∧True)=_) ?_;exact⟨rfl,rfl,fun h=>⟨⟨trivial⟩,h,trivial⟩,⟨by simp only[qi];omega⟩,⟨trivial⟩,⟨rfl⟩,trivial⟩
 ·cases h
def sp_136_ok {sp:jaa} (h:jab Tryz.prog sp):jab Tryz.prog (sp_136 sp):=jag jwr h
def jnF:List SV:=[.c (.r (.recs 5 []))]
def jb8 (l:List (List Int)):Option (List (List Int)):=if l.length*40<=140737488355328 then some l else none
def jhx:List Lf->Option GT
 |[.r (.recs 5 l)]=>some (.leaf (ok (jb8 l)) [.c (.row 148 (.recs 5 (val (jb8 l))))])
 |_=>none
abbrev sp_137:jaa->jaa:=jan 137 true (jah jnF jhx)
def jws:jaf Tryz.prog 137 true (jah jnF jhx):=by
 refine jqQ (sp:=sp0) (fn:=Tryz.f137) (R1:=Sx09.sub [0] (Sx09.bodyOf Tryz.f137)) (R2:=Sx09.sub [1,0,0] (Sx09.bodyOf Tryz.f137)) (C:=Sx09.sub [1,0,1] (Sx09.bodyOf Tryz.f137)) (D:=Sx09.sub [1,1] (Sx09.bodyOf Tryz.f137)) (o1:=cl1 Tryz.f137) (o2:=cl2 Tryz.f137) (t:=116) (yt:=116) (x:=.tmp 3)
  mixed jaj Tryz.func137 (by kernel_rfl) (by kernel_rfl) (zh (by kernel_rfl)) (by kernel_rfl) (by kernel_rfl) (by kernel_rfl) (by kernel_rfl) (by kernel_rfl) (by kernel_rfl) fun ls t h=>?_
 unfold jhx at h;split at h
 ·rename_i l;cases h;refine⟨_,_,_,rfl,rfl,fun ho=>?_⟩
  have hl:l.length*40<=140737488355328:=by
   unfold ok jb8 at ho;split at ho
   ·assumption
   ·cases ho
  have hv:val (jb8 l)=l:=by
   unfold jb8;rw[if_pos hl];rfl
  rw[hv];refine jI (by kernel_rfl:(Ex.normal=Ex.normal∧some (V.w (W.c (Sx.C.o 0)))=some (V.w (W.c (Sx.C.o 0)))∧(Ob (l.length=0)->Ob True∧Ob (l.length=0)∧True)∧Ob ((([]:List (List Int)).length+l.length)*40<=140737488355328∧([]:List (List Int)).length+l.length<=9223372036854775807)∧Ob True∧Ob (([]:List (List Int))++l=l)∧True)=_) ?_;exact⟨rfl,rfl,fun h=>⟨⟨trivial⟩,h,trivial⟩,⟨by simp only[qi];omega⟩,⟨trivial⟩,⟨rfl⟩,trivial⟩
 ·cases h
def sp_137_ok {sp:jaa} (h:jab Tryz.prog sp):jab Tryz.prog (sp_137 sp):=jag jws h
def jnG:List SV:=[.c (.r (.recs 4 []))]
def jbd (l:List (List Int)):Option (List (List Int)):=if l.length*32<=140737488355328 then some l else none
def jhy:List Lf->Option GT
 |[.r (.recs 4 l)]=>some (.leaf (ok (jbd l)) [.c (.row 174 (.recs 4 (val (jbd l))))])
 |_=>none
abbrev sp_144:jaa->jaa:=jan 144 true (jah jnG jhy)
def jwt:jaf Tryz.prog 144 true (jah jnG jhy):=by
 refine jqQ (sp:=sp0) (fn:=Tryz.f144) (R1:=Sx09.sub [0] (Sx09.bodyOf Tryz.f144)) (R2:=Sx09.sub [1,0,0] (Sx09.bodyOf Tryz.f144)) (C:=Sx09.sub [1,0,1] (Sx09.bodyOf Tryz.f144)) (D:=Sx09.sub [1,1] (Sx09.bodyOf Tryz.f144)) (o1:=cl1 Tryz.f144) (o2:=cl2 Tryz.f144) (t:=158) (yt:=158) (x:=.tmp 3)
  mixed jaj Tryz.func144 (by kernel_rfl) (by kernel_rfl) (zh (by kernel_rfl)) (by kernel_rfl) (by kernel_rfl) (by kernel_rfl) (by kernel_rfl) (by kernel_rfl) (by kernel_rfl) fun ls t h=>?_
 unfold jhy at h;split at h
 ·rename_i l;cases h;refine⟨_,_,_,rfl,rfl,fun ho=>?_⟩
  have hl:l.length*32<=140737488355328:=by
   unfold ok jbd at ho;split at ho
   ·assumption
   ·cases ho
  have hv:val (jbd l)=l:=by
   unfold jbd;rw[if_pos hl];rfl
  rw[hv];refine jI (by kernel_rfl:(Ex.normal=Ex.normal∧some (V.w (W.c (Sx.C.o 0)))=some (V.w (W.c (Sx.C.o 0)))∧(Ob (l.length=0)->Ob True∧Ob (l.length=0)∧True)∧Ob ((([]:List (List Int)).length+l.length)*32<=140737488355328∧([]:List (List Int)).length+l.length<=9223372036854775807)∧Ob True∧Ob (([]:List (List Int))++l=l)∧True)=_) ?_;exact⟨rfl,rfl,fun h=>⟨⟨trivial⟩,h,trivial⟩,⟨by simp only[qi];omega⟩,⟨trivial⟩,⟨rfl⟩,trivial⟩
 ·cases h
def sp_144_ok {sp:jaa} (h:jab Tryz.prog sp):jab Tryz.prog (sp_144 sp):=jag jwt h
end Go.Sh
end

section
namespace Go.Sh
open Go Go.Proofs Go.RowKit Go.Sx
open Go.IntKind (wrap)
attribute [local irreducible] y75 jbd
def je1:List SV:=[.c (.p [.p [.d,.x (.st zS []),.r (.ints .i64 [])],.d,.x (.ff .f32 []),.x (.rr 4 []),.r (.frs .f32 32 []),.r (.ints .i64 []),.m,.m,.m]),.c (.d)]
def y62 (u14:List (List Nat)) (r1:Int) (x0:(Int × List Int)):Option ((Int × List Int) ⊕ (List Int)) :=
 if x0.1<32 then
  if 0<=x0.1∧x0.1<(↑(32:Nat):Int)then
  if jbU .f32 .i64 (za (za u14 r1.toNat []) x0.1.toNat (0:Nat))=true then
   if 0<=x0.1∧x0.1<(↑(32:Nat):Int)then
   if 0+(0+zg x0.1*1)<32 then
    some (.inl ((wrap .i64 (x0.1+1),qw (jey (32:Nat) x0.2) (0+(0+zg x0.1*1)) (f2i .f32 (za (za u14 r1.toNat []) x0.1.toNat (0:Nat))))))
   else none
   else none
  else none
  else none
 else
  some (.inr x0.2)
def y199 (i:Int) (u10:List (List Nat)) (u17:List (List (List Int))) (u13:List Int) (r0:List (List Int)) (u4:List Int):Option (List (List Nat) × List (List (List Int)) × List Int) :=
 zb (y75 u4) fun r2 =>
 if 0<=i∧i<(↑u10.length:Int)then
  if zg i<ze u10 then
  some ((qw u10 i.toNat r2,qw u17 i.toNat (NC.toRecs (qg [NC.r (Cont.recs (4:Nat) r0)] (NC.d (D.v z3)))),u13))
  else none
 else none
def y70 (u12:List (List NC)) (u11:List (List Nat)) (u15:List (List (List Int))) (u14:List (List Nat)) (u16:List Int) (i:Int) (u10:List (List Nat)) (u17:List (List (List Int))) (u13:List Int):Option (List (List Nat) × List (List (List Int)) × List Int) :=
 if 0<=i∧i<(↑u12.length:Int)then
  if zg i<ze u12 then
  if 0<=i∧i<(↑u15.length:Int)then
   if zg i<ze u15 then
   zb (jbd (za u15 i.toNat [])) fun r0 =>
   if 0<=i∧i<(↑u17.length:Int)then
    if zg i<ze u17 then
    if 0<=i∧i<(↑u16.length:Int)then
     if zg i<ze u16 then
     if(za u16 i.toNat (0:Int)==(-1:Int))=true then
      some ((u10,qw u17 i.toNat (NC.toRecs (qg [NC.r (Cont.recs (4:Nat) r0)] (NC.d (D.v z3)))),u13))
     else
      if(za u16 i.toNat (0:Int)!=i)=true then
      if 0<=za u16 i.toNat (0:Int)∧za u16 i.toNat 0<(↑u10.length:Int)then
       if zg (za u16 i.toNat (0:Int))<ze u10 then
       if 0<=i∧i<(↑u10.length:Int)then
        if zg i<ze u10 then
        some ((qw u10 i.toNat (za u10 (zg (za u16 i.toNat (0:Int))) []),qw u17 i.toNat (NC.toRecs (qg [NC.r (Cont.recs (4:Nat) r0)] (NC.d (D.v z3)))),u13))
        else none
       else none
       else none
      else none
      else
      if(nI u12 i.toNat (1:Nat)==0)=true then
       zb (y20 u12 i) fun r1 =>
       if 0<=r1∧r1<(↑u14.length:Int)then
       if zg r1<ze u14 then
        zb (jae (y62 u14 r1) big (((0:Int),zI))) (y199 i u10 u17 u13 r0)
       else none
       else none
      else
       if(nI u12 i.toNat (1:Nat)==1)=true then
       zb (jkX u11 u10 (nL u12 i.toNat (2:Nat)) (nL u12 i.toNat (3:Nat)) (nL u12 i.toNat (4:Nat))) fun r3 =>
       if 0<=i∧i<(↑u10.length:Int)then
        if zg i<ze u10 then
        if 0<=i∧i<(↑u13.length:Int)then
         if zg i<ze u13 then
         some ((qw u10 i.toNat r3.1,qw u17 i.toNat (NC.toRecs (qg [NC.r (Cont.recs (4:Nat) r0)] (NC.d (D.v z3)))),qw u13 i.toNat r3.2))
         else none
        else none
        else none
       else none
       else
       if(nI u12 i.toNat (1:Nat)==3)=true then
        zb (y19 u11 u10 (nL u12 i.toNat (2:Nat)) (nL u12 i.toNat (3:Nat)) (0:Int) (0:Int)) fun r4 =>
        zb (y75 r4) fun r5 =>
        if 0<=i∧i<(↑u15.length:Int)then
        if zg i<ze u15 then
         zb (jdM (nR u12 i.toNat (6:Nat)) r5 (za u15 i.toNat [])) fun r6 =>
         if 0<=i∧i<(↑u10.length:Int)then
         if zg i<ze u10 then
          if 0<=i∧i<(↑(ze (qw u17 i.toNat (NC.toRecs (qg [NC.r (Cont.recs (4:Nat) r0)] (NC.d (D.v z3)))))):Int)then
          if zg i<ze (qw u17 i.toNat (NC.toRecs (qg [NC.r (Cont.recs (4:Nat) r0)] (NC.d (D.v z3)))))then
           if 0<=i∧i<(↑u13.length:Int)then
           if zg i<ze u13 then
            some ((qw u10 i.toNat r6.1,qw (qw u17 i.toNat (NC.toRecs (qg [NC.r (Cont.recs (4:Nat) r0)] (NC.d (D.v z3))))) i.toNat (NC.toRecs (qg [NC.r (Cont.recs (4:Nat) r6.2.1)] (NC.d (D.v z3)))),qw u13 i.toNat r6.2.2.1))
           else none
           else none
          else none
          else none
         else none
         else none
        else none
        else none
       else
        zb (y19 u11 u10 (nL u12 i.toNat (2:Nat)) (nL u12 i.toNat (3:Nat)) (0:Int) (nI u12 i.toNat (5:Nat))) fun r7 =>
        zb (y75 r7) fun r8 =>
        if 0<=i∧i<(↑u10.length:Int)then
        if zg i<ze u10 then
         some ((qw u10 i.toNat r8,qw u17 i.toNat (NC.toRecs (qg [NC.r (Cont.recs (4:Nat) r0)] (NC.d (D.v z3)))),u13))
        else none
        else none
     else none
    else none
    else none
   else none
   else none
  else none
  else none
 else none
def je2:List Lf->List Lf->Option GM
 |[.d (.s u20),.x (.st [.s,.i .i64,.ints .i64,.ints .i64,.ints .i64,.i .i64,.recs 5,.i .i64] u12),.r (.ints .i64 u21),.d (.i .i64 u18),.x (.ff .f32 u11),.x (.rr 4 u15),.r (.frs .f32 32 u14),.r (.ints .i64 u16),.d (.i .i64 i)],[.r (.frs .f32 32 u10),.x (.rr 4 u17),.r (.ints .i64 u13)]=>some (.leaf (ok (y70 u12 u11 u15 u14 u16 i u10 u17 u13)) [.r (.frs .f32 32 ((val (y70 u12 u11 u15 u14 u16 i u10 u17 u13)).1)),.x (.rr 4 ((val (y70 u12 u11 u15 u14 u16 i u10 u17 u13)).2.1)),.r (.ints .i64 ((val (y70 u12 u11 u15 u14 u16 i u10 u17 u13)).2.2))] [])
 |_,_=>none
abbrev sp_103:jaa->jaa:=jan 103 false (jeq je1 [(7,110),(8,158),(9,3)] je2)
abbrev jit (u20:ByteArray) (u12:List (List NC)) (u21:List Int) (u18:Int) (u11:List (List Nat)) (u15:List (List (List Int))) (u14:List (List Nat)) (u16:List Int) (i:Int) (u10:List (List Nat)) (u17:List (List (List Int))) (u13:List Int) (r:List (List Nat) × List (List (List Int)) × List Int):Lp ((Int × List Int) × Nat) (Int × List Int) (List Int) ((List (List Nat) × List (List (List Int)) × List Int)) (List (List Nat) × List (List (List Int)) × List Int) :=
 ⟨fun z=>z.1,fun z=>z.2,fun z x n=>(x,n),fun z=>y62 u14 (val (y20 u12 i)),fun z=>y199 i u10 u17 u13 (val (jbd (za u15 i.toNat []))),fun z=>top r,fun z=>0,[.c fun _=>0,.c fun _=>i,.c fun _=>0,.c fun _=>za u14 (zg (val (y20 u12 i))) [],.c fun vv=>vv.1.1,.c fun _=>u10,.c fun _=>qw u17 i.toNat (NC.toRecs (qg [NC.r (Cont.recs (4:Nat) (val (jbd (za u15 i.toNat []))))] (NC.d (D.v z3)))),.c fun _=>u13,.c fun _=>0,.c fun _=>u18,.c fun vv=>vv.1.2,.c fun _=>u20,.c fun _=>u11,.c fun _=>u15,.c fun _=>u14,.c fun _=>u16,.c fun _=>u12,.c fun _=>u21]⟩
def jsA (u20:ByteArray) (u12:List (List NC)) (u21:List Int) (u18:Int) (u11:List (List Nat)) (u15:List (List (List Int))) (u14:List (List Nat)) (u16:List Int) (i:Int) (u10:List (List Nat)) (u17:List (List (List Int))) (u13:List Int) (r:List (List Nat) × List (List (List Int)) × List Int):Sk (top r) (zb (jae (y62 u14 (val (y20 u12 i))) big (((0:Int),zI))) (y199 i u10 u17 u13 (val (jbd (za u15 i.toNat []))))) :=
 .loop (jit u20 u12 u21 u18 u11 u15 u14 u16 i u10 u17 u13 r) (fun kk=>(((0:Int),zI),big)) fun z0 =>
 .br
 (.ob (.ob (.ob (.ob (.next)))))
 (.exit (.obT (.obT (.call (.ob (.ob (.rc)))))))
def jul (u20:ByteArray) (u12:List (List NC)) (u21:List Int) (u18:Int) (u11:List (List Nat)) (u15:List (List (List Int))) (u14:List (List Nat)) (u16:List Int) (i:Int) (u10:List (List Nat)) (u17:List (List (List Int))) (u13:List Int) (r:List (List Nat) × List (List (List Int)) × List Int):Sk (top r) (y70 u12 u11 u15 u14 u16 i u10 u17 u13) :=
 .obT (.obT (.ob (.ob (.obT (.obT (.ob (.ob (.call (.ob (.ob (.obT (.ob (.ob (.brB
 (.rc)
 (.brB
 (.obT (.obT (.ob (.ob (.ob (.ob (.rc)))))))
 (.brB
 (.obT (.obT (.call (.ob (.ob (jsA u20 u12 u21 u18 u11 u15 u14 u16 i u10 u17 u13 r))))))
 (.brB
 (.obT (.obT (.call (.ob (.ob (.ob (.ob (.rc))))))))
 (.brB
 (.obT (.obT (.obT (.call (.call (.obT (.ob (.ob (.call (.ob (.ob (.ob (.ob (.ob (.ob (.rc))))))))))))))))
 (.obT (.call (.call (.ob (.ob (.rc))))))))))))))))))))))))
def jsB (u20:ByteArray) (u12:List (List NC)) (u21:List Int) (u18:Int) (u11:List (List Nat)) (u15:List (List (List Int))) (u14:List (List Nat)) (u16:List Int) (i:Int) (u10:List (List Nat)) (u17:List (List (List Int))) (u13:List Int) (r:List (List Nat) × List (List (List Int)) × List Int) (h:zb (y70 u12 u11 u15 u14 u16 i u10 u17 u13) some=some r):runM [(7,110),(8,158),(9,3)] Tryz.f103 ((sp_144 (sp_145 (sp_147 (sp_143 (sp_148 (sp_146 sp0))))))) (fun gs id st=>match id with
 |2=>some ⟨(Int × List Int) × Nat,fun z=>⟨[(0,.w (.c (.p 10 0 1 0))),(1,.w (.c (.d (.i .i64 i)))),(6,.w (.c (.p 11 0 1 0))),(89,.w (.b 32 (.f .f32 (za u14 (zg (val (y20 u12 i))) [])))),(90,.w (.c (.d (.i .i64 z.1.1))))],[(7,.row 110 (.frs .f32 32 u10)),(8,.xrow 158 (XC.rr (4:Nat) (qw u17 i.toNat (NC.toRecs (qg [NC.r (Cont.recs (4:Nat) (val (jbd (za u15 i.toNat []))))] (NC.d (D.v z3))))))),(9,.row 3 (.ints .i64 u13)),(10,.ebox [.p 2 0 1 0,.d (.i .i64 u18),.o 3,.o 4,.o 5,.o 6,.o 7,.o 8,.o 9]),(11,.arr 206 32 (.i z.1.2)),(2,.ebox [.d (.s u20),.o 0,.o 1]),(3,.xext (XC.ff .f32 u11)),(4,.xext (XC.rr (4:Nat) u15)),(5,.ext (.frs .f32 32 u14)),(6,.ext (.ints .i64 u16)),(0,.xext (XC.st zS u12)),(1,.ext (.ints .i64 u21))],12⟩,fun z=>(jit u20 u12 u21 u18 u11 u15 u14 u16 i u10 u17 u13 r).inv z,fun z=>z.2⟩
 |_=>none) (jaC je1 [.d (.s u20),.x (.st zS u12),.r (.ints .i64 u21),.d (.i .i64 u18),.x (.ff .f32 u11),.x (.rr 4 u15),.r (.frs .f32 32 u14),.r (.ints .i64 u16),.d (.i .i64 i)]) [.r (.frs .f32 32 u10),.x (.rr 4 u17),.r (.ints .i64 u13)] [.r (.frs .f32 32 r.1),.x (.rr 4 r.2.1),.r (.ints .i64 r.2.2)] [] :=
 Sk.vc (jul u20 u12 u21 u18 u11 u15 u14 u16 i u10 u17 u13 r) (by kernel_rfl) h
def jsC:jaf Tryz.prog 103 false (jeq je1 [(7,110),(8,158),(9,3)] je2):=by
 refine jlg (sp:=(sp_144 (sp_145 (sp_147 (sp_143 (sp_148 (sp_146 sp0))))))) (fn:=Tryz.f103) (body:=bodyOf Tryz.f103) mixed (sp_144_ok (sp_145_ok (sp_147_ok (sp_143_ok (sp_148_ok (sp_146_ok jaj)))))) Tryz.func103 (by kernel_rfl) (by kernel_rfl) fun ls ms t h ho b hb=>?_;unfold je2 at h;split at h
 ·rename_i u20 u12 u21 u18 u11 u15 u14 u16 i u10 u17 u13;cases h;obtain rfl:=jap hb;exact⟨zh (by kernel_rfl),_,_,jsB u20 u12 u21 u18 u11 u15 u14 u16 i u10 u17 u13 _ (jai ho)⟩
 ·cases h
def sp_103_ok {sp:jaa} (h:jab Tryz.prog sp):jab Tryz.prog (sp_103 sp):=jag jsC h
attribute [irreducible] y70
end Go.Sh
end

section
namespace Go.Sh
open Go Go.Proofs Go.RowKit Go.Sx
open Go.IntKind (wrap)
def jGp {body:Int->Option (Int ⊕ (Unit ⊕ Unit))} (n:Nat) (hlen:n<9223372036854775807)
  (h:∀i,i<n->body (i:Int)=some (.inl ((i:Int)+1))∨body (i:Int)=some (.inr (.inl ()))) (h3:body (n:Int)=some (.inr (.inr ()))) :
  ∃b:Bool,jae body big 0=some (if b=true then .inl ()else .inr ()):=by
 classical
 refine⟨(zo n).any fun i=>decide (body (i:Int)=some (.inr (.inl ()))),?_⟩;exact jcZ n (fun i=>decide (body (i:Int)=some (.inr (.inl ())))) (.inl ()) (.inr ()) hlen (fun i hi hp=>of_decide_eq_true hp) (fun i hi hp=>(h i hi).resolve_right (of_decide_eq_false hp)) h3
def inB (n lo hi:Int):Bool:=decide (lo<=n)&&decide (n<=hi)
def ja2 (n lo hi:Int):y21 n lo hi=some (inB n lo hi):=by
 unfold y21 inB;split
 ·rename_i h;simp[h]
 ·rename_i h;simp[h]
def jce (n lo hi:Int):y47 n lo hi=some (inB n lo hi):=by
 unfold y47 inB;split
 ·rename_i h;simp[h]
 ·rename_i h;simp[h]
def jpO (n lo hi:Int):jdr n lo hi=some (inB n lo hi):=by
 unfold jdr inB;split
 ·rename_i h;simp[h]
 ·rename_i h;simp[h]
def jsD (n:Int):jea n 4000=some (inB n (-4000) 4000):=by
 unfold jea;rw[show wrap xu ((0:Int)-4000)=-4000 from by rw[jao (by omega)];rfl,jce];rfl
def jpP (b:Bool) (e:Int):jhc b e=some (if b=true then 0 else e):=by
 unfold jhc;cases b<;>rfl
def je3 (l:List Int) (n:Int) (hl:l.length<9223372036854775807):jfr l n=some (l.any (·== n)):=by
 unfold jfr;rw[jb2 l 0 (·== n) (.inl ()) (.inr ()) hl (fun i hi hp=>?_) (fun i hi hp=>?_) ?_]
 ·cases l.any (·== n)<;>rfl
 ·unfold jg9;simp only[zi];rw[if_neg (by omega)]
 ·unfold jg9;simp only[zi];rw[if_pos (by omega),if_pos (by omega),if_pos hi,if_pos hp]
 ·unfold jg9;simp only[zi];rw[if_pos (by omega),if_pos (by omega),if_pos hi,if_neg (by rw[hp];exact qx),jao (by omega)]
def jf5 (l:List Int) (hl:l.length<=100):jkU l=some l:=by
 unfold jkU;rw[if_pos (by omega)];rfl
def jH7:jiV=jqw:=rfl
set_option maxHeartbeats 4000000 in
def jGq (s:ByteArray) (hs:s.size<1000):∃b:Bool,jae (jqw s) big 0=some (if b=true then .inl ()else .inr ()):=by
 refine jGp s.size (by omega) (fun i hi=>?_) ?_
 ·unfold jqw;rw[if_pos (by omega),if_pos (by omega),jao (by omega)]
  repeat' (first|exact .inl rfl|exact .inr rfl|split)
 ·unfold jqw;rw[if_neg (by omega)]
def jA2 (s:ByteArray) (hs:s.size<1000):∃b:Bool,jhk s=some b∧jiW s=some b:=by
 obtain⟨b,hb⟩:=jGq s hs;unfold jhk jiW;rw[jH7,hb]
 have hne:(s != qD #[])=true<->1<=s.size:=by
  constructor
  ·intro h;refine Nat.pos_of_ne_zero fun h0=>?_
   have:s=qD #[]:=by
    cases s with
    |mk d =>
     have:d.size=0:=h0;rw[Array.eq_empty_of_size_eq_zero this]
   rw[this]at h;exact absurd h (by decide)
  ·intro h;cases hb:(s != qD #[])
   ·exfalso;have:(s==qD #[])=true:=by simpa [bne]using hb
    cases s with
    |mk d =>
     have h2:(d == #[])=true:=this;have e:d=#[]:=eq_of_beq h2;subst e;exact absurd h (by decide)
   ·rfl
 cases b with
 |true =>
  refine⟨false,rfl,?_⟩;split
  ·rfl
  ·split<;>rfl
 |false =>
  show ∃b,(if(s != qD #[])=true then some (decide ((s.size:Int)<=12))else some false)=some b∧_
  by_cases h1:1<=s.size
  ·rw[if_pos (hne.2 h1),if_neg (by omega)]
   by_cases h2:(s.size:Int)>12
   ·rw[if_pos h2];exact⟨false,by simp;omega,rfl⟩
   ·rw[if_neg h2];exact⟨true,by simp;omega,rfl⟩
  ·rw[if_neg (fun h=>h1 (hne.1 h)),if_pos (by omega)];exact⟨false,rfl,rfl⟩
end Go.Sh
end

section
namespace Go.Sh
open Go Go.Proofs Go.RowKit Go.Sx
def jdN (n:Nat) (l:List Int):Bool:=l.any fun x=>!inB x 0 ((n:Int)-1)
def jhz (l:List Int):Bool:=(zo l.length).any fun i=>(l.take i).any (·== l.getD i 0)
def jdc (r:List Int):Bool:=[r.getD 0 0,r.getD 1 0,r.getD 2 0,r.getD 3 0,r.getD 4 0].all Sx09.partB
def jbe (c:List (List Int)):Int:=if(c.length:Int)>6 then 8 else if c.any (fun r=>!jdc r)=true then 2 else 0
def exB (g:List (List NC)) (i:Nat):Bool:=(zo i).any fun k=>nS g k 0==nS g i 0
def jGr (l:List Int) (nm:ByteArray) (g:List (List NC)) (hl:l.length<1000) (hg:g.length<1000):y11 l nm g=some (jdN g.length l):=by
 have hb:∀x:Int,jqx x nm g=some (!inB x 0 ((g.length:Int)-1)):=fun x=>by
  unfold jqx jk4;rw[jao (by omega),jce];rfl
 unfold y11 y32;rw[jaQ l 0 (fun x=>!inB x 0 ((g.length:Int)-1)) (fun i=>.inl (i:Int)) (.inr ()) (by omega) (fun i hi hp=>?_) (fun i hi hp=>?_) ?_]
 ·unfold jdN;cases hf:l.findIdx? (fun x=>!inB x 0 ((g.length:Int)-1))with
  |none =>
   have:l.any (fun x=>!inB x 0 ((g.length:Int)-1))=false:=by
    rw[qt]at hf;rw[xx];intro x hx;simp[hf x hx]
   rw[this];rfl
  |some i =>
   have:l.any (fun x=>!inB x 0 ((g.length:Int)-1))=true:=by
    rw[qm]at hf;obtain⟨h,hp,_⟩:=hf;exact qM.2 ⟨_,zZ h,hp⟩
   rw[this]
   show some (decide ((i:Int)>=0))=some true
   simp
 ·unfold y34;simp only[zi];rw[if_neg (by omega)]
 ·unfold y34;simp only[zi];rw[if_pos (by omega),if_pos (by omega),if_pos hi,hb,jac,if_pos hp]
 ·unfold y34;simp only[zi];rw[if_pos (by omega),if_pos (by omega),if_pos hi,hb,jac,if_neg (by rw[hp];exact qx),jao (by omega)]
def jA3 (g:List (List NC)) {i k:Nat} (h:k<i) (j:Nat):nS (g.take i) k j=nS g k j:=by
 unfold nS;simp[za,List.getElem?_take,h]
def jCv (g:List (List NC)) (i:Nat) (hi0:i<g.length) (hg:g.length<1000) (a:Int) (b c d:List Int) (e:Int) (f:List (List Int)) (s:Int) :
  y6 (g.take i) (nS g i 0) a b c d e f s=some (exB g i):=by
 have hlen:(g.take i).length=i:=by simp;omega
 unfold y6 y16
 have key:=jaQ (body:=y9 (g.take i) (nS g i 0) a b c d e f s) (zo i) 0 (fun k=>nS g k 0==nS g i 0) (fun i=>.inl (i:Int)) (.inr ()) (by simp;omega) (fun k hk hp=>by
   have hk:k<i:=by simpa using hk
   have hr:(zo i).getD k 0=k:=by simp[za,hk]
   rw[hr]at hp;unfold y9;simp only[zi];rw[hlen,if_pos (by omega),if_pos (by omega),if_pos hk];unfold jqy;rw[jac,jA3 g hk,if_pos hp]) (fun k hk hp=>by
   have hk:k<i:=by simpa using hk
   have hr:(zo i).getD k 0=k:=by simp[za,hk]
   rw[hr]at hp;unfold y9;simp only[zi];rw[hlen,if_pos (by omega),if_pos (by omega),if_pos hk];unfold jqy;rw[jac,jA3 g hk,if_neg (by rw[hp];exact qx),jao (by omega)]) (by
   unfold y9;simp only[zi];rw[hlen,if_neg (by simp)])
 rw[key];unfold exB;cases hf:(zo i).findIdx? (fun k=>nS g k 0==nS g i 0)with
 |none =>
  have:(zo i).any (fun k=>nS g k 0==nS g i 0)=false:=by
   rw[qt]at hf;rw[xx];intro x hx;simp[hf x hx]
  rw[this];rfl
 |some m =>
  have:(zo i).any (fun k=>nS g k 0==nS g i 0)=true:=by
   rw[qm]at hf;obtain⟨h,hp,_⟩:=hf;exact qM.2 ⟨_,zZ h,hp⟩
  rw[this]
  show some (decide ((m:Int)>=0))=some true
  simp
def jnH (l:List Int) (v:Int) (hl:l.length<1000):y41 l v=some (l.any (·== v)):=by
 unfold y41 y37;rw[jaQ l 0 (fun x=>v==x) (fun i=>.inl (i:Int)) (.inr ()) (by omega) (fun i hi hp=>?_) (fun i hi hp=>?_) ?_]
 ·have hsym:l.any (·== v)=l.any (fun x=>v==x):=by
   congr 1
   funext x;exact Bool.beq_comm
  rw[hsym];cases hf:l.findIdx? (fun x=>v==x)with
  |none =>
   have:l.any (fun x=>v==x)=false:=by
    rw[qt]at hf;rw[xx];intro x hx;simp[hf x hx]
   rw[this];rfl
  |some i =>
   have:l.any (fun x=>v==x)=true:=by
    rw[qm]at hf;obtain⟨h,hp,_⟩:=hf;exact qM.2 ⟨_,zZ h,hp⟩
   rw[this]
   show some (decide ((i:Int)>=0))=some true
   simp
 ·unfold y22;simp only[zi];rw[if_neg (by omega)]
 ·unfold y22;simp only[zi];rw[if_pos (by omega),if_pos (by omega),if_pos hi,if_pos hp]
 ·unfold y22;simp only[zi];rw[if_pos (by omega),if_pos (by omega),if_pos hi,if_neg (by rw[hp];exact qx),jao (by omega)]
def jAb (l:List Int) (hl:l.length<1000):jm6 l=some (jhz l):=by
 unfold jm6
 have key:=jcZ (body:=jtU l) l.length (fun i=>(l.take i).any (·== l.getD i 0)) (.inl ()) (.inr ()) (by omega) (fun i hi hp=>by
   unfold jtU;simp only[zi];rw[if_pos (by omega),if_pos (by omega),if_pos hi,if_pos (by simp only[zM];omega)];simp only[zY,zi,jl,xU];rw[jnH _ _ (by simp;omega),jac,if_pos hp]) (fun i hi hp=>by
   unfold jtU;simp only[zi];rw[if_pos (by omega),if_pos (by omega),if_pos hi,if_pos (by simp only[zM];omega)];simp only[zY,zi,jl,xU];rw[jnH _ _ (by simp;omega),jac,if_neg (by rw[hp];exact qx),jao (by omega)]) (by
   unfold jtU;simp only[zi];rw[if_neg (by omega)])
 rw[key];unfold jhz;cases (zo l.length).any (fun i=>(l.take i).any (·== l.getD i 0))<;>rfl
def jcu (kd:Int) (al ga:List Int) (de:Int):Bool:=!(al.any fun x=>!inB x 0 64) && !(ga.any fun x=>!inB x (-4000) 4000)&&inB de 0 64&&(kd==2||de==0)
def jCw (nm:ByteArray) (kd:Int) (fr al ga:List Int) (de:Int) (ca:List (List Int)) (sd:Int) (ha:al.length<1000) (hg:ga.length<1000):jdq nm kd fr al ga de ca sd=some (jcu kd al ga de):=by
 have hr1:∀x:Int,jk5 x=some (inB x 0 64):=fun x=>by unfold jk5;rw[jce];rfl
 have kg:=jb2 (body:=jm9 ga) ga 0 (fun x=>!inB x (-4000) 4000) (.inl ()) (.inr ()) (by omega) (fun i hi hp=>by
   unfold jm9;simp only[zi];rw[if_pos (by omega),if_pos (by omega),if_pos hi,jsD,jac,if_pos hp]) (fun i hi hp=>by
   unfold jm9;simp only[zi];rw[if_pos (by omega),if_pos (by omega),if_pos hi,jsD,jac,if_neg (by rw[hp];exact qx),jao (by omega)]) (by
   unfold jm9;simp only[zi];rw[if_neg (by omega)])
 have ka:=jb2 (body:=jqz al) al 0 (fun x=>!inB x 0 64) (.inl ()) (.inr ()) (by omega) (fun i hi hp=>by
   unfold jqz;simp only[zi];rw[if_pos (by omega),if_pos (by omega),if_pos hi,hr1,jac,if_pos hp]) (fun i hi hp=>by
   unfold jqz;simp only[zi];rw[if_pos (by omega),if_pos (by omega),if_pos hi,hr1,jac,if_neg (by rw[hp];exact qx),jao (by omega)]) (by
   unfold jqz;simp only[zi];rw[if_neg (by omega)])
 unfold jdq jcu;rw[ka];cases al.any (fun x=>!inB x 0 64)with
 |true=>rfl
 |false =>
  show(jae (jm9 ga) big 0).bind (jfs kd de)=_
  rw[kg];cases ga.any (fun x=>!inB x (-4000) 4000)with
  |true=>rfl
  |false =>
   show(jk5 de).bind _=_
   rw[hr1,jac];cases inB de 0 64 with
   |false=>rfl
   |true=>cases hk:(kd==2)<;>simp
def jjj {α:Type} (l:List α) (P:α->Bool):(l.findIdx? P).isSome=l.any P:=by
 induction l with
 |nil=>rfl
 |cons x r ih =>
  rw[xL,jx];cases P x with
  |true=>rfl
  |false=>simp[ih]
def jA4 (r:List Int):y72 (r.getD 0 0) (r.getD 1 0) (r.getD 2 0) (r.getD 3 0) (r.getD 4 0)=some (if jdc r=true then 0 else 2):=by
 unfold y72
 have key:=jb2 (body:=y63 (r.getD 0 0) (r.getD 1 0) (r.getD 2 0) (r.getD 3 0) (r.getD 4 0)) [r.getD 0 0,r.getD 1 0,r.getD 2 0,r.getD 3 0,r.getD 4 0] 0 (fun x=>!inB x (-32768) 32768) (.inl ()) (.inr ()) (by simp) (fun i hi hp=>by
   unfold y63;simp only[zi];rw[if_pos (by omega),if_pos (by omega),if_pos hi,ja2,jac,if_pos hp]) (fun i hi hp=>by
   unfold y63;simp only[zi];have hi5:i<5:=hi;rw[if_pos (by omega),if_pos (by omega),if_pos hi,ja2,jac,if_neg (by rw[hp];exact qx),jao (by omega)]) (by
   unfold y63;simp only[zi];rw[if_neg (by omega)])
 rw[key]
 have e:([r.getD 0 0,r.getD 1 0,r.getD 2 0,r.getD 3 0,r.getD 4 0].any fun x=>!inB x (-32768) 32768)=!jdc r:=by
  unfold jdc;rw[List.all_eq_not_any_not];simp only[Bool.not_not];rfl
 rw[e];cases jdc r<;>rfl
def jGs (c:List (List Int)) (hc:c.length<1000):(y36 c).bind (fun r=>some r.2)=some (jbe c):=by
 unfold y36 jbe;split
 ·rfl
 ·have key:=jaQ (body:=y64 c) c [] (fun r=>!jdc r) (fun i=>.inl ((i:Int),2)) (.inr ()) (by omega) (fun i hi hp=>by
    unfold y64;simp only[zi];have hp:jdc (c.getD i [])=false:=by simpa using hp
    rw[if_pos (by omega),if_pos (by omega),if_pos hi,jA4,hp,jac];rfl) (fun i hi hp=>by
    unfold y64;simp only[zi];have hp:jdc (c.getD i [])=true:=by simpa using hp
    rw[if_pos (by omega),if_pos (by omega),if_pos hi,jA4,hp,jac,jao (by omega)];rfl) (by
    unfold y64;simp only[zi];rw[if_neg (by omega)])
  rw[key,<-jjj];cases c.findIdx? (fun r=>!jdc r)<;>rfl
def jfv (c:List (List Int)) (hc:c.length<1000):y39 c=some (jbe c):=by
 unfold y39 jqA jbe;split
 ·rfl
 ·have key:=jaQ (body:=y91 c) c [] (fun r=>!jdc r) (fun i=>.inl ((i:Int),2)) (.inr ()) (by omega) (fun i hi hp=>by
    unfold y91;simp only[zi];have hp:jdc (c.getD i [])=false:=by simpa using hp
    have hs:Sx09.chkS ((c.getD i []).getD 0 0) ((c.getD i []).getD 1 0) ((c.getD i []).getD 2 0) ((c.getD i []).getD 3 0) ((c.getD i []).getD 4 0)=2:=by
     unfold Sx09.chkS;unfold jdc at hp;rw[if_neg (by rw[hp];exact qx)]
    rw[if_pos (by omega),if_pos (by omega),if_pos hi,hs];rfl) (fun i hi hp=>by
    unfold y91;simp only[zi];have hp:jdc (c.getD i [])=true:=by simpa using hp
    have hs:Sx09.chkS ((c.getD i []).getD 0 0) ((c.getD i []).getD 1 0) ((c.getD i []).getD 2 0) ((c.getD i []).getD 3 0) ((c.getD i []).getD 4 0)=0:=by
     unfold Sx09.chkS;unfold jdc at hp;rw[if_pos hp]
    rw[if_pos (by omega),if_pos (by omega),if_pos hi,hs,jao (by omega)];rfl) (by
    unfold y91;simp only[zi];rw[if_neg (by omega)])
  rw[key,<-jjj];cases c.findIdx? (fun r=>!jdc r)<;>rfl
def jGt (c:List (List Int)) (hc:c.length<1000):(y25 c).bind (fun r=>some r.2)=some (jbe c):=by
 have h1:=jfv c hc;unfold y25;rw[h1,jac];cases hz:(jbe c != 0)with
 |true=>rfl
 |false =>
  have h0:jbe c=0:=by simpa using hz
  rw[if_neg (by simp),if_pos (by omega),h0];rfl
def jer (s:ByteArray):Bool:=(jiW s).getD false
def jyz {s:ByteArray} (hs:s.size<1000):jiW s=some (jer s):=by
 obtain⟨b,_,h2⟩:=jA2 s hs;unfold jer;rw[h2];rfl
def jyA {s:ByteArray} (hs:s.size<1000):jhk s=some (jer s):=by
 obtain⟨b,h1,h2⟩:=jA2 s hs;unfold jer;rw[h1,h2];rfl
def jdX (kd:Int) (f a g:Nat):Bool :=
 if(kd==0)=true then inB (f:Int) 0 0&&((a:Int)==(f:Int))&&((g:Int)==0)
 else if(kd==1)=true then inB (f:Int) 1 6&&((a:Int)==(f:Int))&&((g:Int)==(f:Int))
 else inB (f:Int) 1 1&&((a:Int)==(f:Int))&&((g:Int)==0)
def jCx (nm:ByteArray) (kd:Int) (fr al ga:List Int) (de:Int) (ca:List (List Int)) (sd:Int):jc0 nm kd fr al ga de ca sd=some (jdX kd fr.length al.length ga.length):=by
 unfold jc0 jdX;simp only[jce,jac]
 generalize (kd==0)=k0
 generalize (kd==1)=k1
 generalize inB (fr.length:Int) 0 0=c1
 generalize inB (fr.length:Int) 1 6=c2
 generalize inB (fr.length:Int) 1 1=c3
 generalize ((al.length:Int)==(fr.length:Int))=c4
 cases k0<;>cases k1<;>cases c1<;>cases c2<;>cases c3<;>cases c4<;>rfl
def jnI:ByteArray:=qD #[115,116,97,110,100]
def sdB (n:Nat) (s:Int):Bool:=s == -1||inB s 0 ((n:Int)-1)
def jbm (g:List (List NC)) (i:Nat):Int :=
 if(!jer (nS g i 0))=true then 4
 else if(nS g i 0==jnI)=true then 4
 else if exB g i=true then 5
 else if(!inB (nI g i 1) 0 4)=true then 15
 else if(!jdX (nI g i 1) (nL g i 2).length (nL g i 3).length (nL g i 4).length)=true then 10
 else if jdN g.length (nL g i 2)=true then 6
 else if(!sdB g.length (nI g i 7))=true then 6
 else if jhz (nL g i 2)=true then 26
 else if(!jcu (nI g i 1) (nL g i 3) (nL g i 4) (nI g i 5))=true then 2
 else if(nI g i 1==3)=true then jbe (nR g i 6)
 else if(((nR g i 6).length:Int)==0)=true then 0 else 10
structure Fw (g:List (List NC)):Prop where
 n:g.length<1000
 nm:∀i,i<g.length->(nS g i 0).size<1000
 fr:∀i,i<g.length->(nL g i 2).length<100
 al:∀i,i<g.length->(nL g i 3).length<100
 ga:∀i,i<g.length->(nL g i 4).length<100
 ca:∀i,i<g.length->(nR g i 6).length<100
set_option maxHeartbeats 2000000 in
def jyB {g:List (List NC)} (hw:Fw g) (nm:ByteArray) {i:Nat} (hi:i<g.length):jds nm g (i:Int)=some (jbm g i):=by
 have hn:=hw.n;have h1:=hw.nm i hi;have h2:=hw.fr i hi;have h3:=hw.al i hi;have h4:=hw.ga i hi;have h5:=hw.ca i hi
 have hst:jk4 (nI g i 7) nm g=some (inB (nI g i 7) 0 ((g.length:Int)-1)):=by
  unfold jk4;rw[jao (by omega),jce];rfl
 unfold jds;rw[if_pos (by omega),if_pos (by simpa using hi)];simp only[zi,zY,yP,jl,xU];rw[hst,jGr _ nm g (by omega) hn,jyA h1];simp only[jac,jce,jCx,jpP];rw[jCv g i hi hn,jAb _ (by omega),jCw _ _ _ _ _ _ _ _ (by omega) (by omega),jGt _ (by omega)];simp only[jac];have hb:(0:Int)<=0∧(0:Int)<=(i:Int)∧(i:Int)<=(g.length:Int):=by omega
 simp only[if_pos hb];unfold jbm sdB;rw[show(qD #[115,116,97,110,100])=jnI from rfl];rw[show(nI g i 1 != 3)=!(nI g i 1==3)from rfl,show(nI g i 7 != -1)=!(nI g i 7 == -1)from rfl]
 generalize jer (nS g i 0)=b1
 generalize (nS g i 0==jnI)=b2
 generalize exB g i=b3
 generalize inB (nI g i 1) 0 4=b4
 generalize jdX (nI g i 1) (nL g i 2).length (nL g i 3).length (nL g i 4).length=b5
 generalize jdN g.length (nL g i 2)=b6
 generalize inB (nI g i 7) 0 ((g.length:Int)-1)=b7
 generalize (nI g i 7 == -1)=b8
 generalize jhz (nL g i 2)=b9
 generalize jcu (nI g i 1) (nL g i 3) (nL g i 4) (nI g i 5)=b10
 generalize (nI g i 1==3)=b11
 generalize (((nR g i 6).length:Int)==0)=b12
 generalize jbe (nR g i 6)=ce
 cases b7<;>cases b8<;>(cases b1;rfl;cases b2<;>try rfl)<;>(cases b3<;>try rfl)<;>(cases b4;rfl;cases b5;rfl;cases b6<;>try rfl)<;>(cases b9<;>try rfl)<;>(cases b10;rfl;cases b11<;>cases b12<;>rfl)
def jCy (x y z:Bool) (r:Int):(if(!x)=true then some (10:Int)else if(!y)=true then some 10 else if(!z)=true then some 10 else some r)=some (if(!(x&&y&&z))=true then 10 else r):=by
 cases x<;>cases y<;>cases z<;>rfl
set_option maxHeartbeats 4000000 in
def jyC {g:List (List NC)} (hw:Fw g) (nm:ByteArray) {i:Nat} (hi:i<g.length):jqs nm g (i:Int)=some (jbm g i):=by
 have hn:=hw.n;have h1:=hw.nm i hi;have h2:=hw.fr i hi;have h3:=hw.al i hi;have h4:=hw.ga i hi;have h5:=hw.ca i hi
 have k0:=jcZ (body:=jtz g (i:Int)) i (fun k=>nS g k 0==nS g i 0) (.inl ()) (.inr ()) (by omega) (fun k hk hp=>by
   unfold jtz;simp only[zi];rw[if_pos (by omega),if_pos (by omega),if_pos (by omega),if_pos hp]) (fun k hk hp=>by
   unfold jtz;simp only[zi];rw[if_pos (by omega),if_pos (by omega),if_pos (by omega),if_neg (by rw[hp];exact qx),jao (by omega)]) (by
   unfold jtz;simp only[zi];rw[if_neg (by omega)])
 have k1:=jb2 (body:=y13 g (i:Int)) (nL g i 2) 0 (fun x=>!inB x 0 ((g.length:Int)-1)) (.inl ()) (.inr ()) (by omega) (fun k hk hp=>by
   unfold y13;simp only[zi];rw[if_pos (by omega),if_pos (by omega),if_pos hk,jao (by omega),ja2,jac,if_pos hp]) (fun k hk hp=>by
   unfold y13;simp only[zi];rw[if_pos (by omega),if_pos (by omega),if_pos hk,jao (x:=(g.length:Int)-1) (by omega),ja2,jac,if_neg (by rw[hp];exact qx),jao (by omega)]) (by
   unfold y13;simp only[zi];rw[if_neg (by omega)])
 have k2:=jcZ (body:=jqn g (i:Int)) (nL g i 2).length (fun k=>((nL g i 2).take k).any (·== (nL g i 2).getD k 0)) (.inl ()) (.inr ()) (by omega) (fun k hk hp=>by
   unfold jqn;simp only[zi];rw[if_pos (by omega),if_pos (by simp only[zM];omega),if_pos (by omega),if_pos hk];simp only[zY,zi,jl,xU];rw[je3 _ _ (by simp;omega),jac,if_pos hp]) (fun k hk hp=>by
   unfold jqn;simp only[zi];rw[if_pos (by omega),if_pos (by simp only[zM];omega),if_pos (by omega),if_pos hk];simp only[zY,zi,jl,xU];rw[je3 _ _ (by simp;omega),jac,if_neg (by rw[hp];exact qx),jao (by omega)]) (by
   unfold jqn;simp only[zi];rw[if_neg (by omega)])
 have k3:=jb2 (body:=jtA g (i:Int)) (nL g i 3) 0 (fun x=>!inB x 0 64) (.inl ()) (.inr ()) (by omega) (fun k hk hp=>by
   unfold jtA;simp only[zi];rw[if_pos (by omega),if_pos (by omega),if_pos hk,ja2,jac,if_pos hp]) (fun k hk hp=>by
   unfold jtA;simp only[zi];rw[if_pos (by omega),if_pos (by omega),if_pos hk,ja2,jac,if_neg (by rw[hp];exact qx),jao (by omega)]) (by
   unfold jtA;simp only[zi];rw[if_neg (by omega)])
 have k4:=jb2 (body:=jqq g (i:Int)) (nL g i 4) 0 (fun x=>!inB x (-4000) 4000) (.inl ()) (.inr ()) (by omega) (fun k hk hp=>by
   unfold jqq;simp only[zi];rw[if_pos (by omega),if_pos (by omega),if_pos hk,ja2,jac,if_pos hp]) (fun k hk hp=>by
   unfold jqq;simp only[zi];rw[if_pos (by omega),if_pos (by omega),if_pos hk,ja2,jac,if_neg (by rw[hp];exact qx),jao (by omega)]) (by
   unfold jqq;simp only[zi];rw[if_neg (by omega)])
 have t4:y252 g (i:Int) ()=some (if(!inB (nI g i 5) 0 64)=true then 2 else if(!(nI g i 1==2||nI g i 5==0))=true then 2 else if(nI g i 1==3)=true then jbe (nR g i 6)else if(((nR g i 6).length:Int)==0)=true then 0 else 10):=by
  unfold y252;simp only[zi];rw[jGs _ (by omega),ja2,jac,show(nI g i 1 != 3)=!(nI g i 1==3)from rfl,show(nI g i 1 != 2)=!(nI g i 1==2)from rfl,show(nI g i 5 != 0)=!(nI g i 5==0)from rfl]
  have hz:(if((nR g i 6).length:Int)>0 then some (10:Int)else some 0)=some (if(((nR g i 6).length:Int)==0)=true then 0 else 10):=by
   by_cases h:(nR g i 6).length=0
   ·rw[if_neg (by omega),if_pos (by simp[h])]
   ·rw[if_pos (by omega),if_neg (by simpa using h)]
  rw[hz]
  generalize inB (nI g i 5) 0 64=c1
  generalize (nI g i 1==2)=c2
  generalize (nI g i 5==0)=c3
  generalize (nI g i 1==3)=c4
  cases c1<;>cases c2<;>cases c3<;>cases c4<;>rfl
 have t3:y253 g (i:Int) ()=some (if((nL g i 4).any fun x=>!inB x (-4000) 4000)=true then 2 else if(!inB (nI g i 5) 0 64)=true then 2 else if(!(nI g i 1==2||nI g i 5==0))=true then 2 else if(nI g i 1==3)=true then jbe (nR g i 6)else if(((nR g i 6).length:Int)==0)=true then 0 else 10):=by
  unfold y253;rw[k4,jac];cases (nL g i 4).any (fun x=>!inB x (-4000) 4000)with
  |true=>rfl
  |false=>exact t4
 have t2:y254 g (i:Int) ()=some (if(!jcu (nI g i 1) (nL g i 3) (nL g i 4) (nI g i 5))=true then 2 else if(nI g i 1==3)=true then jbe (nR g i 6)else if(((nR g i 6).length:Int)==0)=true then 0 else 10):=by
  unfold y254 jcu;rw[k3,jac]
  generalize hA:(nL g i 3).any (fun x=>!inB x 0 64)=bA
  cases bA with
  |true=>rfl
  |false =>
   refine t3.trans ?_
   generalize (nL g i 4).any (fun x=>!inB x (-4000) 4000)=bG
   generalize inB (nI g i 5) 0 64=c1
   generalize (nI g i 1==2||nI g i 5==0)=c2
   cases bG<;>cases c1<;>cases c2<;>rfl
 have t1:y255 g (i:Int) ()=some (if(!inB (nI g i 7) (-1) ((g.length:Int)-1))=true then 6 else if jhz (nL g i 2)=true then 26 else if(!jcu (nI g i 1) (nL g i 3) (nL g i 4) (nI g i 5))=true then 2 else if(nI g i 1==3)=true then jbe (nR g i 6)else if(((nR g i 6).length:Int)==0)=true then 0 else 10):=by
  unfold y255;simp only[zi];rw[jao (by omega),ja2,jac,k2,jac];cases inB (nI g i 7) (-1) ((g.length:Int)-1)with
  |false=>rfl
  |true =>
   show y228 g (i:Int) (if jhz (nL g i 2)=true then .inl ()else .inr ())=_
   cases jhz (nL g i 2)with
   |true=>rfl
   |false=>exact t2
 have hsd:inB (nI g i 7) (-1) ((g.length:Int)-1)=sdB g.length (nI g i 7):=by
  unfold sdB inB;have:((nI g i 7)==(-1:Int))=decide (nI g i 7=-1):=rfl;rw[this]
  by_cases h:nI g i 7=-1
  ·simp[h];omega
  ·have e:decide ((-1:Int)<=nI g i 7)=decide ((0:Int)<=nI g i 7):=by
    congr 1
    exact propext ⟨fun _=>by omega,fun _=>by omega⟩
   rw[e];simp[h]
 rw[hsd]at t1
 have t1':((some (if jdN g.length (nL g i 2)=true then Sum.inl ()else Sum.inr ()):Option (Unit ⊕ Unit)).bind (y31 g (i:Int)))=some (if jdN g.length (nL g i 2)=true then 6 else if(!sdB g.length (nI g i 7))=true then 6 else if jhz (nL g i 2)=true then 26 else if(!jcu (nI g i 1) (nL g i 3) (nL g i 4) (nI g i 5))=true then 2 else if(nI g i 1==3)=true then jbe (nR g i 6)else if(((nR g i 6).length:Int)==0)=true then 0 else 10):=by
  rw[jac];cases jdN g.length (nL g i 2)with
  |true=>rfl
  |false=>exact t1
 have k1:jae (y13 g (i:Int)) big 0=some (if jdN g.length (nL g i 2)=true then .inl ()else .inr ()):=k1
 have t0:y178 g (i:Int) ()=some (if(!inB (nI g i 1) 0 4)=true then 15 else if(!jdX (nI g i 1) (nL g i 2).length (nL g i 3).length (nL g i 4).length)=true then 10 else if jdN g.length (nL g i 2)=true then 6 else if(!sdB g.length (nI g i 7))=true then 6 else if jhz (nL g i 2)=true then 26 else if(!jcu (nI g i 1) (nL g i 3) (nL g i 4) (nI g i 5))=true then 2 else if(nI g i 1==3)=true then jbe (nR g i 6)else if(((nR g i 6).length:Int)==0)=true then 0 else 10):=by
  unfold y178;simp only[zi];rw[k1,t1'];simp only[ja2,jac]
  generalize (if jdN g.length (nL g i 2)=true then(6:Int)else if(!sdB g.length (nI g i 7))=true then 6 else if jhz (nL g i 2)=true then 26 else if(!jcu (nI g i 1) (nL g i 3) (nL g i 4) (nI g i 5))=true then 2 else if(nI g i 1==3)=true then jbe (nR g i 6)else if(((nR g i 6).length:Int)==0)=true then 0 else 10)=rest
  by_cases h0:(!inB (nI g i 1) 0 4)=true
  ·rw[if_pos h0,if_pos h0]
  ·rw[if_neg h0,if_neg h0]
   by_cases hk:nI g i 1=0
   ·have e0:(nI g i 1==0)=true:=by simp[hk]
    have e1:¬(nI g i 1==1)=true:=by simp[hk]
    rw[if_pos e0,if_neg e1,if_neg e1]
    have hs:jdX (nI g i 1) (nL g i 2).length (nL g i 3).length (nL g i 4).length=(inB ((nL g i 2).length:Int) 0 0&&(((nL g i 3).length:Int)==((nL g i 2).length:Int))&&(((nL g i 4).length:Int)==0)):=by
     unfold jdX;rw[if_pos e0]
    rw[hs];exact jCy _ _ _ _
   ·have e0:¬(nI g i 1==0)=true:=by simpa using hk
    rw[if_neg e0]
    by_cases hk1:(nI g i 1==1)=true
    ·rw[if_pos hk1,if_pos hk1]
     have hs:jdX (nI g i 1) (nL g i 2).length (nL g i 3).length (nL g i 4).length=(inB ((nL g i 2).length:Int) 1 6&&(((nL g i 3).length:Int)==((nL g i 2).length:Int))&&(((nL g i 4).length:Int)==((nL g i 2).length:Int))):=by
      unfold jdX;rw[if_neg e0,if_pos hk1]
     rw[hs];exact jCy _ _ _ _
    ·rw[if_neg hk1,if_neg hk1]
     have hs:jdX (nI g i 1) (nL g i 2).length (nL g i 3).length (nL g i 4).length=(inB ((nL g i 2).length:Int) 1 1&&(((nL g i 3).length:Int)==((nL g i 2).length:Int))&&(((nL g i 4).length:Int)==0)):=by
      unfold jdX;rw[if_neg e0,if_neg hk1]
     rw[hs];exact jCy _ _ _ _
 unfold jqs;rw[if_pos (by omega),if_pos (by simpa using hi)];simp only[zi];rw[jyz h1,jac,k0,jac];unfold jbm;rw[show(qD #[115,116,97,110,100])=jnI from rfl];cases jer (nS g i 0)with
 |false=>rfl
 |true =>
  have ht:¬((!true)=true):=by simp
  by_cases hs:(nS g i 0==jnI)=true
  ·rw[if_neg ht,if_pos hs,if_neg ht,if_pos hs]
  ·rw[if_neg ht,if_neg hs,if_neg ht,if_neg hs]
   show jeK g (i:Int) (if exB g i=true then .inl ()else .inr ())=_
   cases exB g i with
   |true=>rfl
   |false=>exact t0
def cg (nm:ByteArray) (g:List (List NC)):Int × Int :=
 if(!jer nm)=true then(0,4)
 else if(g.length:Int)>24 then(0,8)
 else match(zo g.length).findIdx? (fun i=>jbm g i != 0)with
  |some i=>((i:Int),jbm g i)
  |none=>(0,0)
def jD1 (a b:Int):jeN [a,b]=some (if(a != 0)=true then a else b):=by
 unfold jeN
 have key:=jaQ (body:=jtN [a,b]) [a,b] 0 (fun x=>x != 0) (fun i=>.inl ([a,b].getD i 0)) (.inr ()) (by simp) (fun i hi hp=>by
   unfold jtN;simp only[zi];rw[if_pos (by omega),if_pos (by omega),if_pos hi,if_pos hp]) (fun i hi hp=>by
   unfold jtN;simp only[zi];have hi2:i<2:=hi;rw[if_pos (by omega),if_pos (by omega),if_pos hi,if_neg (by rw[hp];exact qx),jao (by omega)]) (by
   unfold jtN;simp only[zi];rw[if_neg (by omega)])
 rw[key];cases ha:(a != 0)with
 |true=>simp[xL,ha];rfl
 |false =>
  cases hb:(b != 0)with
  |true=>simp[xL,ha,hb];rfl
  |false =>
   have:b=0:=by simpa using hb
   simp[xL,ha,hb,this];rfl
def jsE {n:Nat} {P:Nat->Bool} {i:Nat} (h:(zo n).findIdx? P=some i):i<n:=by
 rw[qm]at h;obtain⟨h,_⟩:=h;simpa using h
def jvw {g:List (List NC)} (hw:Fw g) {nm:ByteArray} (hs:nm.size<1000):y67 nm g=some (cg nm g):=by
 have hn:=hw.n;unfold y67 cg;rw[jyA hs];simp only[jac,jpP];rw[jD1,jac];cases jer nm with
 |false=>rfl
 |true =>
  by_cases h24:(g.length:Int)>24
  ·rw[if_neg (by simp:¬(!true)=true),if_pos h24];have e:decide ((g.length:Int)<=24)=false:=by simp;omega
   rw[e];rfl
  ·rw[if_neg (by simp:¬(!true)=true),if_neg h24];have e:decide ((g.length:Int)<=24)=true:=by simp;omega
   rw[e]
   show zb (jae (y84 nm g) big 0) y274=_
   have key:=jaQ (body:=y84 nm g) (zo g.length) 0 (fun i=>jbm g i != 0) (fun i=>.inl ((i:Int),jbm g i)) (.inr ()) (by simp;omega) (fun i hi hp=>by
     have hi:i<g.length:=by simpa using hi
     have hr:(zo g.length).getD i 0=i:=by simp[za,hi]
     rw[hr]at hp;unfold y84;rw[if_pos (by omega),jyB hw nm hi,jac,if_pos hp]) (fun i hi hp=>by
     have hi:i<g.length:=by simpa using hi
     have hr:(zo g.length).getD i 0=i:=by simp[za,hi]
     rw[hr]at hp;unfold y84;rw[if_pos (by omega),jyB hw nm hi,jac,if_neg (by rw[hp];exact qx),jao (by omega)]) (by
     unfold y84;rw[if_neg (by simp)])
   rw[key];cases (zo g.length).findIdx? (fun i=>jbm g i != 0)<;>rfl
def jD2 {g:List (List NC)} (hw:Fw g) {nm:ByteArray} (hs:nm.size<1000):y77 nm g=some (cg nm g):=by
 have hn:=hw.n;unfold y77 cg;rw[jyz hs,jac];cases jer nm with
 |false=>rfl
 |true =>
  have ht:¬((!true)=true):=by simp
  rw[if_neg ht,if_neg ht]
  by_cases h24:(g.length:Int)>24
  ·rw[if_pos h24,if_pos h24]
  ·rw[if_neg h24,if_neg h24]
   have key:=jaQ (body:=y90 nm g) (zo g.length) 0 (fun i=>jbm g i != 0) (fun i=>.inl ((i:Int),jbm g i)) (.inr ()) (by simp;omega) (fun i hi hp=>by
     have hi:i<g.length:=by simpa using hi
     have hr:(zo g.length).getD i 0=i:=by simp[za,hi]
     rw[hr]at hp;unfold y90;rw[if_pos (by omega),jyC hw nm hi,jac,if_pos hp]) (fun i hi hp=>by
     have hi:i<g.length:=by simpa using hi
     have hr:(zo g.length).getD i 0=i:=by simp[za,hi]
     rw[hr]at hp;unfold y90;rw[if_pos (by omega),jyC hw nm hi,jac,if_neg (by rw[hp];exact qx),jao (by omega)]) (by
     unfold y90;rw[if_neg (by simp)])
   rw[key];cases (zo g.length).findIdx? (fun i=>jbm g i != 0)<;>rfl
def rowU (g:List (List NC)) (i:Nat):List NC:=[.d (.s (nS g i 0)),.d (.i .i64 (nI g i 1)),.r (.ints .i64 (nL g i 2)),.r (.ints .i64 (nL g i 3)),.r (.ints .i64 (nL g i 4)),.d (.i .i64 (nI g i 5)),.r (.recs 5 (nR g i 6)),.d (.i .i64 (nI g i 7))]
def cpU (g:List (List NC)):List (List NC):=(zo g.length).map (rowU g)
def jH8 {g:List (List NC)} (hw:Fw g) (nm:ByteArray):y27 nm g=some (nm,cpU g):=by
 have hn:=hw.n;unfold y27
 have key:=jaJ (body:=jty g) (fun k=>((k:Int),(zo k).map (rowU g))) (y:=cpU g) (k:=g.length) (fun i hi=>by
   have h2:=hw.fr i hi;have h3:=hw.al i hi;have h4:=hw.ga i hi;have h5:=hw.ca i hi;unfold jty;simp only[zi];rw[if_pos (by omega),if_pos (by omega),if_pos hi,jf5 _ (by omega),jf5 _ (by omega),jf5 _ (by omega)];simp only[jac];rw[if_pos (by omega),if_pos (by simp only[qk,yq,zA,qi];omega),jao (by omega),ye,qQ];rfl) (by
   unfold jty;rw[if_neg (by simp)];rfl) (by omega)
 have key:jae (jty g) big ((0:Int),[])=some (cpU g):=key;rw[key];rfl
def jdH (g:List (List NC)):(cpU g).length=g.length:=by simp[cpU]
def jfI {g:List (List NC)} {i:Nat} (hi:i<g.length):(cpU g).getD i []=rowU g i:=by simp[cpU,za,hi]
def cp_S {g:List (List NC)} {i:Nat} (hi:i<g.length):nS (cpU g) i 0=nS g i 0:=by
 show NC.toS (((cpU g).getD i []).getD 0 _)=_
 rw[jfI hi];rfl
def cp_I {g:List (List NC)} {i:Nat} (hi:i<g.length):nI (cpU g) i 1=nI g i 1∧nI (cpU g) i 5=nI g i 5∧nI (cpU g) i 7=nI g i 7:=by
 refine⟨?_,?_,?_⟩
 ·show NC.toI (((cpU g).getD i []).getD 1 _)=_
  rw[jfI hi];rfl
 ·show NC.toI (((cpU g).getD i []).getD 5 _)=_
  rw[jfI hi];rfl
 ·show NC.toI (((cpU g).getD i []).getD 7 _)=_
  rw[jfI hi];rfl
def jqR {g:List (List NC)} {i:Nat} (hi:i<g.length):nL (cpU g) i 2=nL g i 2∧nL (cpU g) i 3=nL g i 3∧nL (cpU g) i 4=nL g i 4:=by
 refine⟨?_,?_,?_⟩
 ·show NC.toInts (((cpU g).getD i []).getD 2 _)=_
  rw[jfI hi];rfl
 ·show NC.toInts (((cpU g).getD i []).getD 3 _)=_
  rw[jfI hi];rfl
 ·show NC.toInts (((cpU g).getD i []).getD 4 _)=_
  rw[jfI hi];rfl
def cp_R {g:List (List NC)} {i:Nat} (hi:i<g.length):nR (cpU g) i 6=nR g i 6:=by
 show NC.toRecs (((cpU g).getD i []).getD 6 _)=_
 rw[jfI hi];rfl
def cp_fw {g:List (List NC)} (hw:Fw g):Fw (cpU g):=by
 constructor
 ·rw[jdH];exact hw.n
 all_goals intro i hi;rw[jdH]at hi
 ·rw[cp_S hi];exact hw.nm i hi
 ·rw[(jqR hi).1];exact hw.fr i hi
 ·rw[(jqR hi).2.1];exact hw.al i hi
 ·rw[(jqR hi).2.2];exact hw.ga i hi
 ·rw[cp_R hi];exact hw.ca i hi
def jD3 {g:List (List NC)} {i:Nat} (hi:i<g.length):jbm (cpU g) i=jbm g i:=by
 have hex:exB (cpU g) i=exB g i:=by
  unfold exB;rw[cp_S hi]
  have:∀l:List Nat,(∀k∈l,k<i)->(l.any fun k=>nS (cpU g) k 0==nS g i 0)=l.any fun k=>nS g k 0==nS g i 0:=by
   intro l
   induction l with
   |nil=>intro _;rfl
   |cons x r ih =>
    intro h;have hx:=h x zw;rw[jx,jx,cp_S (by omega),ih fun k hk=>h k (zu _ hk)]
  exact this _ fun k hk=>qJ.1 hk
 unfold jbm;rw[cp_S hi,hex,(cp_I hi).1,(cp_I hi).2.1,(cp_I hi).2.2,(jqR hi).1,(jqR hi).2.1,(jqR hi).2.2,cp_R hi,jdH]
def cgM (e:Nat->Int) (o:Option Nat):Int × Int:=match o with
 |some i=>((i:Int),e i)
 |none=>(0,0)
def cgF (b:Bool) (n:Nat) (e:Nat->Int):Int × Int:=if(!b)=true then(0,4)else if(n:Int)>24 then(0,8)else cgM e ((zo n).findIdx? fun i=>e i != 0)
def jCB (e e':Nat->Int) (n:Nat) (hn:∀i,i<n->e i=e' i) (l:List Nat):(∀i∈l,i<n)->l.findIdx? (fun i=>e i != 0)=l.findIdx? (fun i=>e' i != 0):=by
 induction l with
 |nil=>intro _;rfl
 |cons x r ih =>
  intro h;rw[xL,xL,hn x (h x zw),ih fun i hi=>h i (zu _ hi)]
def jD4 (b:Bool) (n:Nat) (e e':Nat->Int) (hn:∀i,i<n->e i=e' i):cgF b n e=cgF b n e':=by
 unfold cgF;rw[jCB e e' n hn _ fun i hi=>qJ.1 hi]
 have hm:cgM e ((zo n).findIdx? fun i=>e' i != 0)=cgM e' ((zo n).findIdx? fun i=>e' i != 0):=by
  cases h:(zo n).findIdx? (fun i=>e' i != 0)with
  |none=>rfl
  |some i =>
   show((i:Int),e i)=((i:Int),e' i)
   rw[hn i (jsE h)]
 rw[hm]
def jyD (nm:ByteArray) (g:List (List NC)):cg nm g=cgF (jer nm) g.length (jbm g):=by
 unfold cg cgF cgM;rfl
def cp_cg (nm:ByteArray) (g:List (List NC)):cg nm (cpU g)=cg nm g:=by
 rw[jyD,jyD,jdH];exact jD4 _ _ _ _ fun i hi=>jD3 hi
def jD5 (nm:ByteArray) (g:List (List NC)):jeb nm g=some false∨(jeb nm g=some true∧Fw g∧nm.size<1000):=by
 unfold jeb
 by_cases h0:((nm.size:Nat):Int)>20
 ·rw[if_pos h0];exact .inl rfl
 rw[if_neg h0]
 have loop:g.length<=26->(zb (jae (jk0 g) big 0) jeo=some false∨(zb (jae (jk0 g) big 0) jeo=some true∧Fw g∧nm.size<1000)):=by
  intro h26
  let P:Nat->Bool:=fun i=>decide ((((nS g i 0).size:Nat):Int)>20)||decide (((nL g i 2).length:Int)>8)||decide (((nL g i 3).length:Int)>8)||decide (((nL g i 4).length:Int)>8)||decide (((nR g i 6).length:Int)>8)
  have key:=jcZ (body:=jk0 g) g.length P (.inl ()) (.inr ()) (by omega) (fun i hi hp=>by
    unfold jk0;simp only[zi];rw[if_pos (by omega),if_pos (by omega),if_pos hi];simp only[P,qK,decide_eq_true_eq]at hp
    repeat' split
    all_goals first|rfl|(exfalso;omega)) (fun i hi hp=>by
    unfold jk0;simp only[zi];rw[if_pos (by omega),if_pos (by omega),if_pos hi];simp only[P,yo,decide_eq_false_iff_not]at hp;rw[if_neg hp.1.1.1.1,if_neg hp.1.1.1.2,if_neg hp.1.1.2,if_neg hp.1.2,if_neg hp.2,jao (by omega)]) (by
    unfold jk0;simp only[zi];rw[if_neg (by omega)])
  rw[key];cases hP:(zo g.length).any P with
  |true=>exact .inl rfl
  |false =>
   refine .inr ⟨rfl,?_,by omega⟩
   have hall:∀i,i<g.length->P i=false:=fun i hi=>by
    have:=xx.1 hP i (by simpa using hi);simpa using this
   have hq:∀i,i<g.length->(nS g i 0).size<=20∧(nL g i 2).length<=8∧(nL g i 3).length<=8∧(nL g i 4).length<=8∧(nR g i 6).length<=8:=fun i hi=>by
    have hp:=hall i hi;simp only[P,yo,decide_eq_false_iff_not]at hp;omega
   exact⟨by omega,fun i hi=>by have:=hq i hi;omega,fun i hi=>by have:=hq i hi;omega,fun i hi=>by have:=hq i hi;omega,fun i hi=>by have:=hq i hi;omega,fun i hi=>by have:=hq i hi;omega⟩
 split
 ·split
  ·exact .inl rfl
  ·split
   ·exact .inl rfl
   ·exact loop (by omega)
 ·split
  ·exact .inl rfl
  ·exact loop (by omega)
def jum {g:List (List NC)} {i:Nat} (h:jbm g i=0):(∀x∈nL g i 2,0<=x∧x<(g.length:Int))∧(nI g i 7=-1∨(0<=nI g i 7∧nI g i 7<(g.length:Int))):=by
 have hm:jdN g.length (nL g i 2)=false:=by
  cases hb:jdN g.length (nL g i 2)with
  |false=>rfl
  |true =>
   exfalso;unfold jbm at h;rw[if_pos hb]at h
   repeat' split at h
   all_goals exact absurd h (by decide)
 have hs:sdB g.length (nI g i 7)=true:=by
  cases hb:sdB g.length (nI g i 7)with
  |true=>rfl
  |false =>
   exfalso;unfold jbm at h;rw[hm,if_neg (by simp:¬(false=true)),hb,if_pos (by simp:(!false)=true)]at h
   repeat' split at h
   all_goals exact absurd h (by decide)
 refine⟨fun x hx=>?_,?_⟩
 ·have:=xx.1 hm x hx;simp only[inB,jZ,jE,zm,decide_eq_true_eq]at this;omega
 ·unfold sdB inB at hs;simp only[qK,beq_iff_eq,zm,decide_eq_true_eq]at hs;omega
def jbn (out:List Int) (k:Nat):Bool:=out.any (·== (k:Int))
def jdO (g:List (List NC)) (i k:Nat):Bool:=(nL g i 2).any (·== (k:Int))||nI g i 7==(k:Int)
def jdu (g:List (List NC)) (out:List Int) (i:Nat):Bool:=!(zo g.length).any fun k=>jdO g i k && !jbn out k
def jdY (g:List (List NC)) (out:List Int) (i:Nat):Bool:=!jbn out i&&jdu g out i
def jbB (g:List (List NC)) (out:List Int):Option Nat:=(zo g.length).find? (jdY g out)
def jbg (n:Nat) (out:List Int):List Bool:=(zo n).map (jbn out)
def jvx {g:List (List NC)} (hw:Fw g) {i:Nat} (hi:i<g.length) (k:Nat) (nm:ByteArray) (a:Int) (b c:List Int) (d:Int) (e:List (List Int)):jdo nm a (nL g i 2) b c d e (nI g i 7) (k:Int)=some (jdO g i k):=by
 have h2:=hw.fr i hi;unfold jdo jdO;rw[je3 _ _ (by omega),jac];cases (nL g i 2).any (·== (k:Int))<;>rfl
def jD6 {g:List (List NC)} (hw:Fw g) (nm:ByteArray) {i:Nat} (hi:i<g.length) (out:List Int) (ho:out.length<1000):jdp nm g out (i:Int)=some (jdu g out i):=by
 have hn:=hw.n;unfold jdp
 have key:=jcZ (body:=jtG g out (i:Int)) g.length (fun k=>jdO g i k && !jbn out k) (.inl ()) (.inr ()) (by omega) (fun k hk hp=>by
   simp only[zm,xt]at hp;unfold jtG;simp only[zi];rw[if_pos (by omega),if_pos (by omega),if_pos hi,jvx hw hi,jac,if_pos hp.1,je3 _ _ (by omega),jac];have h2:(out.any (·== (k:Int)))=false:=hp.2;rw[h2];rfl) (fun k hk hp=>by
   unfold jtG;simp only[zi];rw[if_pos (by omega),if_pos (by omega),if_pos hi,jvx hw hi,jac];cases h1:jdO g i k with
   |false=>rw[if_neg (by simp),jao (by omega)]
   |true =>
    rw[h1]at hp;have h2:jbn out k=true:=by simpa using hp
    have h2:(out.any (·== (k:Int)))=true:=h2;rw[if_pos rfl,je3 _ _ (by omega),jac,h2,jao (by omega)];rfl) (by
   unfold jtG;rw[if_neg (by omega)])
 rw[key];unfold jdu;cases (zo g.length).any (fun k=>jdO g i k && !jbn out k)<;>rfl
def jgC (n:Nat) (out:List Int):(jbg n out).length=n:=by simp[jbg]
def jgD {n k:Nat} (hk:k<n) (out:List Int):(jbg n out).getD k false=jbn out k:=by simp[jbg,za,hk]
def jCC {n i:Nat} (hi:i<n) (out:List Int):(jbg n out).set i true=jbg n (out++[(i:Int)]):=by
 refine xH (by simp[jbg]) fun k h1 h2=>?_;have hk:k<n:=by simpa [jbg]using h2
 rw[fG];simp only[jbg,j3,yE,jbn,gQ,jx,kh,f7]
 by_cases h:i=k
 ·subst h;simp
 ·rw[if_neg h];have:((i:Int)==(k:Int))=false:=by simp;omega
  rw[this,f7]
def jvy {g:List (List NC)} (hw:Fw g) {i:Nat} (hi:i<g.length) (hr:jbm g i=0) (out:List Int):jdB g (i:Int) (jbg g.length out)=some (jdu g out i):=by
 have h2:=hw.fr i hi;obtain⟨r1,r2⟩:=jum hr
 have hmem:∀x,x∈Sx09.needL (nL g i 2) (nI g i 7)<->(x∈nL g i 2∨(nI g i 7≠-1∧x=nI g i 7)):=fun x=>by
  unfold Sx09.needL;split
  ·rename_i h;simp[h]
  ·rename_i h;simp[h]
 have hrg:∀x∈Sx09.needL (nL g i 2) (nI g i 7),0<=x∧x<(g.length:Int):=fun x hx=>by
  rcases(hmem x).1 hx with h|⟨h,rfl⟩
  ·exact r1 x h
  ·exact r2.resolve_left h
 unfold jdB;simp only[zi]
 rw[if_pos (by omega),if_pos ⟨by omega,by
  rw[zy];intro x hx;rw[jgC];simpa using hrg x hx⟩]
 congr 1
 rw[yJ];unfold Sx09.readyB jdu;rw[zy,xt,xx];constructor
 ·intro h k hk;have hk:k<g.length:=qJ.1 hk;simp only[zm,xt,not_and,fx];intro hn
  have hx:(k:Int)∈Sx09.needL (nL g i 2) (nI g i 7):=by
   rw[hmem];unfold jdO at hn;rw[qK,qM]at hn;rcases hn with ⟨x,hx,e⟩|e
   ·have:x=(k:Int):=by simpa using e
    subst this;exact .inl hx
   ·have:nI g i 7=(k:Int):=by simpa using e
    exact .inr ⟨by omega,this.symm⟩
  have:=h _ hx
  rwa [zi,jgD hk]at this
 ·intro h x hx;obtain⟨h0,h1⟩:=hrg x hx;obtain⟨k,rfl⟩:∃k:Nat,x=(k:Int):=⟨x.toNat,by omega⟩
  have hk:k<g.length:=by omega
  rw[zi,jgD hk];have:=h k (qJ.2 hk);simp only[zm,xt,not_and,fx]at this;refine this ?_;unfold jdO;rw[qK,qM];rcases(hmem _).1 hx with h|⟨h,e⟩
  ·exact .inl ⟨_,h,by simp⟩
  ·exact .inr (by simp[<-e])
def jGv (P:Nat->Bool) (l:List Nat):(l.findIdx? P).map (fun i=>l.getD i 0)=l.find? P:=by
 induction l with
 |nil=>rfl
 |cons x r ih =>
  rw[xL,fR];cases P x with
  |true=>rfl
  |false =>
   rw[<-ih];cases r.findIdx? P<;>rfl
def jD7 {Y:Type} (n:Nat) (P:Nat->Bool) {body:Int->Option (Int ⊕ Y)} (hit:Nat->Y) (miss:Y) (hlen:n<9223372036854775807)
  (h1:∀i,i<n->P i=true->body (i:Int)=some (.inr (hit i)))
  (h2:∀i,i<n->P i=false->body (i:Int)=some (.inl ((i:Int)+1))) (h3:body (n:Int)=some (.inr miss)) :
  jae body big 0=some (match(zo n).find? P with|some i=>hit i|none=>miss):=by
 have hg:∀i,i<n->(zo n).getD i 0=i:=fun i hi=>by simp[za,hi]
 have key:=jaQ (body:=body) (zo n) 0 P hit miss (by simpa using hlen) (fun i hi hp=>by
   have hi:i<n:=by simpa using hi
   rw[hg i hi]at hp;exact h1 i hi hp) (fun i hi hp=>by
   have hi:i<n:=by simpa using hi
   rw[hg i hi]at hp;exact h2 i hi hp) (by simpa using h3)
 rw[key,<-jGv];cases h:(zo n).findIdx? P with
 |none=>rfl
 |some i =>
  show some (hit i)=some (hit ((zo n).getD i 0))
  rw[hg i (jsE h)]
def jdC (next:List Int->Option Nat):Nat->List Int->Option (List Int)
 |0,out=>some out
 |k+1,out=>match next out with
  |some i=>jdC next k (out++[(i:Int)])
  |none=>none
def jqS {X Y:Type} {body:X->Option (X ⊕ Y)} (F:List Int->X) (next:List Int->Option Nat) (good:List Int->Y) (bad:Y) (n:Nat)
  (h1:∀out,out.length<n->body (F out)=some (match next out with|some i=>.inl (F (out++[(i:Int)]))|none=>.inr bad)) (h2:∀out,out.length=n->body (F out)=some (.inr (good out))) :
  ∀(k:Nat) (out:List Int) (N:Nat),out.length+k=n->k<N->jae body N (F out)=some (match jdC next k out with|some l=>good l|none=>bad)
 |0,out,0,_,h=>by omega
 |0,out,N+1,ho,_=>by
  unfold jae;rw[h2 out (by omega)];rfl
 |k+1,out,0,_,h=>by omega
 |k+1,out,N+1,ho,hN=>by
  unfold jae;rw[h1 out (by omega)];unfold jdC;cases hx:next out with
  |none=>rfl
  |some i=>exact jqS F next good bad n h1 h2 k (out++[(i:Int)]) N (by simp;omega) (by omega)
def jnJ:List SV:=[.a [.d,.x (.st zS [])]]
def jgP (u3:ByteArray) (u1:List (List NC)):Option (List Int × Int) :=
 if(jih u3 u1)=true then
  zb (jct u3 u1) fun r0 =>
  some ([],nzI r0)
 else
  zb (jas u3 u1) fun r1 =>
  some ((r1,0))
def jnK:List Lf->Option GT
 |[.d (.s u3),.x (.st [.s,.i .i64,.ints .i64,.ints .i64,.ints .i64,.i .i64,.recs 5,.i .i64] u1)]=>some (.leaf (ok (jgP u3 u1)) [.c (.row 3 (.ints .i64 ((val (jgP u3 u1)).1))),.c (.d (.i .i64 ((val (jgP u3 u1)).2)))])
 |_=>none
abbrev sp_20:jaa->jaa:=jan 20 true (jah jnJ jnK)
def jD8 (u3:ByteArray) (u1:List (List NC)) (r:List Int × Int):Sk (top r) (jgP u3 u1) :=
 .brB
 (.call (.obT (.obT (.ret (fun r=>(Ob (ze r.1=(0:Nat)) ∧
 (Ob (nzI (val (jct u3 u1))=r.2) ∧
 True))) ⟨⟨rfl⟩,⟨⟨rfl⟩,trivial⟩⟩))))
 (.call (.obT (.obT (.rc))))
def jCD (u3:ByteArray) (u1:List (List NC)) (r:List Int × Int) (h:zb (jgP u3 u1) some=some r):jaG Tryz.f20 ((sp_80 sp0)) (fun _ _ _=>none) (jaC jnJ [.d (.s u3),.x (.st zS u1)]) [.c (.row 3 (.ints .i64 r.1)),.c (.d (.i .i64 r.2))] :=
 Sk.vc (jD8 u3 u1 r) (by kernel_rfl) h
def jCE:jaf Tryz.prog 20 true (jah jnJ jnK):=by
 refine jal (sp:=(sp_80 sp0)) (fn:=Tryz.f20) (body:=bodyOf Tryz.f20) mixed (sp_80_ok jaj) Tryz.func20 (by kernel_rfl) (by kernel_rfl) fun ls t h ho b hb=>?_;unfold jnK at h;split at h
 ·rename_i u3 u1;cases h;obtain rfl:=jap hb;exact⟨zh (by kernel_rfl),_,_,jCD u3 u1 _ (jai ho)⟩
 ·cases h
def sp_20_ok {sp:jaa} (h:jab Tryz.prog sp):jab Tryz.prog (sp_20 sp):=jag jCE h
open Go.IntKind (wrap)
def jA5 {g:List (List NC)} {out:List Int} {i:Nat} (h:jbB g out=some i):i<g.length∧jdY g out i=true :=
 ⟨qJ.1 (List.mem_of_find?_eq_some h),List.find?_some h⟩
def jgE (P:Nat->Bool) (n k:Nat):Int:=match(List.range' (n-k) k).find? P with
 |some i=>(i:Int)
 |none=>-1
def jCF (P:Nat->Bool) {n k:Nat} (hk:k<n):jgE P n (k+1)=if P (n-1-k)=true then((n-1-k:Nat):Int)else jgE P n k:=by
 unfold jgE;have e:n-(k+1)=n-1-k:=by omega
 rw[List.range'_succ,e,fR];have e2:n-1-k+1=n-k:=by omega
 rw[e2];cases P (n-1-k)<;>rfl
def jD9 (P:Nat->Bool) (n:Nat):jgE P n n=match(zo n).find? P with|some i=>(i:Int)|none=>-1:=by
 unfold jgE;rw[yV,<-List.range_eq_range']
def joB (g:List (List NC)) (out:List Int):Int:=match jbB g out with
 |some i=>(i:Int)
 |none=>-1
def jEa {g:List (List NC)} (hw:Fw g) (nm:ByteArray) (out:List Int) (ho:out.length<1000):jae (jqu nm g out) big (-1,wrap xu ((g.length:Int)-1))=some (joB g out):=by
 have hn:=hw.n
 have key:=jaJ (body:=jqu nm g out) (fun k=>(jgE (jdY g out) g.length k,(g.length:Int)-1-(k:Int))) (y:=joB g out) (k:=g.length) (fun k hk=>by
   unfold jqu;obtain⟨j,hj⟩:∃j:Nat,(g.length:Int)-1-(k:Int)=(j:Int):=⟨g.length-1-k,by omega⟩
   have hjn:j=g.length-1-k:=by omega
   have hjl:j<g.length:=by omega
   rw[hj,if_pos (by omega),je3 _ _ (by omega),jac,jD6 hw nm hjl out ho];have hs:=jCF (jdY g out) hk;rw[<-hjn]at hs;have he:(g.length:Int)-1-((k+1:Nat):Int)=(j:Int)-1:=by omega
   rw[he,hs,jao (by omega)];have hc:jdY g out j=(!(out.any (·== (j:Int)))&&jdu g out j):=rfl;rw[hc];cases out.any (·== (j:Int))with
   |true=>rfl
   |false =>
    cases jdu g out j<;>rfl) (by
   unfold jqu;rw[if_neg (by show ¬((g.length:Int)-1-(g.length:Int)>=0);omega)]
   show some (Sum.inr (jgE (jdY g out) g.length g.length))=_
   rw[jD9];rfl) (by omega)
 have e0:jgE (jdY g out) g.length 0=-1:=rfl;have key:jae (jqu nm g out) big (jgE (jdY g out) g.length 0,(g.length:Int)-1-((0:Nat):Int))=some (joB g out):=key;rw[e0]at key;rw[jao (by omega)];have e1:(g.length:Int)-1-((0:Nat):Int)=(g.length:Int)-1:=by omega
 rw[e1]at key;exact key
def jEb {g:List (List NC)} (hw:Fw g) (nm:ByteArray):jm1 nm g=some (match jdC (jbB g) g.length []with|some l=>(l,true)|none=>([],false)):=by
 have hn:=hw.n;unfold jm1
 have key:=jqS (body:=jtJ nm g) (fun out=>out) (jbB g) (fun l=>.inr l) (.inl ()) g.length (fun out ho=>by
   unfold jtJ;rw[if_pos (by omega),jEa hw nm out (by omega),jac];unfold jhh joB;cases hx:jbB g out with
   |none=>rfl
   |some i =>
    show(if(i:Int)<0 then _ else _)=_
    rw[if_neg (by omega),if_pos (by simp only[zA,qi];omega)]) (fun out ho=>by
   unfold jtJ;rw[if_neg (by omega)]) g.length [] big (by simp) (by have:big=18446744073709551616:=rfl;omega)
 rw[key];cases jdC (jbB g) g.length []<;>rfl
def jCG (n:Nat):jbg n []=zf n false:=by
 refine xH (by simp[jbg]) fun k h1 h2=>?_;simp[jbg,jbn]
def jEc {g:List (List NC)} (hw:Fw g) (hall:∀i,i<g.length->jbm g i=0) (out:List Int) (k:Int):jae (jcx g (k,jbg g.length out,out)) big 0=some (joB g out):=by
 have hn:=hw.n
 have key:=jD7 (body:=jcx g (k,jbg g.length out,out)) g.length (jdY g out) (fun i=>(i:Int)) (-1) (by omega) (fun i hi hp=>by
   unfold jcx;simp only[zi,jgC];unfold jdY at hp;rw[zm]at hp;rw[if_pos (by omega),if_pos (by omega),if_pos hi,jgD hi,if_pos hp.1,jvy hw hi (hall i hi),jac,if_pos hp.2]) (fun i hi hp=>by
   unfold jcx;simp only[zi,jgC];unfold jdY at hp;rw[if_pos (by omega),if_pos (by omega),if_pos hi,jgD hi];cases hh:jbn out i with
   |true=>rw[if_neg (by simp),jao (by omega)]
   |false =>
    rw[hh]at hp;have hr:jdu g out i=false:=by simpa using hp
    rw[if_pos (by rfl),jvy hw hi (hall i hi),jac,hr,if_neg (by simp),jao (by omega)]) (by
   unfold jcx;rw[if_neg (by omega)])
 exact key
def jyE {g:List (List NC)} (hw:Fw g) (hall:∀i,i<g.length->jbm g i=0):jae (jcd g) big ((0:Int),zf g.length false,[])=some (match jdC (jbB g) g.length []with|some l=>.inr l|none=>.inl ()):=by
 have hn:=hw.n
 have key:=jqS (body:=jcd g) (fun out=>((out.length:Int),jbg g.length out,out)) (jbB g) (fun l=>.inr l) (.inl ()) g.length (fun out ho=>by
   unfold jcd;rw[if_pos (by show(out.length:Int)<_;omega),jEc hw hall,jac];unfold jja joB;cases hx:jbB g out with
   |none=>rfl
   |some i =>
    have hi:=(jA5 hx).1
    have hne:((i:Int) == -1)=false:=by
     rw[beq_eq_false_iff_ne];omega
    simp only[jgC];rw[hne,if_neg (by simp),if_pos (by omega),if_pos (by omega),if_pos (by simp only[zA,qi];omega),jao (by omega),zi,jCC hi];simp) (fun out ho=>by
   unfold jcd;rw[if_neg (by show ¬(out.length:Int)<_;omega)]) g.length [] big (by simp) (by have:big=18446744073709551616:=rfl;omega)
 rw[jCG]at key;exact key
def jnL (next:List Int->Option Nat):∀(k:Nat) (out l:List Int),jdC next k out=some l->out.length+k=l.length∧l.take out.length=out∧∀j,out.length<=j->j<l.length->∃i,next (l.take j)=some i∧l.getD j 0=((i:Nat):Int)
 |0,out,l,h=>by
  cases h;exact⟨rfl,yk,fun j h1 h2=>by omega⟩
 |k+1,out,l,h=>by
  unfold jdC at h;cases hx:next out with
  |none=>rw[hx]at h;cases h
  |some i =>
   rw[hx]at h;obtain⟨h1,h2,h3⟩:=jnL next k (out++[(i:Int)]) l h
   simp only[qh,zA,qi]at h1 h2 h3
   have ht:l.take out.length=out:=by
    have:(l.take (out.length+1)).take out.length=out:=by rw[h2];simp
    rwa [List.take_take,ya (by omega)]at this
   refine⟨by omega,ht,fun j hj1 hj2=>?_⟩
   by_cases hj:j=out.length
   ·subst hj;refine⟨i,by rw[ht];exact hx,?_⟩;have hg:(l.take (out.length+1))[out.length]?=some (i:Int):=by rw[h2];simp
    rw[jw (by omega)]at hg;simp[za,hg]
   ·exact h3 j (by omega) hj2
def jun {nm:ByteArray} {g:List (List NC)} (h:(cg nm g).2=0):∀i,i<g.length->jbm g i=0:=by
 rw[jyD]at h;unfold cgF at h;split at h
 ·exact absurd (show(4:Int)=0 from h) (by omega)
 ·split at h
  ·exact absurd (show(8:Int)=0 from h) (by omega)
  ·cases hf:(zo g.length).findIdx? (fun i=>jbm g i != 0)with
   |none =>
    intro i hi;rw[qt]at hf;simpa using hf i (qJ.2 hi)
   |some i =>
    rw[hf]at h;have h:jbm g i=0:=h;rw[qm]at hf;obtain⟨hlt,hp,_⟩:=hf;simp only[yE]at hp;rw[h]at hp;exact absurd hp (by decide)
def jEd {n:Nat} (h:n<1000):(0:Int)<=(n:Int)∧(n:Int)=(n:Int)∧((1:Nat):Int)*(n:Int)<=281474976710656∧(n:Int)<=9223372036854775807:=by
 omega
def jGw {g:List (List NC)} (hw:Fw g) {nm:ByteArray} (hs:nm.size<1000) (h:(cg nm g).2=0):jb3 nm g=match jdC (jbB g) g.length []with|some _=>none|none=>some 19:=by
 unfold jb3;rw[jvw hw hs,jac,if_neg (by rw[h];simp),if_pos (jEd hw.n),zi,jyE hw (jun h),jac];cases jdC (jbB g) g.length []<;>rfl
def jGx {g:List (List NC)} (hw:Fw g) {nm:ByteArray} (hs:nm.size<1000) (h:(cg nm g).2=0) {l:List Int} (hl:jdC (jbB g) g.length []=some l):jbH nm g=some (nm,l,0):=by
 unfold jbH;rw[show jfu=jcd from rfl];rw[jvw hw hs,jac,if_neg (by rw[h];simp),if_pos (jEd hw.n),zi,jyE hw (jun h),jac,hl];rfl
def jAc {g:List (List NC)} (hw:Fw g) {nm:ByteArray} (hs:nm.size<1000):jqv nm g=some (if(cg nm g).2≠0 then(cg nm g).2 else match jdC (jbB g) g.length []with|some _=>0|none=>19):=by
 unfold jqv;rw[jD2 hw hs,jac]
 by_cases h:(cg nm g).2=0
 ·rw[if_neg (by rw[h];simp),if_neg (fun hn=>hn h),jEb hw,jac];cases jdC (jbB g) g.length []<;>rfl
 ·rw[if_pos (bne_iff_ne.2 h),if_pos h]
end Go.Sh
end

section
namespace Go.Sx
open Ieee Go.Fl
def mg (K m:Nat) (e:Int):Nat:=m*2^(e+K).toNat
def sg (s:Bool) (a:Nat):Int:=if s then -(a:Int)else(a:Int)
def jnM (s:Bool) (m k:Nat):signed s m k=sg s (m*2^k):=by
 unfold signed sg;rw[jk]
def jj7 (s:Bool) (a b:Nat):sg s (a*b)=sg s a*(b:Int):=by
 unfold sg;cases s<;>simp[Int.neg_mul]
def jAd {a b:Int} {c:Nat} (hc:0<c):compare (a*(c:Int)) (b*(c:Int))=compare a b:=by
 have hc':(0:Int)<(c:Int):=by omega
 rcases Int.lt_trichotomy a b with h|h|h
 ·have h1:a*(c:Int)<b*(c:Int):=Int.mul_lt_mul_of_pos_right h hc';rw[Int.compare_eq_lt.2 h1,Int.compare_eq_lt.2 h]
 ·subst h;rw[Int.compare_eq_eq.2 rfl,Int.compare_eq_eq.2 rfl]
 ·have h1:b*(c:Int)<a*(c:Int):=Int.mul_lt_mul_of_pos_right h hc';rw[Int.compare_eq_gt.2 h1,Int.compare_eq_gt.2 h]
def jcy (K:Nat) {s t:Bool} {m n:Nat} {i j:Int} (hi:0<=i+K) (hj:0<=j+K) :
  Datum.order (.number s m i) (.number t n j)=some (compare (sg s (mg K m i)) (sg t (mg K n j))):=by
 simp only[Datum.order,jnM]
 have key:∀(x:Int) (m:Nat),min i j<=x->0<=x+K->mg K m x=m*2^(x-min i j).toNat*2^(min i j+K).toNat:=by
  intro x m h1 h2;unfold mg;rw[x7,<-yA]
  congr 2
  omega
 rw[key i m (by omega) hi,key j n (by omega) hj,jj7 s (m*_),jj7 t (n*_),jAd (yd _)]
def jGy {s:Bool} {m:Nat} {i:Int}:Datum.sum (.number s m i) (Datum.opposite (.number s m i))=some (.number false 0 i):=by
 simp only[Datum.opposite,Datum.sum,Int.min_self,Int.sub_self,Int.toNat_zero,jnM];cases s<;>simp[sg]<;>omega
def jyF (s:Bool) (n drop:Nat):Toward.cut .zero s n drop=n/2^drop:=by
 have h1:(n/(1 <<< min drop (n.log2+2)))=n/2^drop:=by
  rw[jk,Nat.one_mul]
  by_cases h:drop<=n.log2+2
  ·rw[ya h]
  ·rw[Nat.min_eq_right (by omega)];have h2:n<2^(n.log2+1):=gF;have h3:2^(n.log2+1)<=2^(n.log2+2):=Nat.pow_le_pow_right (by omega) (by omega);have h4:2^(n.log2+2)<=2^drop:=Nat.pow_le_pow_right (by omega) (by omega);rw[jY (by omega),jY (by omega)]
 simp[Toward.cut,h1]
def jyG (K:Nat) {s:Bool} {m:Nat} {i:Int} (hi:0<=i+K):Datum.toInt .zero (.number s m i)=some (sg s (mg K m i/2^K)):=by
 simp only[Datum.toInt,Datum.integral,jnM,Nat.pow_zero,yR,jyF,jk]
 congr 2
 unfold mg
 by_cases h:0<=i
 ·have e1:(-i).toNat=0:=by omega
  have e2:(i+K).toNat=i.toNat+K:=by omega
  rw[e1,e2,yA,Nat.pow_zero,Nat.div_one,<-x7,Nat.mul_div_cancel _ (yd K)]
 ·have e1:i.toNat=0:=by omega
  have e2:K=(i+K).toNat+(-i).toNat:=by omega
  rw[e1,Nat.pow_zero,yR]
  conv=>rhs;rhs;rw[e2,yA]
  rw[xr m,Nat.mul_div_mul_left _ _ (yd _)]
def jH9 {s:Bool} {m:Nat} (hm0:m≠0) (hm:m<16777216) :
  single.read (single.write (.number s m 0))=.number s (m*2^(23-m.log2)) ((m.log2:Int)-23)∧m.log2<=23:=by
 have hl:m.log2<=23:=by
  have:=(Nat.log2_lt hm0 (k:=24)).2 (by omega);omega
 refine⟨?_,hl⟩;have hlo:2^m.log2<=m:=Nat.log2_self_le hm0;have hhi:m<2^(m.log2+1):=gF;have hp:2^m.log2*2^(23-m.log2)=8388608:=by rw[<-yA,Nat.add_sub_cancel' hl]
 have h1:8388608<=m*2^(23-m.log2):=by rw[<-hp];exact Nat.mul_le_mul_right _ hlo
 have h2:m*2^(23-m.log2)<16777216:=by
  have h3:m*2^(23-m.log2)<2^(m.log2+1)*2^(23-m.log2):=Nat.mul_lt_mul_of_pos_right hhi (yd _);have h4:2^(m.log2+1)*2^(23-m.log2)=16777216:=by rw[Nat.pow_succ,x7,xr 2,<-x7,hp]
  omega
 have e1:single.signWeight=2147483648:=rfl;have e2:single.binade=8388608:=rfl;have e3:single.infRung=2139095040:=rfl;have e4:single.leastPlace=-149:=rfl;have e5:single.fractionBits=23:=rfl
 have hw:single.write (.number s m 0)=single.word s ((m.log2+126)*8388608+m*2^(23-m.log2)):=by
  simp only[Format.write,Format.nearest,if_neg hm0,e2,e3,e4,e5];have hlast:max ((0:Int)+(m.log2:Int)-(23:Nat)) (-149)=(m.log2:Int)-23:=by omega
  rw[hlast];have ha:((0:Int)-((m.log2:Int)-23)).toNat=23-m.log2:=by omega
  have hb:(((m.log2:Int)-23)-0).toNat=0:=by omega
  rw[ha,hb,jxr _ _ _ rfl,jk];have hc:((m.log2:Int)-23 - -149).toNat=m.log2+126:=by omega
  rw[hc,ya (by omega)]
 rw[hw]
 generalize m*2^(23-m.log2)=k at *
 generalize m.log2=q at *
 have hrd:∀r,8388608<=r->r<2139095040->single.read (single.word s r)=.number s (8388608+r%8388608) (-149+(r/8388608-1:Nat)):=by
  intro r h1 h2;unfold Format.read Format.word;simp only[e1,e2,e3,e4];cases s
  ·simp only[zV,if_false];have ha:r%2147483648=r:=Nat.mod_eq_of_lt (by omega);have hb:r/2147483648=0:=jY (by omega);rw[ha,hb,if_neg (by omega),if_pos h2];rfl
  ·simp only[if_true];have ha:(2147483648+r)%2147483648=r:=by omega
   have hb:(2147483648+r)/2147483648=1:=by omega
   rw[ha,hb,if_neg (by omega),if_pos h2];rfl
 rw[hrd _ (by omega) (by omega)];have ha:8388608+((q+126)*8388608+k)%8388608=k:=by omega
 have hb:((q+126)*8388608+k)/8388608-1=q+126:=by omega
 have hc:(-149:Int)+((q+126:Nat):Int)=(q:Int)-23:=by omega
 rw[ha,hb,hc]
def jEe (K:Nat) (hK:149<=K) {n:Int} (hn:-16777216<n∧n<16777216) :
  ∃m e,qG .f32 (qv .f32 n)=.number (decide (n<0)) m e∧mg K m e=n.natAbs*2^K∧-149<=e:=by
 unfold qG qv jg FloatKind.format
 by_cases h0:n.natAbs=0
 ·rw[h0];have:n=0:=by omega
  subst this;exact⟨0,-149,by rfl,by simp[mg],by omega⟩
 ·obtain⟨h1,h2⟩:=jH9 (s:=decide (n<0)) h0 (by omega);refine⟨_,_,h1,?_,by omega⟩;unfold mg;have e1:((n.natAbs.log2:Int)-23+K).toNat=K-(23-n.natAbs.log2):=by omega
  rw[e1,x7,<-yA]
  congr 2
  omega
def jnN (n:Int):sg (decide (n<0)) n.natAbs=n:=by
 unfold sg
 by_cases h:n<0
 ·simp[h];omega
 ·simp[h];omega
def jyH {n:Int} (hn:-16777216<n∧n<16777216):f2i .f32 (qv .f32 n)=n∧jbU .f32 .i64 (qv .f32 n)=true:=by
 obtain⟨m,e,h1,h2,h3⟩:=jEe 149 (by omega) hn
 have ht:Datum.toInt .zero (qG .f32 (qv .f32 n))=some n:=by
  rw[h1,jyG 149 (by omega),h2,Nat.mul_div_cancel _ (yd _),jnN]
 unfold f2i jbU;rw[ht];refine⟨rfl,?_⟩;have e1:xu.min=-9223372036854775808:=rfl;have e2:xu.max=9223372036854775807:=rfl;simp only[e1,e2,decide_eq_true_eq];omega
end Go.Sx
namespace Go.Sh
open Go Go.Proofs Go.RowKit Go.Sx Ieee Go.Fl
open Go.IntKind (wrap)
def jaw {α:Type} {l:List α} {x:Nat} {d:α} (hx:x<l.length):l.getD x d=l[x]:=by simp[za,hx]
def jdZ {α:Type} {l:List α} {x:Nat} (hx:x<l.length) (d:α):l.take (x+1)=l.take x++[l.getD x d]:=by
 rw[List.take_succ_eq_append_getElem hx,jaw hx]
def KK:Nat:=1100
def PP:Nat:=2^KK
def jfJ:0<PP:=yd _
def jsF (a b:Int):(some (compare a b)==some Ordering.eq)=decide (a=b):=by
 rcases Int.lt_trichotomy a b with h|h|h
 ·rw[Int.compare_eq_lt.2 h,decide_eq_false (by omega)];rfl
 ·rw[Int.compare_eq_eq.2 h,decide_eq_true h];rfl
 ·rw[Int.compare_eq_gt.2 h,decide_eq_false (by omega)];rfl
def jyI (a b:Int):(some (compare a b)==some Ordering.lt)=decide (a<b):=by
 rcases Int.lt_trichotomy a b with h|h|h
 ·rw[Int.compare_eq_lt.2 h,decide_eq_true h];rfl
 ·rw[Int.compare_eq_eq.2 h,decide_eq_false (by omega)];rfl
 ·rw[Int.compare_eq_gt.2 h,decide_eq_false (by omega)];rfl
def jyJ (a b:Int):(some (compare a b)==some Ordering.gt)=decide (b<a):=by
 rcases Int.lt_trichotomy a b with h|h|h
 ·rw[Int.compare_eq_lt.2 h,decide_eq_false (by omega)];rfl
 ·rw[Int.compare_eq_eq.2 h,decide_eq_false (by omega)];rfl
 ·rw[Int.compare_eq_gt.2 h,decide_eq_true h];rfl
def seD:Datum->Int
 | .number _ m e=>if 16777216*PP<=mg KK m e then 2 else if mg KK m e/PP*PP≠mg KK m e then 27 else if mg KK m e/PP<=32767 then 0 else 2
 |_=>27
def se (b:Nat):Int:=seD (qG .f32 b)
def jsG (m e:Nat):mg KK m (e:Int)=m*2^e*PP:=by
 unfold mg PP;rw[x7,<-yA]
 congr 2
def jhA (a:Nat):sg false a=(a:Int):=rfl
def jli (a:Nat):sg true a=-(a:Int):=rfl
def jyK {s:Bool} {m:Nat} {i:Int} (hi:0<=i+KK):Datum.toInt .zero (.number s m i)=some (sg s (mg KK m i/PP)):=jyG KK hi
def jA6 {n:Int} (hn:-16777216<n∧n<16777216):∃m e,qG .f32 (qv .f32 n)=.number (decide (n<0)) m e∧mg KK m e=n.natAbs*PP∧-149<=e:=jEe KK (by unfold KK;omega) hn
def jHM:mg KK 8388608 1=16777216*PP:=by
 have:=jsG 8388608 1;rw[show(8388608*2^1:Nat)=16777216 from rfl]at this;exact this
def jHN:mg KK 5000000000000000 1=10000000000000000*PP:=by
 have:=jsG 5000000000000000 1;rw[show(5000000000000000*2^1:Nat)=10000000000000000 from rfl]at this;exact this
def jsH:PP=2^KK:=rfl
attribute [irreducible] PP
def sub_self (f:Format) {b:Nat} {s:Bool} {m:Nat} {e:Int} (h:f.read b=.number s m e):f.sub b b=some 0:=by
 unfold Format.sub;rw[h,jGy];simp[Format.write,Format.nearest,Format.word]
def jA7 (f:Format) {b:Nat} {s:Bool} (h:f.read b=.infinity s):f.sub b b=none:=by
 unfold Format.sub;rw[h];cases s<;>rfl
def jlG (b:Nat):jnA b=some (se b):=by
 have hz:Format.order single 0 0=some .eq:=by decide
 unfold jnA se qG;simp only[show FloatKind.format .f32=single from rfl];rcases read32 b with ⟨s,m,e,h,hm,he1,he2⟩|⟨s,h⟩|⟨s,t,h⟩
 ·have h1:single.order b b=some .eq:=by
   unfold Format.order;rw[h,jcy KK (by unfold KK;omega) (by unfold KK;omega),Int.compare_eq_eq.2 rfl]
  have hA:single.order b 1266679808=some (compare (sg s (mg KK m e)) ((16777216*PP:Nat):Int)):=by
   unfold Format.order;have hc:single.read 1266679808=.number false 8388608 1:=by decide
   rw[h,hc,jcy KK (by unfold KK;omega) (by unfold KK;omega)];rw[jHM]
   first|rw[jhA]|rw[jli]
  have hB:single.order b 3414163456=some (compare (sg s (mg KK m e)) (-((16777216*PP:Nat):Int))):=by
   unfold Format.order;have hc:single.read 3414163456=.number true 8388608 1:=by decide
   rw[h,hc,jcy KK (by unfold KK;omega) (by unfold KK;omega)];rw[jHM]
   first|rw[jhA]|rw[jli]
  have hT:Datum.toInt .zero (qG .f32 b)=some (sg s (mg KK m e/PP)):=by
   unfold qG;simp only[show FloatKind.format .f32=single from rfl];rw[h,jyK (by unfold KK;omega)]
  rw[h1,sub_self single h,hA,hB];simp only[Option.isSome_some,zY,hz,if_true,bne_self_eq_false,zV,if_false,jyJ,jsF,jyI,h,seD]
  generalize hg:mg KK m e=A at *
  have hP:=jfJ;have hdm:=Nat.div_add_mod A PP;rw[xr]at hdm;have hml:=Nat.mod_lt A hP;have hq:f2i .f32 b=sg s (A/PP):=by unfold f2i;rw[hT];rfl
  by_cases hbig:16777216*PP<=A
  ·rw[if_pos hbig];cases s
   ·rw[if_pos];simp only[sg,zV,if_false,qK,decide_eq_true_eq];omega
   ·rw[if_neg,if_pos]
    ·simp only[sg,if_true,qK,decide_eq_true_eq];omega
    ·simp only[sg,if_true,qK,decide_eq_true_eq];omega
  ·rw[if_neg hbig];have hd:A/PP<16777216:=(Nat.div_lt_iff_lt_mul hP).2 (by omega)
   generalize A/PP=Q at *
   generalize A%PP=R at *
   generalize hQP:Q*PP=QP at *
   have hn:-16777216<sg s Q∧sg s Q<16777216:=by cases s<;>simp only[sg,zV,if_false,if_true]<;>omega
   have hok:jbU .f32 .i64 b=true:=by
    unfold jbU;rw[hT];have e1:xu.min=-9223372036854775808:=rfl;have e2:xu.max=9223372036854775807:=rfl;simp only[e1,e2,decide_eq_true_eq];omega
   rw[if_neg,if_neg,if_pos hok]
   ·obtain⟨m',e',h3,h4,h5⟩:=jA6 hn
    have hC:single.order (qv .f32 (f2i .f32 b)) b=some (compare (sg s Q*(PP:Int)) (sg s A)):=by
     unfold Format.order;have h3':single.read (qv .f32 (f2i .f32 b))=.number (decide (sg s Q<0)) m' e':=by rw[hq];exact h3
     rw[h3',h,jcy KK (by unfold KK;omega) (by unfold KK;omega),h4,hg,jj7,jnN]
    rw[hC]
    have hne:(some (compare (sg s Q*(PP:Int)) (sg s A))!=some Ordering.eq)=decide (QP≠A):=by
     rw[bne,jsF]
     have:(sg s Q*(PP:Int)=sg s A)<->QP=A:=by
      rw[<-jj7,hQP];cases s<;>simp only[sg,zV,if_false,if_true]<;>omega
     by_cases hw:QP=A
     ·rw[decide_eq_true (this.2 hw),decide_eq_false (by omega)];rfl
     ·rw[decide_eq_false (fun h=>hw (this.1 h)),decide_eq_true hw];rfl
    rw[hne,hq]
    by_cases hw:QP=A
    ·rw[decide_eq_false (show ¬(QP≠A) by omega),if_neg qx,if_neg (show ¬(QP≠A) by omega)];rw[if_pos hok]
     have hb:(decide (-32767<=sg s Q)&&decide (sg s Q<=32767))=decide (Q<=32767):=by
      rw[yJ,zm,decide_eq_true_eq,decide_eq_true_eq,decide_eq_true_eq];cases s<;>simp only[sg,zV,if_false,if_true]<;>omega
     unfold jcL jc1;rw[show wrap xu ((0:Int)-32767)=-32767 from by rw[jao (by omega)];rfl,jpO];unfold inB;simp only[Option.bind_some,hb,decide_eq_true_eq];split<;>rfl
    ·rw[decide_eq_true (show QP≠A from hw),if_pos rfl,if_pos hw]
   ·cases s<;>simp only[sg,zV,if_false,if_true,qK,decide_eq_true_eq]<;>omega
   ·cases s<;>simp only[sg,zV,if_false,if_true,qK,decide_eq_true_eq]<;>omega
 ·have h1:single.order b b=some .eq:=by
   unfold Format.order;rw[h];cases s<;>rfl
  rw[h1,jA7 single h,h];rfl
 ·have h1:single.order b b=none:=by
   unfold Format.order;rw[h];rfl
  rw[h1,h];rfl
def jbh (l:List Nat):Int:=match l.findIdx? (fun b=>se b != 0)with
 |some i=>se (l.getD i 0)
 |none=>0
def jvz {l:List Nat} (h:jbh l=0):∀b∈l,se b=0:=by
 intro b hb;unfold jbh at h;cases hf:l.findIdx? (fun b=>se b != 0)with
 |none =>
  rw[qt]at hf;simpa using hf b hb
 |some i =>
  rw[hf]at h;rw[qm]at hf;obtain⟨hk,hp,_⟩:=hf;have h:se (l.getD i 0)=0:=h;rw[show l.getD i 0=l[i] by simp[za,hk]]at h;simp[h]at hp
def jA8 {l:List Nat} (h:∀b∈l,se b=0):jbh l=0:=by
 unfold jbh
 have:l.findIdx? (fun b=>se b != 0)=none:=by
  rw[qt];intro b hb;simp[h b hb]
 rw[this]
def jj8 {l:List Nat} (hl:l.length<1000000000000):y68 l=some (jbh l):=by
 unfold y68 jbh
 have h:=jaQ l 0 (fun b=>se b != 0) (body:=jua l) (fun i=>.inl (se (l.getD i 0))) (.inr ()) (by omega)
  (fun i hi hp=>by
   unfold jua;rw[if_pos (by omega),if_pos (by omega),if_pos (by omega),zi,jlG,jac,if_pos hp])
  (fun i hi hp=>by
   unfold jua;rw[if_pos (by omega),if_pos (by omega),if_pos (by omega),zi,jlG,jac,if_neg (by rw[hp];simp),jao (by omega)])
  (by unfold jua;rw[if_neg (by omega)])
 rw[h];cases l.findIdx? (fun b=>se b != 0)<;>rfl
def juo {l:List Nat} (hl:l.length<1000000000000):jnw l=some (jbh l):=(by kernel_rfl:jnw l=y68 l).trans (jj8 hl)
def inR (x:Int):Prop:=-32767<=x∧x<=32767
instance (x : Int) : Decidable (inR x) := by unfold inR; infer_instance
def nf (n:Int):Nat:=qv .f32 n
def fi (b:Nat):Int:=f2i .f32 b
def jlj {α U:Type} (l:List α) (d:α) (f:α->U) {body:Int × List U->Option ((Int × List U) ⊕ List U)} (hlen:l.length<1000000000000)
  (h1:∀i,i<l.length->∀o:List U,o.length=i->body ((i:Int),o)=some (.inl ((i:Int)+1,o++[f (l.getD i d)])))
  (h2:∀o,body ((l.length:Int),o)=some (.inr o)):jae body big (0,[])=some (l.map f):=by
 refine jaJ (fun i=>((i:Int),(l.take i).map f)) (k:=l.length) (fun i hi=>?_) ?_ (by omega)
 ·have:=h1 i hi ((l.take i).map f) (by simp;omega);rw[this,jdZ hi d];simp
 ·rw[yk];exact h2 _
def je4 {b:Nat} (h:se b=0):jbU .f32 .i64 b=true∧inR (fi b):=by
 unfold se at h;unfold fi f2i jbU;rcases Fl.read32 b with ⟨s,m,e,hd,hm,he1,he2⟩|⟨s,hd⟩|⟨s,t,hd⟩
 ·have hdec:qG .f32 b=.number s m e:=hd;rw[hdec]at h ⊢;rw[jyK (by unfold KK;omega)];unfold seD at h
  have h3:mg KK m e/PP<=32767:=by
   dsimp only at h;split at h
   ·omega
   ·split at h
    ·omega
    ·split at h
     ·assumption
     ·omega
  clear h
  generalize mg KK m e/PP=Q at *
  have e1:xu.min=-9223372036854775808:=rfl;have e2:xu.max=9223372036854775807:=rfl;simp only[e1,e2,decide_eq_true_eq,zY,inR];cases s<;>simp only[sg,zV,if_false,if_true]<;>omega
 ·have hdec:qG .f32 b=.infinity s:=hd;rw[hdec]at h;simp[seD]at h
 ·have hdec:qG .f32 b=.nan s t:=hd;rw[hdec]at h;simp[seD]at h
def jCH {n:Int} (hn:-16777216<n∧n<16777216):fi (nf n)=n:=(jyH hn).1
def jCI {n:Int} (hn:-16777216<n∧n<16777216):se (nf n)=if inR n then 0 else 2:=by
 obtain⟨m,e,h1,h2,h3⟩:=jA6 hn;unfold se nf;rw[h1];unfold seD;dsimp only
 rw[h2,Nat.mul_div_cancel _ jfJ,if_neg (by
  intro h;have:=Nat.le_of_mul_le_mul_right h jfJ;omega),if_neg (by omega)]
 by_cases h:n.natAbs<=32767
 ·rw[if_pos h,if_pos (show inR n by unfold inR;omega)]
 ·rw[if_neg h,if_neg (show ¬inR n by unfold inR;omega)]
end Go.Sh
end

section
namespace Go.Sh
open Go Go.Proofs Go.RowKit Go.Sx Ieee Go.Fl
def jqT (u:List Int) (x:Int):Int:=(2*(u.getD 0 0*x+u.getD 1 0*u.getD 5 0+u.getD 2 0*u.getD 6 0-u.getD 3 0*u.getD 7 0-u.getD 4 0*u.getD 8 0)+16384)/32768
def jd0 (u:List Int) (x:Int):Int:=max (-32767) (min 32767 (jqT u x))
def jqU (u:List Int) (x:Int):List Int:=[u.getD 0 0,u.getD 1 0,u.getD 2 0,u.getD 3 0,u.getD 4 0,x,u.getD 5 0,jd0 u x,u.getD 7 0,u.getD 9 0+if jd0 u x=jqT u x then 0 else 1]
def okFu (u:List Int):Prop:=u.length=10∧(∀j,j<5->-32768<=u.getD j 0∧u.getD j 0<=32768)∧(∀j,5<=j->j<9->-32767<=u.getD j 0∧u.getD j 0<=32767)∧0<=u.getD 9 0∧u.getD 9 0<=1000000000
def jup {x y a b:Int} (ha:0<=a) (hb:0<=b) (hx:-a<=x∧x<=a) (hy:-b<=y∧y<=b):-(a*b)<=x*y∧x*y<=a*b:=by
 have h1:(x*y).natAbs<=a.natAbs*b.natAbs:=by
  rw[Int.natAbs_mul];exact Nat.mul_le_mul (by omega) (by omega)
 have h2:a*b=((a.natAbs*b.natAbs:Nat):Int):=by
  rw[Int.natCast_mul];have e1:(a.natAbs:Int)=a:=by omega
  have e2:(b.natAbs:Int)=b:=by omega
  rw[e1,e2]
 rw[h2];omega
def mkU (r s:List Int):List Int:=[r.getD 0 0,r.getD 1 0,r.getD 2 0,r.getD 3 0,r.getD 4 0,s.getD 0 0,s.getD 1 0,s.getD 2 0,s.getD 3 0,0]
def jbo (c s:List (List Int)) (k:Nat):List (List Int):=(zo k).map fun i=>mkU (c.getD i []) (s.getD i [])
def jEf (c s:List (List Int)) (k:Nat):jbo c s (k+1)=jbo c s k++[mkU (c.getD k []) (s.getD k [])]:=by simp[jbo,ye]
def jfw (c s:List (List Int)) (k:Nat):(jbo c s k).length=k:=by simp[jbo]
def jbw:List (List Int)->Int->List (List Int)
 |[],_=>[]
 |u::us,x=>jqU u x::jbw us (jd0 u x)
def jcB:List (List Int)->Int->Int
 |[],x=>x
 |u::us,x=>jcB us (jd0 u x)
def jhB:∀(us:List (List Int)) (x:Int),(jbw us x).length=us.length
 |[],_=>rfl
 |u::us,x=>by simp[jbw,jhB us]
def jsI:∀(us:List (List Int)) (u:List Int) (x:Int),jbw (us++[u]) x=jbw us x++[jqU u (jcB us x)]∧jcB (us++[u]) x=jd0 u (jcB us x)
 |[],_,_=>⟨rfl,rfl⟩
 |v::us,u,x=>by
  have:=jsI us u (jd0 v x);simp only[qq,jbw,jcB,this,and_self]
def jes (u:List Int) (x:Int):-32767<=jd0 u x∧jd0 u x<=32767:=by unfold jd0;omega
def jjk:∀(us:List (List Int)) {x:Int},-32767<=x->x<=32767->-32767<=jcB us x∧jcB us x<=32767
 |[],_,h1,h2=>⟨h1,h2⟩
 |u::us,x,_,_=>jjk us (jes u x).1 (jes u x).2
def jlk (k:Int) (u:List Int):Prop:=u.length=10∧(∀j,j<5->-32768<=u.getD j 0∧u.getD j 0<=32768)∧(∀j,5<=j->j<9->-32767<=u.getD j 0∧u.getD j 0<=32767)∧0<=u.getD 9 0∧u.getD 9 0<=k
def jGA {k:Int} {u:List Int} {x:Int} (h:jlk k u) (h1:-32767<=x) (h2:x<=32767):jlk (k+1) (jqU u x):=by
 obtain⟨hl,hc,hs,h0,h9⟩:=h;have hr:=jes u x;refine⟨rfl,fun j hj=>?_,fun j hj hj2=>?_,?_,?_⟩
 ·match j,hj with
  |0,_=>exact hc 0 (by decide)
  |1,_=>exact hc 1 (by decide)
  |2,_=>exact hc 2 (by decide)
  |3,_=>exact hc 3 (by decide)
  |4,_=>exact hc 4 (by decide)
 ·match j,hj,hj2 with
  |5,_,_=>exact⟨h1,h2⟩
  |6,_,_=>exact hs 5 (by decide) (by decide)
  |7,_,_=>exact hr
  |8,_,_=>exact hs 7 (by decide) (by decide)
 ·show 0<=u.getD 9 0+_
  split<;>omega
 ·show u.getD 9 0+_<=k+1
  split<;>omega
def jvA:∀{us:List (List Int)} {x:Int} {u:List Int},-32767<=x->x<=32767->u∈jbw us x->∃v∈us,∃y,-32767<=y∧y<=32767∧u=jqU v y
 |[],_,_,_,_,h=>by cases h
 |v::us,x,u,h1,h2,h=>by
  rcases qp.1 h with rfl|h
  ·exact⟨v,zw,x,h1,h2,rfl⟩
  ·obtain⟨v',hv,y,r⟩:=jvA (jes v x).1 (jes v x).2 h;exact⟨v',zu _ hv,y,r⟩
def jyL {k:Int} {u:List Int} (h:jlk k u) (hk:k<=1000000000):okFu u:=⟨h.1,h.2.1,h.2.2.1,h.2.2.2.1,Int.le_trans h.2.2.2.2 hk⟩
def jbI:List (List Int)->List Int->List (List Int)
 |us,[]=>us
 |us,x::l=>jbI (jbw us x) l
def jbL:List (List Int)->List Int->List Int
 |_,[]=>[]
 |us,x::l=>jcB us x::jbL (jbw us x) l
def ja7:List (List Int)->Int
 |[]=>0
 |u::us=>u.getD 9 0+ja7 us
def jhC:∀a b:List (List Int),ja7 (a++b)=ja7 a+ja7 b
 |[],b=>by simp[ja7]
 |u::a,b=>by simp only[qq,ja7,jhC a b];omega
def jpQ:∀(us:List (List Int)) (a b:List Int),jbI us (a++b)=jbI (jbI us a) b
 |_,[],_=>rfl
 |us,x::a,b=>jpQ (jbw us x) a b
def jnO:∀(us:List (List Int)) (a b:List Int),jbL us (a++b)=jbL us a++jbL (jbI us a) b
 |_,[],_=>rfl
 |us,x::a,b=>by simp only[qq,jbL,jbI,jnO (jbw us x) a b]
def jhD:∀(us:List (List Int)) (l:List Int),(jbL us l).length=l.length
 |_,[]=>rfl
 |us,x::l=>by simp[jbL,jhD (jbw us x) l]
def jdI:∀(us:List (List Int)) (l:List Int),(jbI us l).length=us.length
 |_,[]=>rfl
 |us,x::l=>by simp[jbI,jdI (jbw us x) l,jhB]
def jEg {us:List (List Int)} {l:List Int} {i:Nat} (hi:i<l.length):jbI us (l.take (i+1))=jbw (jbI us (l.take i)) (l.getD i 0) ∧
  jbL us (l.take (i+1))=jbL us (l.take i)++[jcB (jbI us (l.take i)) (l.getD i 0)]:=by
 rw[jdZ hi 0,jpQ,jnO];exact⟨rfl,rfl⟩
def jpR:∀{us:List (List Int)} {l:List Int},(∀x∈l,inR x)->∀y∈jbL us l,inR y
 |_,[],_,y,hy=>by cases hy
 |us,x::l,h,y,hy=>by
  rcases qp.1 hy with rfl|hy
  ·exact jjk us (h x zw).1 (h x zw).2
  ·exact jpR (fun x hx=>h x (zu _ hx)) y hy
def joC:∀{us:List (List Int)} {l:List Int} {k:Int},(∀u∈us,jlk k u)->(∀x∈l,inR x)->∀u∈jbI us l,jlk (k+l.length) u
 |us,[],k,h,_,u,hu=>by simpa using h u hu
 |us,x::l,k,h,hx,u,hu=>by
  have hr:=hx x zw
  have h1:∀v∈jbw us x,jlk (k+1) v:=fun v hv=>by
   obtain⟨w,hw,y,hy1,hy2,rfl⟩:=jvA hr.1 hr.2 hv;exact jGA (h w hw) hy1 hy2
  have:=joC h1 (fun x hx'=>hx x (zu _ hx')) u hu;rw[show k+((x::l).length:Int)=k+1+(l.length:Int) by simp;omega];exact this
def jIa {us:List (List Int)} (hl:us.length<=100000) (h:∀u∈us,0<=u.getD 9 0∧u.getD 9 0<=1000000000):y88 us=some (ja7 us):=by
 unfold y88
 have hb:∀i,i<=us.length->0<=ja7 (us.take i)∧ja7 (us.take i)<=i*1000000000:=by
  intro i
  induction i with
  |zero=>intro _;simp[ja7]
  |succ i ih =>
   intro hi;have:=ih (by omega);have hu:=h (us.getD i []) (by rw[jaw (by omega)];exact zZ _);rw[jdZ (by omega) [],jhC];have e:ja7 [us.getD i []]=(us.getD i []).getD 9 0:=by simp[ja7]
   rw[e]
   push_cast
   omega
 have hit:jae (jud us) big (0,0)=some (ja7 us):=jaJ (body:=jud us) (fun i=>(ja7 (us.take i),(i:Int))) (y:=ja7 us) (k:=us.length) (fun i hi=>by
  have h1:=hb i (by omega);have hu:=h (us.getD i []) (by rw[jaw hi];exact zZ hi);unfold jud;dsimp only;rw[if_pos (by omega),if_pos (by omega),if_pos (by omega),zi,jao (by omega),jao (by omega),jdZ hi [],jhC];have e:ja7 [us.getD i []]=(us.getD i []).getD 9 0:=by simp[ja7]
  rw[e];rfl) (by unfold jud;dsimp only;rw[if_neg (by omega),yk]) (by omega)
 rw[hit];rfl
def stU (u:List Int):List Int:=[u.getD 5 0,u.getD 6 0,u.getD 7 0,u.getD 8 0]
def jEh {us:List (List Int)} (hl:us.length<=100000):y55 us=some (us.map stU):=by
 unfold y55
 rw[jlj us [] stU (body:=y92 us) (by omega) (fun i hi o ho=>by
  unfold y92;dsimp only;rw[if_pos (by omega),if_pos (by omega),if_pos (by omega),zi,if_pos (by simp only[zA,qi];omega),jao (by omega)];rfl) (fun o=>by unfold y92;dsimp only;rw[if_neg (by omega)])]
 rfl
def jf6 (r:List Int):Bool:=!(decide (inR (r.getD 0 0))&&decide (inR (r.getD 1 0))&&decide (inR (r.getD 2 0))&&decide (inR (r.getD 3 0)))
def csS (c s:List (List Int)):Int × Int:=if s.length≠c.length then(0,10)else match s.findIdx? jf6 with
 |some i=>((i:Int),2)
 |none=>(0,0)
def jCJ (x:Int):(decide ((-32767:Int)<=x)&&decide (x<=(32767:Int)))=decide (inR x):=by
 rw[yJ,zm,decide_eq_true_eq,decide_eq_true_eq,decide_eq_true_eq];rfl
end Go.Sh
end

section
namespace Go.Sx06
def jpS {n b:Int} (hb:0<b):(0<=n->0<=n.tdiv b∧n.tdiv b<=n)∧(n<=0->n<=n.tdiv b∧n.tdiv b<=0):=by
 constructor
 ·intro hn;rw[Int.tdiv_eq_ediv_of_nonneg hn];exact⟨Int.ediv_nonneg hn (by omega),Int.ediv_le_self b hn⟩
 ·intro hn;have h1:n=-(-n):=by omega
  rw[h1,Int.neg_tdiv,Int.tdiv_eq_ediv_of_nonneg (by omega:0<=-n)];have h2:=Int.ediv_nonneg (by omega:0<=-n) (by omega:0<=b);have h3:=Int.ediv_le_self b (by omega:0<=-n);omega
def jpT {n b:Int} (hb:0<b):-b<n.tmod b∧n.tmod b<b:=by
 refine⟨?_,Int.tmod_lt_of_pos n hb⟩;have h:=Int.tmod_lt_of_pos (-n) hb;rw[Int.neg_tmod]at h;omega
def jvB {n b:Int} (hb:0<b) (h:n.tmod b<0):n.tdiv b-1=n/b:=by
 have h1:=Int.tmod_add_mul_tdiv n b;have h2:=jpT (n:=n) hb
 have h3:n/b=(n.tdiv b-1):=by
  apply (Int.ediv_eq_iff_of_pos hb).2;rw[Int.mul_comm]at h1;constructor<;>rw[Int.sub_mul]<;>omega
 exact h3.symm
def jvC {n b:Int} (hb:0<b) (h:¬n.tmod b<0):n.tdiv b=n/b:=by
 have h1:=Int.tmod_add_mul_tdiv n b;have h2:=jpT (n:=n) hb
 have h3:n/b=n.tdiv b:=by
  apply (Int.ediv_eq_iff_of_pos hb).2;rw[Int.mul_comm]at h1;constructor<;>omega
 exact h3.symm
end Go.Sx06
end

section
namespace Go.Sh
open Go Go.Proofs Go.RowKit Go.Sx Go.Sx06 Ieee Go.Fl
open Go.IntKind (wrap)
def jHO (a b:Int):jda [a,b]=some (if a≠0 then a else b):=by
 unfold jda
 rw[jaQ [a,b] 0 (fun x=>x != 0) (body:=jtX [a,b]) (fun i=>.inl ([a,b].getD i 0)) (.inr ()) (by simp) (fun i hi hp=>by
  unfold jtX;rw[if_pos (by omega),if_pos (by omega),if_pos (by omega),zi,if_pos hp]) (fun i hi hp=>by
  unfold jtX;rw[if_pos (by omega),if_pos (by omega),if_pos (by omega),zi,if_neg (by rw[hp];simp),jao (by simp at hi;omega)]) (by
  unfold jtX;rw[if_neg (by omega)])]
 by_cases ha:a=0
 ·by_cases hb:b=0
  ·simp[ha,hb,xL,jep,jnb]
  ·simp[ha,hb,xL,jep,jhm]
 ·simp[ha,xL,jep,jhm]
def jCK {n b:Int} (hb:0<b) (hb2:b<=1000000) (hn:-4000000000000000000<=n∧n<=4000000000000000000):y94 n b=some ((2*n+b)/(2*b)):=by
 unfold y94 jeS;rw[jao (x:=2*n) (by omega),jao (x:=2*n+b) (by omega),jao (x:=2*b) (by omega),if_pos (by omega),if_pos (by omega)];have h0:0<2*b:=by omega
 generalize 2*b=m at *
 have hN:-8000000000001000000<=2*n+b∧2*n+b<=8000000000001000000:=by omega
 generalize 2*n+b=N at *
 have h1:=jpS (n:=N) h0;rw[jao (x:=N.tdiv m) (by omega)];split
 ·rename_i h;rw[jao (by omega),jac,jvB h0 h]
 ·rename_i h;rw[jac,jvC h0 h]
def jyM (r:Int):(if(if r<(32767:Int)then r else(32767:Int))>(-32767:Int)then if r<(32767:Int)then r else(32767:Int)else(-32767:Int))=max (-32767) (min 32767 r):=by omega
def jCL {us:List (List Int)} {i:Nat} {x:Int} (hi:i<us.length) (hu:okFu (us.getD i [])) (hx:inR x):jlh (i:Int) x us=some (jd0 (us.getD i []) x,us.set i (jqU (us.getD i []) x)):=by
 obtain⟨hl,hc,hs,h0,h9⟩:=hu;unfold jlh;simp only[pu1,pu9,pu5,puc,zi,hi,if_true,gR]
 generalize hr:us.getD i []=r at *
 match r,hl with
 |[b0,b1,b2,a0,a1,x1,x2,y1,y2,k],_ =>
  have c0:=hc 0 (by decide);have c1:=hc 1 (by decide);have c2:=hc 2 (by decide);have c3:=hc 3 (by decide);have c4:=hc 4 (by decide);have s5:=hs 5 (by decide) (by decide);have s6:=hs 6 (by decide) (by decide);have s7:=hs 7 (by decide) (by decide);have s8:=hs 8 (by decide) (by decide);simp only[List.getD_cons_zero,List.getD_cons_succ]at c0 c1 c2 c3 c4 s5 s6 s7 s8 h0 h9 ⊢;have m0:=jup (a:=32768) (b:=32767) (by decide) (by decide) c0 hx;have m1:=jup (a:=32768) (b:=32767) (by decide) (by decide) c1 s5;have m2:=jup (a:=32768) (b:=32767) (by decide) (by decide) c2 s6;have m3:=jup (a:=32768) (b:=32767) (by decide) (by decide) c3 s7;have m4:=jup (a:=32768) (b:=32767) (by decide) (by decide) c4 s8
  rw[jao (x:=b0*x) (by omega),jao (x:=b1*x1) (by omega),jao (x:=b2*x2) (by omega),jao (x:=a0*y1) (by omega),jao (x:=a1*y2) (by omega),
   jao (x:=b0*x+b1*x1) (by omega),jao (x:=b0*x+b1*x1+b2*x2) (by omega),jao (x:=b0*x+b1*x1+b2*x2-a0*y1) (by omega),jao (x:=b0*x+b1*x1+b2*x2-a0*y1-a1*y2) (by omega),
   jCK (by decide) (by decide) (by omega),jac,jao (x:=k+1) (by omega)]
  have hraw:jqT [b0,b1,b2,a0,a1,x1,x2,y1,y2,k] x=(2*(b0*x+b1*x1+b2*x2-a0*y1-a1*y2)+16384)/(2*16384):=rfl;rw[<-hraw];have hout:max (-32767) (min 32767 (jqT [b0,b1,b2,a0,a1,x1,x2,y1,y2,k] x))=jd0 [b0,b1,b2,a0,a1,x1,x2,y1,y2,k] x:=rfl;simp only[jyM,hout];have hg:∀a:List Int,(us.set i a).getD i []=a:=fun a=>by simp[za,hi]
  simp only[hg,List.set_set]
  by_cases hz:jd0 [b0,b1,b2,a0,a1,x1,x2,y1,y2,k] x=jqT [b0,b1,b2,a0,a1,x1,x2,y1,y2,k] x
  ·rw[if_neg (by simpa using hz)]
   congr 3
   show _=[b0,b1,b2,a0,a1,x,x1,_,y1,k+if _ then 0 else 1]
   rw[if_pos hz,Int.add_zero];rfl
  ·rw[if_pos (by simpa using hz)]
   congr 3
   show _=[b0,b1,b2,a0,a1,x,x1,_,y1,k+if _ then 0 else 1]
   rw[if_neg hz];rfl
def juq {us:List (List Int)} {l:List (List Int)} {i:Nat} (hi:i<l.length) (h:us.length=i):(us++l.drop i).getD i []=l.getD i []:=by
 subst h;rw[jaw (by simp;omega),jaw hi,List.getElem_append_right (zq _)];simp
def jAe {l:List (List Int)} {x:Int} (hl:l.length<1000000) (hu:∀u∈l,okFu u) (hx:inR x):jnD x l=some (jcB l x,jbw l x):=by
 unfold jnD
 have hit:jae (jqO l) big (x,0,l)=some (jcB l x,jbw l x):=jaJ (body:=jqO l) (fun i=>(jcB (l.take i) x,(i:Int),jbw (l.take i) x++l.drop i)) (y:=(jcB l x,jbw l x)) (k:=l.length) (fun i hi=>by
  have hlen:(jbw (l.take i) x).length=i:=by rw[jhB,List.length_take];omega
  have hmem:l.getD i []∈l:=by rw[jaw hi];exact zZ hi
  have hg:=juq (us:=jbw (l.take i) x) hi hlen;unfold jqO;dsimp only
  rw[if_pos (by omega),if_pos (by simp only[qh,hlen,xm];omega),zi,
   jCL (by simp only[qh,hlen,xm];omega) (by rw[hg];exact hu _ hmem) (jjk _ hx.1 hx.2),jac,jao (by omega),hg]
  obtain⟨e1,e2⟩:=jsI (l.take i) (l.getD i []) x;rw[<-jdZ hi]at e1 e2;rw[e1,e2,yF _ _ (by omega),hlen,yV,List.drop_eq_getElem_cons hi,List.set_cons_zero,qL];rfl) (by
  unfold jqO;dsimp only;rw[if_neg (by omega),yk,List.drop_length,yr]) (by omega)
 rw[hit];rfl
def jAf {c s:List (List Int)} (hc:c.length<=s.length) (hl:c.length<1000000):y87 c s=some (jbo c s c.length):=by
 unfold y87
 have hit:jae (jqJ c s) big (0,[])=some (jbo c s c.length):=jaJ (body:=jqJ c s) (fun i=>((i:Int),jbo c s i)) (y:=jbo c s c.length) (k:=c.length) (fun i hi=>by
  unfold jqJ;dsimp only;rw[if_pos (by omega),if_pos (by omega),zi,if_pos hi,if_pos (by omega),if_pos (by omega),if_pos (by rw[jfw];simp only[zA,qi];omega),jao (by omega),jEf];rfl) (by unfold jqJ;dsimp only;rw[if_neg (by omega)]) (by omega)
 rw[hit];rfl
def jyN (n:Int):jcL n 32767=some (decide (inR n)):=by
 unfold jcL;rw[show wrap xu ((0:Int)-32767)=-32767 from by rw[jao (by omega)];rfl,jpO,<-jCJ];rfl
def jEi (s:List (List Int)) (i:Nat):jae (y85 s (i:Int)) big 0=some (if jf6 (s.getD i [])=true then .inl ()else .inr ()):=by
 have hit:=jb2 [(s.getD i []).getD 0 0,(s.getD i []).getD 1 0,(s.getD i []).getD 2 0,(s.getD i []).getD 3 0] 0 (fun v=>!decide (inR v)) (body:=y85 s (i:Int)) (.inl ()) (.inr ()) (by simp) (fun j hj hp=>by
  have hj:j<4:=hj;unfold y85;rw[if_pos (by omega),zi,zi,yR,if_pos ⟨by omega,by match j,hj with|0,_=>rfl|1,_=>rfl|2,_=>rfl|3,_=>rfl⟩,jyN,jac,if_pos hp]) (fun j hj hp=>by
  have hj:j<4:=hj;unfold y85;rw[if_pos (by omega),zi,zi,yR,if_pos ⟨by omega,by match j,hj with|0,_=>rfl|1,_=>rfl|2,_=>rfl|3,_=>rfl⟩,jyN,jac,if_neg (by rw[hp];simp),jao (by omega)]) (by
  unfold y85;rw[if_neg (by simp)])
 rw[hit]
 congr 2
 unfold jf6;simp only[jx,kh];cases decide (inR ((s.getD i []).getD 0 0))<;>cases decide (inR ((s.getD i []).getD 1 0))<;>cases decide (inR ((s.getD i []).getD 2 0))<;>cases decide (inR ((s.getD i []).getD 3 0))<;>rfl
def jEj (b:Bool) (e:Int):jc1 b e=some (if b=true then 0 else e):=by
 unfold jc1;cases b<;>rfl
def jwu {c s:List (List Int)} (hc:c.length<1000) (hl:s.length<=100000):y69 c s=some (if jbe c≠0 then(0,jbe c)else csS c s):=by
 unfold y69 csS;rw[jfv c hc,jac,jEj,jac,jHO,jac]
 have hb:∀i,i<s.length->y86 s (i:Int)=if jf6 (s.getD i [])=true then some (.inr (.inl (i:Int)))else some (.inl ((i:Int)+1)):=by
  intro i hi;unfold y86;rw[if_pos (by omega),if_pos (by omega),zi,if_pos hi,jEi,jac]
  by_cases h:jf6 (s.getD i [])=true
  ·rw[if_pos h,if_pos h];rfl
  ·rw[if_neg h,if_neg h]
   show some (Sum.inl (wrap .i64 ((i:Int)+1)))=_
   rw[jao (by omega)]
 have hit:=jaQ s [] jf6 (body:=y86 s) (fun i=>.inl (i:Int)) (.inr ()) (by omega) (fun i hi hp=>by rw[hb i hi,if_pos hp]) (fun i hi hp=>by rw[hb i hi,if_neg (by rw[hp];simp)])
  (by unfold y86;rw[if_neg (by omega)])
 have hx:(if((s.length:Int)==(c.length:Int))=true then(0:Int)else(10:Int))=if s.length≠c.length then 10 else 0:=by
  by_cases h:s.length=c.length
  ·rw[if_pos (by rw[h];exact beq_self_eq_true _),if_neg (by omega)]
  ·rw[if_neg (by rw[beq_iff_eq];omega),if_pos h]
 rw[hx,hit]
 by_cases h1:jbe c=0
 ·rw[if_neg (show ¬jbe c≠0 by omega),if_neg (show ¬jbe c≠0 by omega)]
  by_cases h:s.length=c.length
  ·rw[if_neg (show ¬s.length≠c.length by omega),if_neg (show ¬s.length≠c.length by omega),if_neg (by decide)];cases s.findIdx? jf6<;>rfl
  ·rw[if_pos h,if_pos h,if_pos (by decide)]
 ·rw[if_pos h1,if_pos h1,if_pos (by simpa using h1)]
def jsJ {c s:List (List Int)} (h:(csS c s).2=0):s.length=c.length∧∀k j,k<s.length->j<4->inR ((s.getD k []).getD j 0):=by
 unfold csS at h;split at h
 ·cases h
 ·rename_i hl;refine⟨by omega,fun k j hk hj=>?_⟩;split at h
  ·cases h
  ·rename_i hf;rw[qt]at hf;have:=hf (s.getD k []) (by rw[jaw hk];exact zZ hk);unfold jf6 at this;simp only[jE,zm,decide_eq_true_eq]at this
   match j,hj with
   |0,_=>exact this.1.1.1
   |1,_=>exact this.1.1.2
   |2,_=>exact this.1.2
   |3,_=>exact this.2
def jgQ {c:List (List Int)} (h:jbe c=0):c.length<=6∧∀r∈c,jdc r=true:=by
 unfold jbe at h;split at h
 ·cases h
 ·split at h
  ·cases h
  ·rename_i h1 h2;refine⟨by omega,fun r hr=>?_⟩;have:=mt qM.2 h2;cases hb:jdc r with
   |true=>rfl
   |false=>exact absurd ⟨r,hr,by rw[hb];rfl⟩ this
def jA9 {c s:List (List Int)} (h:jbe c=0) (hs:(csS c s).2=0):∀u∈jbo c s c.length,jlk 0 u:=by
 obtain⟨hl,hst⟩:=jsJ hs;intro u hu;simp only[jbo,qa,qJ]at hu;obtain⟨i,hi,rfl⟩:=hu;have h0:=(jgQ h).2 (c.getD i []) (by rw[jaw hi];exact zZ hi);unfold jdc Sx09.partB at h0;simp only[List.all_cons,List.all_nil,Bool.and_true,zm,decide_eq_true_eq]at h0;refine⟨rfl,fun j hj=>?_,fun j hj hj2=>?_,yz (0:Int),yz (0:Int)⟩
 ·match j,hj with
  |0,_=>exact h0.1
  |1,_=>exact h0.2.1
  |2,_=>exact h0.2.2.1
  |3,_=>exact h0.2.2.2.1
  |4,_=>exact h0.2.2.2.2
 ·match j,hj,hj2 with
  |5,_,_=>exact hst i 0 (by omega) (by omega)
  |6,_,_=>exact hst i 1 (by omega) (by omega)
  |7,_,_=>exact hst i 2 (by omega) (by omega)
  |8,_,_=>exact hst i 3 (by omega) (by omega)
def Z32:List Nat:=zO
def jEk:Z32=zf 32 0:=rfl
def jGB {e:Nat} {r:List Nat} {j v:Nat} (h:r.length=e):jev e r j v=r.set j v:=by
 subst h;unfold jev
 congr 1
 apply xH
 ·simp[jpY]
 ·intro i h1 h2;simp[jpY,h2]
def jyO {A:List Nat} {v:Nat} (h:A.length<32):jev 32 (A++zf (32-A.length) 0) A.length v=A++[v]++zf (32-(A.length+1)) 0:=by
 have h1:jev 32 (A++zf (32-A.length) 0) A.length v=(A++zf (32-A.length) 0).set A.length v:=jGB (by simp;omega);have h2:32-A.length=(32-(A.length+1))+1:=by omega
 rw[h1,h2,yu,yF _ _ (zq _),yV,List.set_cons_zero,qL];rfl
def jfx (c s:List (List Int)) (b:List Nat):Int:=if jbe c≠0 then jbe c else if jbh b≠0 then jbh b else(csS c s).2
def jJj {c s:List (List Int)} {b:List Nat} (hc:c.length<1000) (hs:s.length<=100000) (hb:b.length=32) :
  jdM c b s=some (if jfx c s b=0 then((jbL (jbo c s c.length) (b.map fi)).map nf,(jbI (jbo c s c.length) (b.map fi)).map stU,ja7 (jbI (jbo c s c.length) (b.map fi)),0)else(Z32,[],0,jfx c s b)):=by
 unfold jdM;rw[jfv c hc,jac,if_pos ⟨hb,by decide⟩,xU,xq (by omega),jj8 (by omega),jac,jHO,jac]
 by_cases h1:jbe c=0
 ·rw[if_neg (show ¬jbe c≠0 by omega)]
  by_cases h2:jbh b=0
  ·rw[if_pos (by rw[h2];rfl),jwu (by omega) hs,jac,if_neg (show ¬jbe c≠0 by omega)];have hE:jfx c s b=(csS c s).2:=by unfold jfx;rw[if_neg (by omega),if_neg (by omega)]
   rw[hE]
   by_cases h3:(csS c s).2=0
   ·rw[if_neg (by rw[h3];decide),if_pos h3];obtain⟨hl,_⟩:=jsJ h3;rw[jAf (by omega) (by omega),jac];have hok:=jA9 h1 h3;have hall:=jvz h2
    have hx:∀x∈b.map fi,inR x:=by
     intro x hx;obtain⟨y,hy,rfl⟩:=qa.1 hx;exact(je4 (hall y hy)).2
    have hul:(jbo c s c.length).length=c.length:=jfw _ _ _
    generalize jbo c s c.length=us at *
    have hit:jae (jc2 b) big (0,us,[]++zf (32-0) 0)=some (jbI us (b.map fi),(jbL us (b.map fi)).map nf) :=
     jaJ (body:=jc2 b) (fun i=>((i:Int),jbI us ((b.map fi).take i),(jbL us ((b.map fi).take i)).map nf++zf (32-i) 0)) (k:=32) (fun i hi=>by
      have hi':i<b.length:=by omega
      have hw:=je4 (hall (b.getD i 0) (by rw[jaw hi'];exact zZ hi'));have hR:inR (f2i .f32 (b.getD i 0)):=hw.2;obtain⟨t1,t2⟩:=jEg (us:=us) (l:=b.map fi) (i:=i) (by simpa using hi');have hg:(b.map fi).getD i 0=f2i .f32 (b.getD i 0):=by rw[jaw (by simpa using hi'),jaw hi'];simp[fi]
      rw[hg]at t1 t2;have hlen:((jbL us ((b.map fi).take i)).map nf).length=i:=by simp[jhD];omega
      have hsf:=jyO (A:=(jbL us ((b.map fi).take i)).map nf) (v:=nf (jcB (jbI us ((b.map fi).take i)) (f2i .f32 (b.getD i 0)))) (by omega);rw[hlen]at hsf;unfold jc2;dsimp only
      rw[if_pos (by omega),if_pos (by omega),zi,if_pos hw.1,jAe (by rw[jdI,hul];omega) (fun u hu=>jyL (joC hok (fun x hx'=>hx x (List.mem_of_mem_take hx')) u hu) (by simp;omega)) hR,jac,
       if_pos (by omega),if_pos (by omega),jao (by omega),t1,t2]
      have e0:(0:Nat)+((0:Nat)+i*(1:Nat))=i:=by omega
      rw[e0,show ∀n,qv .f32 n=nf n from fun _=>rfl,hsf,qQ];rfl) (by
      unfold jc2;dsimp only;rw[if_neg (by omega),xq (by simp;omega)];simp) (by omega)
    change (jae (jc2 b) big (0,us,[]++zf (32-0) 0)).bind _=_
    rw[hit,jac];unfold jhv;have hend:=joC hok hx;have hc6:=(jgQ h1).1;rw[jEh (by rw[jdI,hul];omega),jac,jIa (by rw[jdI,hul];omega) (fun u hu=>by have:=jyL (hend u hu) (by simp;omega);exact⟨this.2.2.2.1,this.2.2.2.2⟩),jac]
   ·rw[if_pos (by simpa using h3),if_neg h3];rfl
  ·rw[if_neg (show ¬(jbh b==0)=true by simpa using h2),if_pos (show(jbh b != 0)=true by simpa using h2)];have hE:jfx c s b=jbh b:=by unfold jfx;rw[if_neg (by omega),if_pos h2]
   rw[hE,if_neg h2];rfl
 ·rw[if_pos h1,if_neg (by simpa using h1),if_pos (by simpa using h1)];have hE:jfx c s b=jbe c:=by unfold jfx;rw[if_pos h1]
  rw[hE,if_neg h1];rfl
def jAg {c:List (List Int)} (hc:c.length<1000) (h:jbe c=0):y25 c=some (zf c.length [0,0,0,0],0):=by
 unfold y25;rw[jfv c hc,jac,h,if_neg (by decide),if_pos (by omega),zi]
end Go.Sh
end

section
namespace Go.Sh
open Go Go.Proofs Go.RowKit Go.Sx
structure Rg (g:List (List NC)) (l:List Int):Prop where
 fw:Fw g
 ok:∀i,i<g.length->jbm g i=0
 ord:jdC (jbB g) g.length []=some l
variable {g:List (List NC)} {l:List Int}
def Rg.n (h:Rg g l):g.length<1000:=h.fw.n
def Rg.len (h:Rg g l):l.length=g.length:=by
 have:=(jnL (jbB g) g.length [] l h.ord).1;simp at this;omega
def Rg.at (h:Rg g l) {j:Nat} (hj:j<g.length):∃i:Nat,i<g.length∧l.getD j 0=(i:Int)∧jbn (l.take j) i=false∧jdu g (l.take j) i=true:=by
 obtain⟨_,_,h3⟩:=jnL (jbB g) g.length [] l h.ord;obtain⟨i,hx,hi⟩:=h3 j (Nat.zero_le _) (by rw[h.len];exact hj);obtain⟨h1,h2⟩:=jA5 hx;unfold jdY at h2;rw[zm,xt]at h2;exact⟨i,h1,hi,h2.1,h2.2⟩
def jyP {out:List Int} {k:Nat}:jbn out k=true<->∃j,j<out.length∧out.getD j 0=(k:Int):=by
 unfold jbn;rw[qM];constructor
 ·rintro ⟨x,hx,he⟩;obtain⟨j,hj,e⟩:=xf.1 hx;exact⟨j,hj,by simp only[za,zG hj,zY,e];simpa using he⟩
 ·rintro ⟨j,hj,e⟩;refine⟨out[j],zZ hj,?_⟩;simp only[za,zG hj,zY]at e;simpa using e
def jnP {α:Type} (l:List α) (d:α) {j k:Nat} (h:j<k):(l.take k).getD j d=l.getD j d:=by
 simp only[za,jw h]
def Rg.before (h:Rg g l) {j i u:Nat} (hj:j<g.length) (hi:l.getD j 0=(i:Int)) (hu:u<g.length) (hn:jdO g i u=true):∃j',j'<j∧l.getD j' 0=(u:Int):=by
 obtain⟨i',_,h2,_,h4⟩:=h.at hj;rw[hi]at h2;obtain rfl:i=i':=by omega
 unfold jdu at h4;rw[xt,xx]at h4;have:=h4 u (qJ.2 hu);rw[hn,f8,jZ,jE,jyP]at this;obtain⟨j',h5,h6⟩:=this;have hlt:j'<j:=by simp at h5;omega
 exact⟨j',hlt,by rw[jnP _ _ hlt]at h6;exact h6⟩
def Rg.lt_ne (h:Rg g l) {j j':Nat} (hj:j<g.length) (hl:j'<j):l.getD j' 0≠l.getD j 0:=fun e=>by
 obtain⟨i,_,h2,h3,_⟩:=h.at hj;have:jbn (l.take j) i=true:=jyP.2 ⟨j',by have:=h.len;simp;omega,by rw[jnP _ _ hl,e,h2]⟩;rw[h3]at this;cases this
def pig:∀(n:Nat) (l:List Nat),l.Nodup->(∀x∈l,x<n)->l.length<=n
 |0,[],_,_=>zq _
 |0,x::l,_,h=>absurd (h x zw) (by omega)
 |n+1,l,hd,h=>by
  have h1:=pig n (l.erase n) (hd.erase n) (fun x hx=>by
   rw[hd.mem_erase_iff]at hx;have:=h x hx.2;omega)
  rw[List.length_erase]at h1;split at h1<;>omega
def Rg.surj (h:Rg g l) {i:Nat} (hi:i<g.length):∃j,j<g.length∧l.getD j 0=(i:Int):=by
 apply jo;intro hno;have hL:=h.len;have hget:∀j (hj:j<l.length),l[j]=l.getD j 0:=fun j hj=>by simp[za,hj]
 have hnd:(l.map zg).Nodup:=by
  unfold List.Nodup;rw[List.pairwise_map,List.pairwise_iff_getElem];intro a b ha hb hab e;obtain⟨x,_,hx,_⟩:=h.at (j:=a) (by omega);obtain⟨y,_,hy,_⟩:=h.at (j:=b) (by omega);rw[hget a ha,hget b hb,hx,hy]at e;refine h.lt_ne (j:=b) (by omega) hab ?_;rw[hx,hy];simp only[zi]at e;rw[e]
 have hm:∀x∈l.map zg,∃j,j<g.length∧l.getD j 0=(x:Int)∧x<g.length:=by
  intro x hx;obtain⟨y,hy,rfl⟩:=qa.1 hx;obtain⟨j,hj,e⟩:=xf.1 hy;obtain⟨z,hz,hz2,_⟩:=h.at (j:=j) (by omega);rw[hget j hj,hz2]at e;subst e;exact⟨j,by omega,by rw[hz2];simp,by simpa using hz⟩
 have:=pig g.length (i::l.map zg) (List.nodup_cons.2 ⟨fun hx=>by
  obtain⟨j,h1,h2,_⟩:=hm i hx
  exact hno ⟨j,h1,h2⟩,hnd⟩) (fun x hx=>by
   rcases qp.1 hx with rfl|hx
   ·exact hi
   ·exact(hm x hx).choose_spec.2.2)
 simp at this;omega
def Rg.stand (h:Rg g l) {j i:Nat} (hj:j<g.length) (hi:l.getD j 0=(i:Int)) (hi2:i<g.length):nI g i 7=-1∨∃j' u:Nat,j'<j∧u<g.length∧nI g i 7=(u:Int)∧l.getD j' 0=(u:Int):=by
 rcases(jum (h.ok i hi2)).2 with h1|⟨h1,h2⟩
 ·exact .inl h1
 ·refine .inr ?_;obtain⟨u,hu⟩:∃u:Nat,nI g i 7=(u:Int):=⟨(nI g i 7).toNat,by omega⟩
  obtain⟨j',h3,h4⟩:=h.before (u:=u) hj hi (by omega) (by unfold jdO;simp[hu]);exact⟨j',u,h3,by omega,hu,h4⟩
def Rg.from (h:Rg g l) {j i k:Nat} (hj:j<g.length) (hi:l.getD j 0=(i:Int)) (hi2:i<g.length) (hk:k<(nL g i 2).length):∃j' u:Nat,j'<j∧u<g.length∧(nL g i 2).getD k 0=(u:Int)∧l.getD j' 0=(u:Int):=by
 have hm:(nL g i 2).getD k 0∈nL g i 2:=by simp[za,hk]
 obtain⟨h1,h2⟩:=(jum (h.ok i hi2)).1 _ hm;obtain⟨u,hu⟩:∃u:Nat,(nL g i 2).getD k 0=(u:Int):=⟨((nL g i 2).getD k 0).toNat,by omega⟩
 obtain⟨j',h3,h4⟩:=h.before (u:=u) hj hi (by omega) (by
  unfold jdO;rw[qK];exact .inl (qM.2 ⟨_,hm,by rw[hu];simp⟩))
 exact⟨j',u,h3,by omega,hu,h4⟩
def stF (st:Nat->Int) (fb:Nat->Bool):Nat->Int->Int
 |0,u=>u
 |k+1,u=>if 0<=u∧fb u.toNat=true then stF st fb k (st u.toNat)else u
def jhE (g:List (List NC)) (fb:Nat->Bool) (u:Int):Int:=stF (fun i=>nI g i 7) fb g.length u
def jur (st:Nat->Int) (fb:Nat->Bool):∀k,stF st fb k (-1)=-1
 |0=>rfl
 |k+1=>by unfold stF;rw[if_neg (by omega)]
def jyQ (h:Rg g l) (fb:Nat->Bool):∀j,j<g.length->∀k,j<k->stF (fun i=>nI g i 7) fb k (l.getD j 0)=stF (fun i=>nI g i 7) fb (j+1) (l.getD j 0):=by
 intro j
 induction j using yX with
 |_ j ih =>
  intro hj k hk;obtain⟨i,hi,e,_⟩:=h.at hj;obtain⟨m,rfl⟩:∃m,k=m+1:=⟨k-1,by omega⟩
  rw[e];unfold stF
  by_cases hf:fb i=true
  ·rw[if_pos ⟨by omega,by simpa using hf⟩,if_pos ⟨by omega,by simpa using hf⟩,zi];rcases h.stand hj e hi with h1|⟨j',u,h1,h2,h3,h4⟩
   ·rw[h1,jur,jur]
   ·rw[h3,<-h4,ih j' h1 (by omega) m (by omega),ih j' h1 (by omega) j (by omega)]
  ·rw[if_neg (fun hn=>hf (by simpa using hn.2)),if_neg (fun hn=>hf (by simpa using hn.2))]
def jEl (h:Rg g l) (fb:Nat->Bool) {j i:Nat} (hj:j<g.length) (hi:l.getD j 0=(i:Int)) (hi2:i<g.length):jhE g fb (i:Int)=if fb i=true then(if nI g i 7=-1 then -1 else jhE g fb (nI g i 7))else(i:Int):=by
 unfold jhE;obtain⟨m,hm⟩:∃m,g.length=m+1:=⟨g.length-1,by omega⟩
 rw[hm]
 conv=>lhs;unfold stF
 by_cases hf:fb i=true
 ·rw[if_pos ⟨by omega,by simpa using hf⟩,if_pos hf,zi];rcases h.stand hj hi hi2 with h1|⟨j',u,h1,h2,h3,h4⟩
  ·rw[h1,jur,if_pos rfl]
  ·rw[if_neg (by omega),h3,<-h4,jyQ h fb j' (by omega) m (by omega),jyQ h fb j' (by omega) (m+1) (by omega)]
 ·rw[if_neg (fun hn=>hf (by simpa using hn.2)),if_neg hf]
def jIb (h:Rg g l) (fb:Nat->Bool):∀j,j<g.length->jhE g fb (l.getD j 0)=-1∨∃j' i:Nat,j'<=j∧i<g.length∧l.getD j' 0=(i:Int)∧jhE g fb (l.getD j 0)=(i:Int)∧fb i=false:=by
 intro j
 induction j using yX with
 |_ j ih =>
  intro hj;obtain⟨i,hi,e,_⟩:=h.at hj;rw[e,jEl h fb hj e hi]
  by_cases hf:fb i=true
  ·rw[if_pos hf];rcases h.stand hj e hi with h1|⟨j',u,h1,h2,h3,h4⟩
   ·rw[if_pos h1];exact .inl rfl
   ·rw[if_neg (by omega),h3,<-h4];rcases ih j' h1 (by omega)with h5|⟨j2,i2,h5,h6⟩
    ·exact .inl h5
    ·exact .inr ⟨j2,i2,by omega,h6⟩
  ·rw[if_neg hf];exact .inr ⟨j,i,zq _,hi,e,rfl,by simpa using hf⟩
def jdD (g:List (List NC)) (fb:Nat->Bool):List Int:=(zo g.length).map fun(i:Nat)=>jhE g fb (i:Int)
def jBa (g:List (List NC)) (fb:Nat->Bool):(jdD g fb).length=g.length:=by simp[jdD]
def jBb (g:List (List NC)) (fb:Nat->Bool) {i:Nat} (hi:i<g.length):(jdD g fb).getD i 0=jhE g fb (i:Int):=by simp[jdD,za,hi]
def ja8 {α:Type} (l:List α) (i j:Nat) (x d:α) (hi:i<l.length):(l.set i x).getD j d=if i=j then x else l.getD j d:=by
 simp only[za,List.getElem?_set,hi,if_true];split<;>rfl
def jvD {α:Type} {l:List α} (d:α) {i:Nat} (h:i<l.length):l.getD i d=l[i]:=by simp[za,h]
def jnQ (h:Rg g l) {j j' i i':Nat} (hj:j<g.length) (hl:j'<j) (e:l.getD j 0=(i:Int)) (e':l.getD j' 0=(i':Int)):i≠i':=fun hn=>h.lt_ne hj hl (by rw[e,e',hn])
end Go.Sh
end

section
namespace Go.Sh
open Go Go.Proofs Go.RowKit Go.Sx
variable {g:List (List NC)} {l:List Int}
def jyR (h:Rg g l) (nm:ByteArray) (failed:List Bool) (hf:failed.length=g.length):y17 nm g l failed=some (jdD g fun i=>failed.getD i false):=by
 have hn:=h.n;have hL:=h.len;unfold y17;rw[if_pos (by omega),zi]
 have key:∃y,jae (y29 g l failed) big (0,zf g.length 0)=some y∧y=jdD g fun i=>failed.getD i false:=by
  refine jmP (body:=y29 g l failed)
   (fun x=>∃k:Nat,k<=g.length∧x.1=(k:Int)∧x.2.length=g.length∧∀j,j<k->x.2.getD (l.getD j 0).toNat 0=jhE g (fun i=>failed.getD i false) (l.getD j 0))
   (fun x=>(g.length+1-x.1.toNat)) (fun y=>y=jdD g fun i=>failed.getD i false) (fun x hx=>?_) big (0,zf g.length 0) ⟨0,by omega,rfl,by simp,fun j hj=>absurd hj (by omega)⟩ (by have:big=18446744073709551616:=rfl;simp;omega)
  obtain⟨a,out⟩:=x;obtain⟨k,hk,h1,h2,h3⟩:=hx;obtain rfl:a=(k:Int):=h1;have h2:out.length=g.length:=h2
  by_cases hkn:k<g.length
  ·obtain⟨i,hi,e,_⟩:=h.at hkn;have hs:=jEl h (fun i=>failed.getD i false) hkn e hi
   have hnew:∀v:Int,v=jhE g (fun i=>failed.getD i false) (i:Int)->∀j,j<k+1->(out.set i v).getD (l.getD j 0).toNat 0=jhE g (fun i=>failed.getD i false) (l.getD j 0):=by
    intro v hv j hj;rw[ja8 _ _ _ _ _ (by omega)]
    by_cases hjk:j=k
    ·subst hjk;rw[e,zi,if_pos rfl,hv]
    ·obtain⟨i',_,e',_⟩:=h.at (j:=j) (by omega);have:=jnQ h hkn (j':=j) (by omega) e e';rw[e',zi,if_neg this];have:=h3 j (by omega);rw[e',zi]at this;exact this
   left
   have hb:y29 g l failed ((k:Int),out)=some (.inl ((k:Int)+1,out.set i (jhE g (fun i=>failed.getD i false) (i:Int)))):=by
    unfold y29;simp only[zi,e];rw[if_pos (by omega),if_pos (by omega),if_pos (by omega),if_pos (by omega),if_pos hi,if_pos (by omega),if_pos (by omega),jao (by omega),hs];cases hfi:failed.getD i false with
    |false=>rw[if_pos (by simp),if_pos (by omega),if_pos (by omega),if_neg (by simp)]
    |true =>
     rw[if_neg (by simp),if_pos rfl];rcases h.stand hkn e hi with h5|⟨j',u,h5,h6,h7,h8⟩
     ·rw[if_pos (by rw[h5];rfl),if_pos (by omega),if_pos (by omega),if_pos h5]
     ·have hu:=h3 j' (by omega);rw[h8,zi]at hu;rw[if_neg (by rw[h7];simp),h7,if_pos (by omega),zi,if_pos (by omega),if_pos (by omega),if_pos (by omega),if_neg (by omega),hu]
   refine⟨_,hb,⟨k+1,by omega,by simp,by simp[h2],hnew _ rfl⟩,by simp;omega⟩
  ·right;refine⟨out,?_,?_⟩
   ·unfold y29;rw[if_neg (by show ¬(k:Int)<_;omega)]
   ·refine xH (by rw[h2,jBa]) fun i h5 h6=>?_;have hi:i<g.length:=by omega
    obtain⟨j,hj,e⟩:=h.surj hi;have h7:=h3 j (by omega);rw[e,zi]at h7;have h8:=jBb g (fun i=>failed.getD i false) hi;rw[<-jvD 0 h5,<-jvD 0 h6,h7,h8]
 obtain⟨y,hy,hp⟩:=key;rw[hy,hp];rfl
end Go.Sh
end

section
namespace Go.Sh
open Go Go.Proofs Go.RowKit Go.Sx
abbrev sp_123b:jaa->jaa:=sp_123_140
def sp_123b_ok {sp:jaa} (h:jab Tryz.prog sp):jab Tryz.prog (sp_123b sp):=sp_123_140_ok h
open Go.IntKind (wrap)
def jf7:List SV:=[.c (.p [.d,.x (.st zS []),.r (.ints .i64 [])]),.c (.r (.bools []))]
def je5 (u5:List (List NC)) (u6:List Int) (u30:List Bool) (r0:List Int) (x0:(Int × List Bool)):Option ((Int × List Bool) ⊕ (List Bool)) :=
 if x0.1<(↑u6.length:Int)then
  if 0<=x0.1∧x0.1<(↑u6.length:Int)then
  if zg x0.1<ze u6 then
   if 0<=za u6 x0.1.toNat (0:Int)∧za u6 x0.1.toNat 0<(↑u5.length:Int)then
   if zg (za u6 x0.1.toNat (0:Int))<ze u5 then
    if 0<=za u6 x0.1.toNat (0:Int)∧za u6 x0.1.toNat 0<(↑u30.length:Int)then
    if zg (za u6 x0.1.toNat (0:Int))<ze u30 then
     if(!za u30 (zg (za u6 x0.1.toNat (0:Int))) false)=true then
     if(nI u5 (zg (za u6 x0.1.toNat (0:Int))) (1:Nat)==0)=true then
      if 0<=za u6 x0.1.toNat (0:Int)∧za u6 x0.1.toNat 0<(↑x0.2.length:Int)then
      if zg (za u6 x0.1.toNat (0:Int))<ze x0.2 then
       some (.inl ((wrap .i64 (x0.1+1),qw x0.2 (zg (za u6 x0.1.toNat (0:Int))) true)))
      else none
      else none
     else
      zb (y35 (nL u5 (zg (za u6 x0.1.toNat (0:Int))) (2:Nat)) r0 x0.2) fun r1 =>
      if 0<=za u6 x0.1.toNat (0:Int)∧za u6 x0.1.toNat 0<(↑x0.2.length:Int)then
      if zg (za u6 x0.1.toNat (0:Int))<ze x0.2 then
       some (.inl ((wrap .i64 (x0.1+1),qw x0.2 (zg (za u6 x0.1.toNat (0:Int))) r1)))
      else none
      else none
     else
     if 0<=za u6 x0.1.toNat (0:Int)∧za u6 x0.1.toNat 0<(↑x0.2.length:Int)then
      if zg (za u6 x0.1.toNat (0:Int))<ze x0.2 then
      some (.inl ((wrap .i64 (x0.1+1),qw x0.2 (zg (za u6 x0.1.toNat (0:Int))) false)))
      else none
     else none
    else none
    else none
   else none
   else none
  else none
  else none
 else
  some (.inr x0.2)
def je6 (u4:List Bool):Option (List Bool) :=
 some u4
def y18 (u7:ByteArray) (u5:List (List NC)) (u6:List Int) (u30:List Bool):Option (List Bool) :=
 zb (y17 u7 u5 u6 u30) fun r0 =>
 if 0<=(↑u5.length:Int)∧(↑u5.length:Int)=(↑u5.length:Int)∧(↑(1:Nat):Int)*(↑u5.length:Int)<=281474976710656∧(↑u5.length:Int)<=9223372036854775807 then
  zb (jae (je5 u5 u6 u30 r0) big (((0:Int),zf (zg (↑u5.length:Int)) false))) (je6)
 else none
def jf8:List Lf->Option GT
 |[.d (.s u7),.x (.st [.s,.i .i64,.ints .i64,.ints .i64,.ints .i64,.i .i64,.recs 5,.i .i64] u5),.r (.ints .i64 u6),.r (.bools u30)]=>some (.leaf (ok (y18 u7 u5 u6 u30)) [.c (.row 4 (.bools ((val (y18 u7 u5 u6 u30)))))])
 |_=>none
abbrev sp_96:jaa->jaa:=jan 96 true (jah jf7 jf8)
abbrev jj9 (u7:ByteArray) (u5:List (List NC)) (u6:List Int) (u30 r:List Bool):Lp ((Int × List Bool) × Nat) (Int × List Bool) (List Bool) (List Bool) (List Bool) :=
 ⟨fun z=>z.1,fun z=>z.2,fun z x n=>(x,n),fun z=>je5 u5 u6 u30 (val (y17 u7 u5 u6 u30)),fun z=>je6,fun z=>top r,fun z=>0,[.c fun _=>0,.c fun _=>0,.c fun _=>0,.c fun _=>(↑u6.length:Int),.c fun vv=>vv.1.1,.c fun _=>u7,.c fun _=>u30,.c fun _=>u6,.c fun _=>u5,.c fun _=>val (y17 u7 u5 u6 u30),.c fun vv=>vv.1.2]⟩
def jus (u7:ByteArray) (u5:List (List NC)) (u6:List Int) (u30 r:List Bool):Sk (top r) (zb (jae (je5 u5 u6 u30 (val (y17 u7 u5 u6 u30))) big (((0:Int),zf (zg (↑u5.length:Int)) false))) (je6)) :=
 .loop (jj9 u7 u5 u6 u30 r) (fun kk=>(((0:Int),zf (zg (↑u5.length:Int)) false),big)) fun z0 =>
 .br
 (.ob (.ob (.obT (.ob (.ob (.ob (.ob (.brB
 (.brB
 (.ob (.ob (.next)))
 (.call (.ob (.ob (.next)))))
 (.ob (.ob (.next)))))))))))
 (.exit (.obT (.rc)))
def jwv (u7:ByteArray) (u5:List (List NC)) (u6:List Int) (u30 r:List Bool):Sk (top r) (y18 u7 u5 u6 u30) :=
 .call (.obT (.ob (.obT (jus u7 u5 u6 u30 r))))
def jut (u7:ByteArray) (u5:List (List NC)) (u6:List Int) (u30 r:List Bool) (h:zb (y18 u7 u5 u6 u30) some=some r):jaG Tryz.f96 ((sp_93 (sp_140 (sp_123b sp0)))) (fun gs id _=>match id with
 |0=>some ⟨(Int × List Bool) × Nat,fun z=>⟨[(0,.w (.c (.p 2 0 1 0))),(1,.w (.c (.o 3))),(5,.w (.c (.p 4 0 1 0))),(6,.w (.c (.p 5 0 1 0))),(23,.w (.c (.o 1))),(24,.w (.c (.d (.i .i64 ((↑u6.length:Int)))))),(25,.w (.c (.d (.i .i64 z.1.1))))],[(2,.ebox [.d (.s u7),.o 0,.o 1]),(3,.ext (.bools u30)),(4,.box 31 [.o 6]),(5,.box 133 [.o 7]),(1,.ext (.ints .i64 u6)),(0,.xext (XC.st zS u5)),(6,.row 3 (.ints .i64 (val (y17 u7 u5 u6 u30)))),(7,.row 4 (.bools z.1.2))],8⟩,fun z=>(jj9 u7 u5 u6 u30 r).inv z,fun z=>z.2⟩
 |_=>none) (jaC jf7 [.d (.s u7),.x (.st zS u5),.r (.ints .i64 u6),.r (.bools u30)]) [.c (.row 4 (.bools r))] :=
 Sk.vc (jwv u7 u5 u6 u30 r) (by kernel_rfl) h
def juu:jaf Tryz.prog 96 true (jah jf7 jf8):=by
 refine jal (sp:=(sp_93 (sp_140 (sp_123b sp0)))) (fn:=Tryz.f96) (body:=bodyOf Tryz.f96) mixed (sp_93_ok (sp_140_ok (sp_123b_ok jaj))) Tryz.func96 (by kernel_rfl) (by kernel_rfl) fun ls t h ho b hb=>?_;unfold jf8 at h;split at h
 ·rename_i u7 u5 u6 u30;cases h;obtain rfl:=jap hb;exact⟨zh (by kernel_rfl),_,_,jut u7 u5 u6 u30 _ (jai ho)⟩
 ·cases h
def sp_96_ok {sp:jaa} (h:jab Tryz.prog sp):jab Tryz.prog (sp_96 sp):=jag juu h
def jqV:List SV:=[.a [.d,.x (.st zS [])]]
def jvE (u1:List (List NC)) (x0:Int × List Int) (r2 r3:List Bool) (x1:Int):Option (Int ⊕ (List Int)) :=
 if x1<(↑u1.length:Int)then
  if 0<=x1∧x1<(↑u1.length:Int)then
  if zg x1<ze u1 then
   if(nI u1 x1.toNat (1:Nat)==4)=true then
   if(x1 != x0.1)=true then
    if 0<=x1∧x1<(↑r2.length:Int)then
    if zg x1<ze r2 then
     if(za r2 x1.toNat false)=true then
     if 0<=x1∧x1<(↑r3.length:Int)then
      if zg x1<ze r3 then
      if(!za r3 x1.toNat false)=true then
       if(ze x0.2+ze [x0.1])*8<=140737488355328∧ze x0.2+ze [x0.1]<=9223372036854775807 then
       some (.inr (x0.2++[x0.1]))
       else none
      else
       some (.inl (wrap .i64 (x1+1)))
      else none
     else none
     else
     some (.inl (wrap .i64 (x1+1)))
    else none
    else none
   else
    some (.inl (wrap .i64 (x1+1)))
   else
   some (.inl (wrap .i64 (x1+1)))
  else none
  else none
 else
  some (.inr x0.2)
def jvF (x0:Int × List Int) (u26:List Int):Option ((Int × List Int) ⊕ (List Int)) :=
 some (.inl ((wrap .i64 (x0.1+1),u26)))
def jnR (u3:ByteArray) (u1:List (List NC)) (r1:List Int) (r2:List Bool) (x0:(Int × List Int)):Option ((Int × List Int) ⊕ (List Int)) :=
 if x0.1<(↑u1.length:Int)then
  if 0<=(↑u1.length:Int)∧(↑u1.length:Int)=(↑u1.length:Int)∧(↑(1:Nat):Int)*(↑u1.length:Int)<=281474976710656∧(↑u1.length:Int)<=9223372036854775807 then
  if 0<=x0.1∧x0.1<(↑(ze (zf (zg (↑u1.length:Int)) false)):Int)then
   if zg x0.1<ze (zf (zg (↑u1.length:Int)) false)then
   zb (y18 u3 u1 r1 (qw (zf (zg (↑u1.length:Int)) false) x0.1.toNat true)) fun r3 =>
   zb (jae (jvE u1 x0 r2 r3) big (0:Int)) (jvF x0)
   else none
  else none
  else none
 else
  some (.inr x0.2)
def jnS (u4:List Int):Option (List Int × Int) :=
 some ((u4,0))
def jka (u3:ByteArray) (u1:List (List NC)):Option (List Int × Int) :=
 if(jih u3 u1)=true then
  zb (jct u3 u1) fun r0 =>
  some ([],nzI r0)
 else
  zb (jas u3 u1) fun r1 =>
  if 0<=(↑u1.length:Int)∧(↑u1.length:Int)=(↑u1.length:Int)∧(↑(1:Nat):Int)*(↑u1.length:Int)<=281474976710656∧(↑u1.length:Int)<=9223372036854775807 then
  zb (y18 u3 u1 r1 (zf (zg (↑u1.length:Int)) false)) fun r2 =>
  zb (jae (jnR u3 u1 r1 r2) big (((0:Int),[]))) (jnS)
  else none
def jqW:List Lf->Option GT
 |[.d (.s u3),.x (.st [.s,.i .i64,.ints .i64,.ints .i64,.ints .i64,.i .i64,.recs 5,.i .i64] u1)]=>some (.leaf (ok (jka u3 u1)) [.c (.row 3 (.ints .i64 ((val (jka u3 u1)).1))),.c (.d (.i .i64 ((val (jka u3 u1)).2)))])
 |_=>none
abbrev sp_49:jaa->jaa:=jan 49 true (jah jqV jqW)
abbrev jnT (u3:ByteArray) (u1:List (List NC)) (r:List Int × Int):Lp ((Int × List Int) × Nat) (Int × List Int) (List Int) (List Int × Int) (List Int × Int) :=
 ⟨fun z=>z.1,fun z=>z.2,fun z x n=>(x,n),fun z=>jnR u3 u1 (val (jas u3 u1)) (val (y18 u3 u1 (val (jas u3 u1)) (zf (zg (↑u1.length:Int)) false))),fun z=>jnS,fun z=>top r,fun z=>0,[.c fun _=>0,.c fun _=>0,.c fun _=>(↑u1.length:Int),.c fun vv=>vv.1.1,.c fun _=>u3,.c fun _=>u3,.c fun _=>val (y18 u3 u1 (val (jas u3 u1)) (zf (zg (↑u1.length:Int)) false)),.c fun vv=>vv.1.2,.c fun _=>u1,.c fun _=>val (jas u3 u1)]⟩
abbrev jvG (u3:ByteArray) (u1:List (List NC)) (r:List Int × Int) (m1:Nat):Lp ((Int × List Int) × Nat × Int × Nat) Int (List Int) (((Int × List Int) ⊕ (List Int))) (List Int × Int) :=
 ⟨fun z=>z.2.2.1,fun z=>z.2.2.2,fun z x n=>(z.1,z.2.1,x,n),fun z=>jvE u1 z.1 (val (y18 u3 u1 (val (jas u3 u1)) (zf (zg (↑u1.length:Int)) false))) (val (y18 u3 u1 (val (jas u3 u1)) (qw (zf (zg (↑u1.length:Int)) false) z.1.1.toNat true))),fun z=>jvF z.1,fun z=>(jnT u3 u1 r).cx (z.1,m1),fun z=>z.2.1,[.c fun _=>0,.c fun _=>0,.c fun vv=>vv.1.1,.c fun _=>(↑u1.length:Int),.c fun vv=>vv.1.1,.c fun _=>(↑u1.length:Int),.c fun vv=>vv.2.2.1,.c fun _=>u3,.c fun _=>u3,.c fun _=>val (y18 u3 u1 (val (jas u3 u1)) (zf (zg (↑u1.length:Int)) false)),.c fun vv=>vv.1.2,.c fun vv=>val (y18 u3 u1 (val (jas u3 u1)) (qw (zf (zg (↑u1.length:Int)) false) vv.1.1.toNat true)),.c fun _=>u1,.c fun _=>val (jas u3 u1)]⟩
def jEm (u3:ByteArray) (u1:List (List NC)) (r:List Int × Int):Sk (top r) (zb (jae (jnR u3 u1 (val (jas u3 u1)) (val (y18 u3 u1 (val (jas u3 u1)) (zf (zg (↑u1.length:Int)) false)))) big (((0:Int),[]))) (jnS)) :=
 .loopQ (jnT u3 u1 r) [.c fun _=>0,.c fun _=>0,.c fun _=>(↑u1.length:Int),.c fun vv=>vv.1.1,.c fun _=>u3,.c fun _=>u3,.c fun _=>val (y18 u3 u1 (val (jas u3 u1)) (zf (zg (↑u1.length:Int)) false)),.p fun vv=>ze vv.1.2=(0:Nat),.c fun _=>u1,.c fun _=>val (jas u3 u1)] (fun kk=>(((0:Int),[]),big)) (fun z0 =>
 .br
 (.ob (.ob (.ob (.call (.loop (jvG u3 u1 r z0.2) (fun kk=>(z0.1,kk,0,big)) fun z1 =>
 .br
 (.ob (.ob (.brB
 (.brB
 (.ob (.ob (.brB
 (.ob (.ob (.brB
 (.ob (.exit (.next)))
 (.next))))
 (.next))))
 (.next))
 (.next))))
 (.exit (.next)))))))
 (.exit (.obT (.obT (.rc))))) (fun _=>⟨rfl,trivial⟩)
def jGC (u3:ByteArray) (u1:List (List NC)) (r:List Int × Int):Sk (top r) (jka u3 u1) :=
 .brB
 (.call (.obT (.obT (.ret (fun r=>(Ob (ze r.1=(0:Nat)) ∧
 (Ob (nzI (val (jct u3 u1))=r.2) ∧
 True))) ⟨⟨rfl⟩,⟨⟨rfl⟩,trivial⟩⟩))))
 (.call (.ob (.call (jEm u3 u1 r))))
def jEn (u3:ByteArray) (u1:List (List NC)) (r:List Int × Int) (h:zb (jka u3 u1) some=some r):jaG Tryz.f49 ((sp_80 (sp_96 sp0))) (fun gs id _=>match id with
 |0=>some ⟨(Int × List Int) × Nat,fun z=>⟨[(1,.w (.c (.p 1 0 1 0))),(4,.w (.c (.p 2 0 1 0))),(6,.w (.c (.o 3))),(7,.w (.c (.o 4))),(29,.w (.c (.d (.i .i64 ((↑u1.length:Int)))))),(30,.w (.c (.d (.i .i64 z.1.1))))],[(1,.box 24 [.d (.s u3),.o 0]),(2,.box 130 [.d (.s u3),.o 0,.o 5]),(3,.row 4 (.bools (val (y18 u3 u1 (val (jas u3 u1)) (zf (zg (↑u1.length:Int)) false))))),(4,.row 3 (.ints .i64 z.1.2)),(0,.xext (XC.st zS u1)),(5,.row 3 (.ints .i64 (val (jas u3 u1))))],6⟩,fun z=>(jnT u3 u1 r).inv z,fun z=>z.2⟩
 |2=>some ⟨(Int × List Int) × Nat × Int × Nat,fun z=>⟨[(1,.w (.c (.p 1 0 1 0))),(4,.w (.c (.p 2 0 1 0))),(6,.w (.c (.o 3))),(7,.w (.c (.o 4))),(8,.w (.c (.d (.i .i64 (z.1.1))))),(10,.w (.c (.o 5))),(29,.w (.c (.d (.i .i64 ((↑u1.length:Int)))))),(30,.w (.c (.d (.i .i64 (z.1.1))))),(44,.w (.c (.o 0))),(45,.w (.c (.d (.i .i64 ((↑u1.length:Int)))))),(46,.w (.c (.d (.i .i64 z.2.2.1))))],[(1,.box 24 [.d (.s u3),.o 0]),(2,.box 130 [.d (.s u3),.o 0,.o 6]),(3,.row 4 (.bools (val (y18 u3 u1 (val (jas u3 u1)) (zf (zg (↑u1.length:Int)) false))))),(4,.row 3 (.ints .i64 (z.1.2))),(5,.row 4 (.bools (val (y18 u3 u1 (val (jas u3 u1)) (qw (zf (zg (↑u1.length:Int)) false) z.1.1.toNat true))))),(0,.xext (XC.st zS u1)),(6,.row 3 (.ints .i64 (val (jas u3 u1))))],7⟩,fun z=>(jvG u3 u1 r (gs.getD 0 0)).inv z,fun z=>z.2.2.2⟩
 |_=>none) (jaC jqV [.d (.s u3),.x (.st zS u1)]) [.c (.row 3 (.ints .i64 r.1)),.c (.d (.i .i64 r.2))] :=
 Sk.vc (jGC u3 u1 r) (by kernel_rfl) h
def jEo:jaf Tryz.prog 49 true (jah jqV jqW):=by
 refine jal (sp:=(sp_80 (sp_96 sp0))) (fn:=Tryz.f49) (body:=bodyOf Tryz.f49) mixed (sp_80_ok (sp_96_ok jaj)) Tryz.func49 (by kernel_rfl) (by kernel_rfl) fun ls t h ho b hb=>?_;unfold jqW at h;split at h
 ·rename_i u3 u1;cases h;obtain rfl:=jap hb;exact⟨zh (by kernel_rfl),_,_,jEn u3 u1 _ (jai ho)⟩
 ·cases h
def sp_49_ok {sp:jaa} (h:jab Tryz.prog sp):jab Tryz.prog (sp_49 sp):=jag jEo h
end Go.Sh
end

section
namespace Go.Sh
open Go Go.Proofs Go.RowKit Go.Sx
variable {g:List (List NC)} {l:List Int}
def jqX (h:Rg g l) {i:Nat} (hi:i<g.length):∀k,k<(nL g i 2).length->∃u:Nat,u<g.length∧(nL g i 2).getD k 0=(u:Int):=fun k hk=>by
 obtain⟨j,hj,e⟩:=h.surj hi;obtain⟨_,u,_,h1,h2,_⟩:=h.from hj e hi hk;exact⟨u,h1,h2⟩
def jqY {α:Type}:∀(l:List α) (i:Nat) (d x:α),l.getD i d=x->i<l.length->l.set i x=l
 |[],i,_,_,_,h=>by cases h
 |a::r,0,d,x,h,_=>by simp at h;simp[h]
 |a::r,i+1,d,x,h,hl=>by
  simp only[List.set_cons_succ];rw[jqY r i d x (by simpa using h) (by simpa using hl)]
end Go.Sh
end

section
namespace Go.Sh
open Go Go.Proofs Go.RowKit Go.Sx
variable {g:List (List NC)} {l:List Int}
def jBc {i:Nat} (hi:¬i<g.length):(cpU g).getD i []=g.getD i []:=by
 simp only[za];rw[qb (by rw[jdH];omega),qb (by omega)]
def cpI (i:Nat):nI (cpU g) i 1=nI g i 1∧nI (cpU g) i 5=nI g i 5∧nI (cpU g) i 7=nI g i 7:=by
 by_cases hi:i<g.length
 ·exact cp_I hi
 ·unfold nI;rw[jBc hi];exact⟨rfl,rfl,rfl⟩
def cpL (i:Nat):nL (cpU g) i 2=nL g i 2∧nL (cpU g) i 3=nL g i 3∧nL (cpU g) i 4=nL g i 4:=by
 by_cases hi:i<g.length
 ·exact jqR hi
 ·unfold nL;rw[jBc hi];exact⟨rfl,rfl,rfl⟩
def jEp (g:List (List NC)):jbB (cpU g)=jbB g:=by
 funext out;unfold jbB
 have:jdY (cpU g) out=jdY g out:=by
  funext i;unfold jdY jdu jdO;rw[jdH,(cpL i).1,(cpI i).2.2]
 rw[jdH,this]
def Rg.cp (h:Rg g l):Rg (cpU g) l:=⟨cp_fw h.fw,fun i hi=>by rw[jdH]at hi;rw[jD3 hi];exact h.ok i hi,by rw[jEp,jdH];exact h.ord⟩
def rg_of {nm:ByteArray} (hw:Fw g) (h:(cg nm g).2=0) (ho:jdC (jbB g) g.length []=some l):Rg g l:=⟨hw,jun h,ho⟩
end Go.Sh
end

section
namespace Go.Sh
open Go Go.Proofs Go.RowKit Go.Sx
abbrev sp_138:jaa->jaa:=sp_138_139
def sp_138_ok {sp:jaa} (h:jab Tryz.prog sp):jab Tryz.prog (sp_138 sp):=sp_138_139_ok h
open Go.IntKind (wrap)
def y193:List SV:=[.c (.p [.d,.x (.st zS []),.r (.ints .i64 [])]),.c (.r (.recs 2 []))]
def y56 (u5:List (List NC)) (l:List (List Int)) (x0:Int):Option (Int ⊕ ((Int × Int) ⊕ Unit)) :=
 if x0<(↑l.length:Int)then
  if 0<=x0∧x0<(↑l.length:Int)then
  if zg x0<ze l then
   zb (y47 (za (za l x0.toNat []) 0 (0:Int)) (0:Int) (wrap .i64 ((↑u5.length:Int)-1))) fun r0 =>
   if(!r0)=true then
   some (.inr ((.inl ((x0,6)))))
   else
   if 0<=zM none (0:Int)∧zM none 0<=zM (some x0) (↑l.length:Int)∧zM (some x0) (↑l.length:Int)<=(↑l.length:Int)then
    zb (y5 (yH (zg (zM (some x0) (↑l.length:Int))-0) (yI (0:Nat) l)) (za (za l x0.toNat []) 0 (0:Int)) (za (za l x0.toNat []) 1 (0:Int))) fun r1 =>
    if(r1)=true then
    some (.inr ((.inl ((x0,26)))))
    else
    zb (y47 (za (za l x0.toNat []) 1 (0:Int)) (0:Int) (16:Int)) fun r2 =>
    if(!r2)=true then
     some (.inr ((.inl ((x0,2)))))
    else
     some (.inl (wrap .i64 (x0+1)))
   else none
  else none
  else none
 else
  some (.inr ((.inr ())))
def jjl (u4:Int × Int):Option (Int × Int) :=
 some (u4.1,u4.2)
def jjm (u9:Unit):Option (Int × Int) :=
 some (((0:Int),0))
def y179:((Int × Int) ⊕ Unit)->Option (Int × Int) :=
 (Sum.elim (jjl) (jjm))
def y40 (u7:ByteArray) (u5:List (List NC)) (u6:List Int) (l:List (List Int)):Option (Int × Int) :=
 if(↑l.length:Int)>24 then
  some (((0:Int),8))
 else
  zb (jae (y56 u5 l) big (0:Int)) (y179)
def y194:List Lf->Option GT
 |[.d (.s u7),.x (.st [.s,.i .i64,.ints .i64,.ints .i64,.ints .i64,.i .i64,.recs 5,.i .i64] u5),.r (.ints .i64 u6),.r (.recs 2 l)]=>some (.leaf (ok (y40 u7 u5 u6 l)) [.c (.d (.i .i64 ((val (y40 u7 u5 u6 l)).1))),.c (.d (.i .i64 ((val (y40 u7 u5 u6 l)).2)))])
 |_=>none
abbrev sp_92:jaa->jaa:=jan 92 true (jah y193 y194)
abbrev y285 (u7:ByteArray) (u5:List (List NC)) (u6:List Int) (l:List (List Int)) (r:Int × Int):Lp (Int × Nat) Int (((Int × Int) ⊕ Unit)) (Int × Int) (Int × Int) :=
 ⟨fun z=>z.1,fun z=>z.2,fun z x n=>(x,n),fun z=>y56 u5 l,fun z=>y179,fun z=>top r,fun z=>0,[.c fun _=>0,.c fun _=>(↑l.length:Int),.c fun vv=>vv.1,.c fun _=>u7,.c fun _=>l,.c fun _=>u5,.c fun _=>u6]⟩
def jll (u7:ByteArray) (u5:List (List NC)) (u6:List Int) (l:List (List Int)) (r:Int × Int):Sk (top r) (zb (jae (y56 u5 l) big (0:Int)) (y179)) :=
 .loop (y285 u7 u5 u6 l r) (fun kk=>((0:Int),big)) fun z0 =>
 .br
 (.ob (.ob (.obT (.call (.brB
 (.exit (.obT (.obT (.rc))))
 (.ob (.call (.brB
 (.exit (.obT (.obT (.rc))))
 (.call (.brB
 (.exit (.obT (.obT (.rc))))
 (.next)))))))))))
 (.exit (.obT (.obT (.rc))))
def jl6 (u7:ByteArray) (u5:List (List NC)) (u6:List Int) (l:List (List Int)) (r:Int × Int):Sk (top r) (y40 u7 u5 u6 l) :=
 .br
 (.obT (.obT (.rc)))
 (jll u7 u5 u6 l r)
def jlm (u7:ByteArray) (u5:List (List NC)) (u6:List Int) (l:List (List Int)) (r:Int × Int) (h:zb (y40 u7 u5 u6 l) some=some r):jaG Tryz.f92 ((sp_139 (sp_138 (sp_84 sp0)))) (fun gs id _=>match id with
 |0=>some ⟨Int × Nat,fun z=>⟨[(0,.w (.c (.p 2 0 1 0))),(1,.w (.c (.o 3))),(11,.w (.c (.o 3))),(12,.w (.c (.d (.i .i64 ((↑l.length:Int)))))),(13,.w (.c (.d (.i .i64 z.1))))],[(2,.ebox [.d (.s u7),.o 0,.o 1]),(3,.ext (.recs 2 l)),(0,.xext (XC.st zS u5)),(1,.ext (.ints .i64 u6))],4⟩,fun z=>(y285 u7 u5 u6 l r).inv z,fun z=>z.2⟩
 |_=>none) (jaC y193 [.d (.s u7),.x (.st zS u5),.r (.ints .i64 u6),.r (.recs 2 l)]) [.c (.d (.i .i64 r.1)),.c (.d (.i .i64 r.2))] :=
 Sk.vc (jl6 u7 u5 u6 l r) (by kernel_rfl) h
def jln:jaf Tryz.prog 92 true (jah y193 y194):=by
 refine jal (sp:=(sp_139 (sp_138 (sp_84 sp0)))) (fn:=Tryz.f92) (body:=bodyOf Tryz.f92) mixed (sp_139_ok (sp_138_ok (sp_84_ok jaj))) Tryz.func92 (by kernel_rfl) (by kernel_rfl) fun ls t h ho b hb=>?_;unfold y194 at h;split at h
 ·rename_i u7 u5 u6 l;cases h;obtain rfl:=jap hb;exact⟨zh (by kernel_rfl),_,_,jlm u7 u5 u6 l _ (jai ho)⟩
 ·cases h
def sp_92_ok {sp:jaa} (h:jab Tryz.prog sp):jab Tryz.prog (sp_92 sp):=jag jln h
end Go.Sh
end

section
namespace Go.Sh
open Go Go.Proofs Go.RowKit Go.Sx
variable {g:List (List NC)} {l:List Int}
def jjn {Y:Type} (n:Nat) (P:Nat->Bool) {body:Int->Option (Int ⊕ Y)} (hit:Nat->Y) (miss:Y) (hlen:n<9223372036854775807)
  (h1:∀i,i<n->P i=true->body (i:Int)=some (.inr (hit i)))
  (h2:∀i,i<n->P i=false->body (i:Int)=some (.inl ((i:Int)+1))) (h3:body (n:Int)=some (.inr miss)) :
  jae body big 0=some (match(zo n).findIdx? P with|some i=>hit i|none=>miss):=by
 have e:∀i,i<n->(zo n).getD i 0=i:=fun i hi=>by simp[za,hi]
 exact jaQ (zo n) 0 P hit miss (by simpa using hlen) (fun i hi hp=>by
  have hi:i<n:=by simpa using hi
  rw[e i hi]at hp;exact h1 i hi hp) (fun i hi hp=>by
  have hi:i<n:=by simpa using hi
  rw[e i hi]at hp;exact h2 i hi hp) (by rw[yq];exact h3)
def fU (l:List (List Int)) (i:Nat):Int:=(l.getD i []).getD 0 0
def fB (l:List (List Int)) (i:Nat):Int:=(l.getD i []).getD 1 0
def jdv (n:Nat) (l:List (List Int)) (i:Nat):Int :=
 if(!inB (fU l i) 0 ((n:Int)-1))=true then 6 else if((zo i).any fun k=>fU l k==fU l i)=true then 26 else if(!inB (fB l i) 0 16)=true then 2 else 0
def cf (n:Nat) (l:List (List Int)):Int × Int :=
 if(l.length:Int)>24 then(0,8)else match(zo l.length).findIdx? (fun i=>jdv n l i != 0)with
  |some i=>((i:Int),jdv n l i)
  |none=>(0,0)
def jJl (nm:ByteArray) (f:List (List Int)) (hn:g.length<1000):y60 nm g f=some (cf g.length f):=by
 unfold y60 cf
 by_cases h24:(f.length:Int)>24
 ·rw[if_pos h24,if_pos h24]
 ·rw[if_neg h24,if_neg h24]
  rw[jjn (body:=y79 g f) f.length (fun i=>jdv g.length f i != 0) (fun i=>.inl ((i:Int),jdv g.length f i)) (.inr ()) (by omega) (fun i hi hp=>?_) (fun i hi hp=>?_) (by
   unfold y79;rw[if_neg (by omega)])]
  ·cases (zo f.length).findIdx? (fun i=>jdv g.length f i != 0)<;>rfl
  all_goals
   have kin:=jcZ (body:=y78 f (i:Int)) i (fun k=>fU f k==fU f i) (.inl ()) (.inr ()) (by omega) (fun k hk hp=>by
    unfold y78;simp only[zi];rw[if_pos (by omega),if_pos (by omega),if_pos (by omega),if_pos (by omega),if_pos hi];exact if_pos hp) (fun k hk hp=>by
    unfold y78;simp only[zi];rw[if_pos (by omega),if_pos (by omega),if_pos (by omega),if_pos (by omega),if_pos hi,jao (by omega)];exact if_neg (by show ¬((fU f k==fU f i)=true);rw[hp];exact qx)) (by
    unfold y78;rw[if_neg (by omega)])
   unfold y79 y213 y279 y280;simp only[zi];rw[if_pos (by omega),if_pos (by omega),if_pos hi,jao (x:=(g.length:Int)-1) (by omega),ja2,jac,kin,jac];have e1:(f.getD i []).getD 0 0=fU f i:=rfl;have e2:(f.getD i []).getD 1 0=fB f i:=rfl;simp only[e1,e2];rcases Bool.eq_false_or_eq_true (inB (fU f i) 0 ((g.length:Int)-1))with hA|hA<;>rcases Bool.eq_false_or_eq_true ((zo i).any (fun k=>fU f k==fU f i))with hB|hB<;>rcases Bool.eq_false_or_eq_true (inB (fB f i) 0 16)with hC|hC<;>simp[jdv,hA,hB,hC,hi,ja2,jao,show(-9223372036854775808<=(i:Int)+1∧(i:Int)+1<=9223372036854775807) by omega]at hp ⊢
def jJm (s:List (List Int)) (u b:Int) (hs:s.length<1000):y5 s u b=some ((zo s.length).any fun k=>fU s k==u):=by
 unfold y5 y14
 rw[jjn (body:=y10 s u b) s.length (fun k=>fU s k==u) (fun i=>.inl (i:Int)) (.inr ()) (by omega) (fun i hi hp=>by
   unfold y10 y42;simp only[zi];rw[if_pos (by omega),if_pos (by omega),if_pos hi,jac];exact if_pos hp) (fun i hi hp=>by
   unfold y10 y42;simp only[zi];rw[if_pos (by omega),if_pos (by omega),if_pos hi,jac,jao (by omega)];exact if_neg (by show ¬((fU s i==u)=true);rw[hp];exact qx)) (by
   unfold y10;rw[if_neg (by omega)])]
 rw[<-jjj];cases (zo s.length).findIdx? (fun k=>fU s k==u)with
 |none=>rfl
 |some i =>
  show some (decide ((i:Int)>=0))=some true
  simp
def jEq {n:Nat} {P Q:Nat->Bool} (h:∀k,k<n->P k=Q k):(zo n).any P=(zo n).any Q:=by
 rw[yJ,qM,qM];constructor
 ·rintro ⟨k,hk,hp⟩;exact⟨k,hk,by rw[<-h k (qJ.1 hk)];exact hp⟩
 ·rintro ⟨k,hk,hp⟩;exact⟨k,hk,by rw[h k (qJ.1 hk)];exact hp⟩
def jJn (nm:ByteArray) (od:List Int) (f:List (List Int)) (hn:g.length<1000):y40 nm g od f=some (cf g.length f):=by
 unfold y40 cf
 by_cases h24:(f.length:Int)>24
 ·rw[if_pos h24,if_pos h24]
 ·rw[if_neg h24,if_neg h24]
  rw[jjn (body:=y56 g f) f.length (fun i=>jdv g.length f i != 0) (fun i=>.inl ((i:Int),jdv g.length f i)) (.inr ()) (by omega) (fun i hi hp=>?_) (fun i hi hp=>?_) (by
   unfold y56;rw[if_neg (by omega)])]
  ·cases (zo f.length).findIdx? (fun i=>jdv g.length f i != 0)<;>rfl
  all_goals
   have kin:y5 (f.take i) (fU f i) (fB f i)=some ((zo i).any fun k=>fU f k==fU f i):=by
    have hl:(f.take i).length=i:=by simp;omega
    rw[jJm _ _ _ (by omega),hl]
    congr 1
    exact jEq fun k hk=>by unfold fU;rw[jnP _ _ hk]
   unfold y56;simp only[zY,yP,zi,jl,xU];rw[if_pos (by omega),if_pos (by omega),if_pos hi,jao (x:=(g.length:Int)-1) (by omega),jce,jac];have kin':y5 (f.take i) ((f.getD i []).getD 0 0) ((f.getD i []).getD 1 0)=_:=kin;rw[kin',jac,jce,jac];have e1:(f.getD i []).getD 0 0=fU f i:=rfl;have e2:(f.getD i []).getD 1 0=fB f i:=rfl;simp only[e1,e2];rcases Bool.eq_false_or_eq_true (inB (fU f i) 0 ((g.length:Int)-1))with hA|hA<;>rcases Bool.eq_false_or_eq_true ((zo i).any (fun k=>fU f k==fU f i))with hB|hB<;>rcases Bool.eq_false_or_eq_true (inB (fB f i) 0 16)with hC|hC<;>simp[jdv,hA,hB,hC,hi,Nat.le_of_lt hi,jao,show(-9223372036854775808<=(i:Int)+1∧(i:Int)+1<=9223372036854775807) by omega]at hp ⊢
def jIc {n:Nat} {f:List (List Int)} (h:(cf n f).2=0):cf n f=(0,0)∧f.length<=24∧∀i,i<f.length->jdv n f i=0:=by
 unfold cf at h ⊢;split at h
 ·exact absurd (show(8:Int)=0 from h) (by omega)
 ·rename_i h24;rw[if_neg h24];cases hf:(zo f.length).findIdx? (fun i=>jdv n f i != 0)with
  |none =>
   refine⟨rfl,by omega,fun i hi=>?_⟩;rw[qt]at hf;simpa using hf i (qJ.2 hi)
  |some i =>
   rw[hf]at h;have h:jdv n f i=0:=h;rw[qm]at hf;obtain⟨hlt,hp,_⟩:=hf;simp only[yE]at hp;rw[h]at hp;exact absurd hp (by decide)
def jEr {n:Nat} {f:List (List Int)} {i:Nat} (h:jdv n f i=0):(0<=fU f i∧fU f i<(n:Int))∧∀k,k<i->fU f k≠fU f i:=by
 unfold jdv at h;split at h
 ·omega
 ·rename_i h1;split at h
  ·omega
  ·rename_i h2;refine⟨?_,fun k hk e=>h2 (qM.2 ⟨k,qJ.2 hk,by simp[e]⟩)⟩;simp[inB]at h1;omega
def jwP (f:List (List Int)) (block:Int) (u:Nat):Bool:=(zo f.length).any fun i=>fU f i==(u:Int)&&decide (fB f i<=block)
def jsK (f:List (List Int)) (block:Int) (u m:Nat):List Int:=((zo m).filter fun i=>fU f i==(u:Int)&&decide (fB f i<=block)).map fun _=>(u:Int)
def jcC (f:List (List Int)) (block:Int):Nat->List Int
 |0=>[]
 |u+1=>jcC f block u++jsK f block u f.length
def jEs (f:List (List Int)) (block:Int) (u k:Nat):jbn (jsK f block u f.length) k=(decide (k=u)&&jwP f block u):=by
 unfold jbn jsK jwP;rw[List.any_map,yJ,qM];constructor
 ·rintro ⟨i,hi,e⟩;rw[List.mem_filter]at hi;rw[zm,qM];exact⟨by simp at e;simp;omega,i,hi.1,hi.2⟩
 ·intro hh;rw[zm,qM]at hh;obtain⟨h1,i,h2,h3⟩:=hh;exact⟨i,List.mem_filter.2 ⟨h2,h3⟩,by simp at h1;simp[h1]⟩
def jnU (f:List (List Int)) (block:Int) (k:Nat):∀u,jbn (jcC f block u) k=(decide (k<u)&&jwP f block k)
 |0=>by simp[jcC,jbn]
 |u+1=>by
  have h1:jbn (jcC f block (u+1)) k=(jbn (jcC f block u) k||jbn (jsK f block u f.length) k):=by
   unfold jbn
   show List.any (jcC f block u++jsK f block u f.length) _=_
   rw[gQ]
  rw[h1,jnU f block k u,jEs]
  by_cases hk:k=u
  ·subst hk;simp
  ·by_cases h2:k<u
   ·simp[hk,h2,show k<u+1 by omega]
   ·simp[hk,h2,show ¬k<u+1 by omega]
def jyS (nm:ByteArray) (od:List Int) (f:List (List Int)) (block:Int) (hn:g.length<1000) (hf:f.length<=24) (hz:∀i,i<f.length->jdv g.length f i=0) :
  ∃y,y38 nm g od f block=some y∧y.length=g.length∧(fun i=>y.getD i false)=jbn (jcC f block g.length):=by
 have key:∃y,jae (y30 f block) big ((0:Int),zf g.length false)=some y∧y.length=g.length∧(fun i=>y.getD i false)=jbn (jcC f block g.length):=by
  refine jmP (body:=y30 f block)
   (fun x=>∃k:Nat,k<=f.length∧x.1=(k:Int)∧x.2.length=g.length∧∀u:Nat,x.2.getD u false=(zo k).any fun i=>fU f i==(u:Int)&&decide (fB f i<=block))
   (fun x=>(f.length+1-x.1.toNat)) (fun y=>y.length=g.length∧(fun i=>y.getD i false)=jbn (jcC f block g.length)) (fun x hx=>?_) big ((0:Int),zf g.length false) ⟨0,by omega,rfl,by simp,fun u=>by
    simp only[za,List.getElem?_replicate];split<;>rfl⟩ (by have:big=18446744073709551616:=rfl;simp;omega)
  obtain⟨a,out⟩:=x;obtain⟨k,hk,h1,h2,h3⟩:=hx;obtain rfl:a=(k:Int):=h1;have h2:out.length=g.length:=h2
  by_cases hkn:k<f.length
  ·left;obtain⟨hr,hd⟩:=jEr (hz k hkn);obtain⟨v,hv⟩:∃v:Nat,fU f k=(v:Int):=⟨(fU f k).toNat,by omega⟩
   have e1:(f.getD k []).getD 0 0=(v:Int):=hv
   have hb:y30 f block ((k:Int),out)=some (.inl ((k:Int)+1,out.set v (decide (fB f k<=block)))):=by
    unfold y30;simp only[zi,e1];rw[if_pos (by omega),if_pos (by omega),if_pos hkn,if_pos (by omega),if_pos (by omega),jao (by omega)];rfl
   refine⟨_,hb,⟨k+1,by omega,by simp,by simp[h2],fun u=>?_⟩,by simp;omega⟩;have h3:∀u:Nat,out.getD u false=(zo k).any fun i=>fU f i==(u:Int)&&decide (fB f i<=block):=h3
   show(out.set v (decide (fB f k<=block))).getD u false=_
   rw[ja8 _ _ _ _ _ (by omega),ye,gQ,<-h3 u]
   by_cases huv:v=u
   ·subst huv
    have h0:out.getD v false=false:=by
     rw[h3,xx];intro i hi;have:=hd i (qJ.1 hi);rw[hv]at this;simp[this]
    rw[if_pos rfl,h0];simp[hv]
   ·rw[if_neg huv];have:(fU f k==(u:Int))=false:=by rw[hv,beq_eq_false_iff_ne];omega
    simp[this]
  ·right;refine⟨out,?_,h2,?_⟩
   ·unfold y30;rw[if_neg (by show ¬(k:Int)<_;omega)]
   ·obtain rfl:k=f.length:=by omega
    funext u;rw[jnU]
    by_cases hu:u<g.length
    ·rw[decide_eq_true hu,f8];exact h3 u
    ·rw[decide_eq_false hu,Bool.false_and];simp only[za];rw[qb (by omega)];rfl
 obtain⟨y,hy,hl,hp⟩:=key;refine⟨y,?_,hl,hp⟩;unfold y38;rw[if_pos (by omega),zi,hy];rfl
end Go.Sh
end

section
namespace Go.Sh
open Go Go.Proofs Go.RowKit Go.Sx Go.Sx06
variable {g:List (List NC)} {l:List Int}
structure Uk (g:List (List NC)) (i:Nat):Prop where
 kd:0<=nI g i 1∧nI g i 1<=4
 one:nI g i 1≠0->0<(nL g i 2).length
 al:(nL g i 3).length=(nL g i 2).length
 ga:nI g i 1=1->(nL g i 4).length=(nL g i 2).length
 six:(nL g i 2).length<=6
 alr:∀k,k<(nL g i 3).length->0<=(nL g i 3).getD k 0∧(nL g i 3).getD k 0<=64
 gar:∀k,k<(nL g i 4).length->-4000<=(nL g i 4).getD k 0∧(nL g i 4).getD k 0<=4000
 de:0<=nI g i 5∧nI g i 5<=64
 ca:jbe (nR g i 6)=0
 de0:nI g i 1≠2->nI g i 5=0
def jBd {l:List Int} {P:Int->Bool} (h:(l.any fun x=>!P x)=false):∀k,k<l.length->P (l.getD k 0)=true:=fun k hk=>by
 rw[xx]at h;have:=h (l.getD k 0) (by rw[jaw hk];exact zZ hk);simpa using this
def je7 {n a b:Int}:inB n a b=true<->a<=n∧n<=b:=by
 unfold inB;rw[zm,decide_eq_true_eq,decide_eq_true_eq]
def Rg.unit (h:Rg g l) {i:Nat} (hi:i<g.length):Uk g i:=by
 have h:=h.ok i hi;unfold jbm at h;split at h
 ·exact absurd h (by decide)
 split at h
 ·exact absurd h (by decide)
 split at h
 ·exact absurd h (by decide)
 split at h
 ·exact absurd h (by decide)
 rename_i _ _ _ hk;split at h
 ·exact absurd h (by decide)
 rename_i hs;split at h
 ·exact absurd h (by decide)
 split at h
 ·exact absurd h (by decide)
 split at h
 ·exact absurd h (by decide)
 split at h
 ·exact absurd h (by decide)
 rename_i _ _ _ hr;have hk:inB (nI g i 1) 0 4=true:=by simpa using hk
 have hs:jdX (nI g i 1) (nL g i 2).length (nL g i 3).length (nL g i 4).length=true:=by simpa using hs
 have hr:jcu (nI g i 1) (nL g i 3) (nL g i 4) (nI g i 5)=true:=by simpa using hr
 rw[je7]at hk;unfold jcu at hr;simp only[zm,xt,qK,beq_iff_eq]at hr;obtain⟨⟨⟨r1,r2⟩,r3⟩,r4⟩:=hr
 have hshape:(nI g i 1≠0->0<(nL g i 2).length)∧(nL g i 3).length=(nL g i 2).length∧(nI g i 1=1->(nL g i 4).length=(nL g i 2).length)∧(nL g i 2).length<=6:=by
  unfold jdX at hs;split at hs
  ·rename_i e;simp only[zm,beq_iff_eq,je7]at hs e;refine⟨fun hc=>absurd e hc,by omega,fun hc=>by omega,by omega⟩
  ·split at hs
   ·simp only[zm,beq_iff_eq,je7]at hs;exact⟨fun _=>by omega,by omega,fun _=>by omega,by omega⟩
   ·rename_i e1 e2;simp only[zm,beq_iff_eq,je7]at hs e1 e2;exact⟨fun _=>by omega,by omega,fun hc=>absurd hc e2,by omega⟩
 refine⟨hk,hshape.1,hshape.2.1,hshape.2.2.1,hshape.2.2.2,fun k hk=>je7.1 (jBd r1 k hk),fun k hk=>je7.1 (jBd r2 k hk),je7.1 r3,?_,fun hc=>r4.resolve_left hc⟩;split at h
 ·exact h
 ·split at h
  ·rename_i e
   have e:(nR g i 6)=[]:=by
    simp only[beq_iff_eq]at e;exact List.eq_nil_of_length_eq_zero (by omega)
   rw[e];rfl
  ·exact absurd h (by decide)
def atI (P:List (List Nat)) (G:List (List Int)) (u k:Int):Int :=
 if k<0 then fi ((P.getD u.toNat []).getD (128+k).toNat 0)else(G.getD u.toNat []).getD k.toNat 0
def PR (n:Nat) (P:List (List Nat)):Prop:=P.length=n∧∀i,i<n->(P.getD i []).length=128∧∀j,j<128->se ((P.getD i []).getD j 0)=0
def GR (n:Nat) (G:List (List Int)):Prop:=G.length=n∧∀i,i<n->(G.getD i []).length=32∧∀j,j<32->inR ((G.getD i []).getD j 0)
def gw (G:List (List Int)):List (List Nat):=G.map fun r=>r.map nf
def jnV (G:List (List Int)):(gw G).length=G.length:=by simp[gw]
def jsL {G:List (List Int)} {i:Nat} (h:i<G.length):(gw G).getD i []=(G.getD i []).map nf:=by
 rw[jaw (by rw[jnV];exact h),jaw h];simp[gw]
def joD {α U:Type} (f:α->U) {r:List α} {j:Nat} {d:U} (e:α) (h:j<r.length):(r.map f).getD j d=f (r.getD j e):=by
 rw[jaw (by simpa using h),jaw h];simp
def jnW (G:List (List Int)) (i:Nat) (r:List Int):(gw G).set i (r.map nf)=gw (G.set i r):=by
 unfold gw;rw[List.map_set]
def jnX {n:Nat} {P:List (List Nat)} {G:List (List Int)} (hP:PR n P) (hG:GR n G) {u:Nat} {k:Int} (hu:u<n) (hk:-128<=k∧k<32):inR (atI P G (u:Int) k):=by
 unfold atI;rw[zi];split
 ·exact(je4 ((hP.2 u hu).2 _ (by omega))).2
 ·exact(hG.2 u hu).2 _ (by omega)
def jsM {x:Int} (h:inR x):-16777216<x∧x<16777216:=by unfold inR at h;omega
def jHP {n:Nat} {P:List (List Nat)} {G:List (List Int)} (hP:PR n P) (hG:GR n G) {u:Nat} {k:Int} (hu:u<n) (hk:-128<=k∧k<32) (hn:n<1000):jkW P (gw G) (u:Int) k=some (atI P G (u:Int) k):=by
 obtain⟨p1,p2⟩:=hP.2 u hu;obtain⟨g1,g2⟩:=hG.2 u hu;have hPl:=hP.1;have hGl:=hG.1;unfold jkW atI;split
 ·have h2:=p2 (128+k).toNat (by omega);rw[if_pos (by omega),zi,if_pos (by omega),jao (by omega),if_pos (by omega),if_pos (by omega),if_pos (je4 h2).1];rfl
 ·have e:(gw G).getD u []=(G.getD u []).map nf:=jsL (by omega);have hr:=g2 k.toNat (by omega);have hv:((gw G).getD u []).getD k.toNat 0=nf ((G.getD u []).getD k.toNat 0):=by rw[e,joD nf 0 (by omega)]
  rw[if_pos (by rw[jnV];omega),if_pos (by omega),zi,if_pos (by rw[jnV];omega),yR,z6,hv,if_pos (show jbU .f32 .i64 (nf _)=true from (jyH (jsM hr)).2)];exact congrArg some (jCH (jsM hr))
def jbR (P:List (List Nat)) (G:List (List Int)) (u d:Int):List Int:=(zo 32).map fun x:Nat=>atI P G u ((x:Int)-d)
def jbS {α:Type} (f:Nat->α) {n k:Nat} {d:α} (h:k<n):((zo n).map f).getD k d=f k:=by
 rw[jaw (by simpa using h)];simp
def jqZ {e:Nat} {r:List Int} (h:r.length=e):jey e r=r:=by
 subst h;apply xH
 ·simp[jey]
 ·intro i h1 h2;simp[jey,h2]
def jyT {f:Nat->Int} {i:Nat} (h:i<32) {A:List Int} (hA:A=(zo i).map f++zf (32-i) 0):(jey 32 A).set i (f i)=(zo (i+1)).map f++zf (32-(i+1)) 0:=by
 have h2:32-i=(32-(i+1))+1:=by omega
 have hl:((zo i).map f).length=i:=by simp
 rw[hA,jqZ (by simp;omega),h2,yu,yF _ _ (by omega),hl,yV,List.set_cons_zero,ye,qQ,qL];rfl
def jyU {n:Nat} {P:List (List Nat)} {G:List (List Int)} (hP:PR n P) (hG:GR n G) (hn:n<1000) {fr al:List Int} {f u:Nat} {later:Int} (hf:f<fr.length) (ha:f<al.length) (hl:fr.length<1000) (hl2:al.length<1000)
  (hu:u<n) (he:fr.getD f 0=(u:Int)) (h1:0<=al.getD f 0∧al.getD f 0<=64) (h2:0<=later∧later<=64) :
  y19 P (gw G) fr al (f:Int) later=some (jbR P G (u:Int) (al.getD f 0+later)):=by
 have hit:jae (y48 P (gw G) fr al (f:Int) later) big (0,[]++zf (32-0) 0)=some (jbR P G (u:Int) (al.getD f 0+later)) :=
  jaJ (body:=y48 P (gw G) fr al (f:Int) later) (fun i=>((i:Int),(zo i).map (fun x:Nat=>atI P G (u:Int) ((x:Int)-(al.getD f 0+later)))++zf (32-i) 0)) (k:=32) (fun i hi=>by
   unfold y48;dsimp only;rw[if_pos (by omega),if_pos (by omega),zi,if_pos hf,if_pos (by omega),if_pos ha,he,jao (x:=(i:Int)-al.getD f 0) (by omega),jao (by omega),jHP hP hG hu (by omega) hn,jac,if_pos (by omega),zi,if_pos (by omega),jao (by omega)];have e0:(0:Nat)+((0:Nat)+i*(1:Nat))=i:=by omega
   rw[e0,show(i:Int)-al.getD f 0-later=(i:Int)-(al.getD f 0+later) by omega,jyT (f:=fun x:Nat=>atI P G (u:Int) ((x:Int)-(al.getD f 0+later))) hi rfl];rfl) (by
   unfold y48;dsimp only;rw[if_neg (by omega),yV];simp[jbR]) (by omega)
 unfold y19
 change (jae (y48 P (gw G) fr al (f:Int) later) big (0,[]++zf (32-0) 0)).bind _=_
 rw[hit];rfl
def jiu (P:List (List Nat)) (G:List (List Int)) (u d:Int):(jbR P G u d).length=32:=by simp[jbR]
def jvH {P:List (List Nat)} {G:List (List Int)} {u d:Int} {k:Nat} (h:k<32):(jbR P G u d).getD k 0=atI P G u ((k:Int)-d):=jbS _ h
def jjo {n:Nat} {P:List (List Nat)} {G:List (List Int)} (hP:PR n P) (hG:GR n G) {u:Nat} {d:Int} (hu:u<n) (hd:0<=d∧d<=128):∀k,k<32->inR ((jbR P G (u:Int) d).getD k 0):=fun k hk=>by
 rw[jvH hk];exact jnX hP hG hu (by omega)
def jgF {r:List Int} (h:r.length=32):y75 r=some (r.map nf):=by
 have hit:jae (jmT r) big (0,[]++zf (32-0) 0)=some (r.map nf) :=
  jaJ (body:=jmT r) (fun i=>((i:Int),(r.take i).map nf++zf (32-i) 0)) (k:=32) (fun i hi=>by
   unfold jmT;dsimp only;have hlen:((r.take i).map nf).length=i:=by simp;omega
   have hs:=jyO (A:=(r.take i).map nf) (v:=nf (r.getD i 0)) (by omega);rw[hlen]at hs;rw[if_pos (by omega),if_pos (by omega),if_pos (by omega),zi,if_pos (by omega),jao (by omega)];have e0:(0:Nat)+((0:Nat)+i*(1:Nat))=i:=by omega
   rw[e0,show qv .f32 (r.getD i 0)=nf (r.getD i 0)from rfl,hs,jdZ (by omega) 0,qQ];rfl) (by
   unfold jmT;dsimp only;rw[if_neg (by omega),<-h,yk,yV];simp) (by omega)
 unfold y75;have hz:([]:List Nat)++zf (32-0) 0=Z32:=rfl;rw[hz]at hit
 change (jae (jmT r) big (0,Z32)).bind _=_
 rw[hit];rfl
end Go.Sh
end

section
namespace Go.Sh
open Go Go.Proofs Go.RowKit Go.Sx Go.Sx06
open Go.IntKind (wrap)
def jbx (P:List (List Nat)) (G:List (List Int)) (fr al ga:List Int):Nat->Nat->Int
 |0,_=>0
 |m+1,x=>jbx P G fr al ga m x+ga.getD m 0*atI P G (fr.getD m 0) ((x:Int)-al.getD m 0)
def rnI (n:Int):Int:=(2*n+1000)/2000
def clI (n:Int):Int:=max (-32767) (min 32767 n)
def jc3 (f:Nat->Int):Nat->Int
 |0=>0
 |i+1=>jc3 f i+if clI (rnI (f i))=rnI (f i)then 0 else 1
def jnY (P:List (List Nat)) (G:List (List Int)) (fr al ga:List Int):List Int:=(zo 32).map fun x=>clI (rnI (jbx P G fr al ga ga.length x))
def jlo (f:Nat->Int):∀i:Nat,0<=jc3 f i∧jc3 f i<=i
 |0=>⟨yz _,yz _⟩
 |i+1=>by
  have:=jlo f i;unfold jc3;split<;>omega
def jGG (n:Int):inR (clI n):=by unfold inR clI;omega
def jsN {f f':Nat->Int}:∀n:Nat,(∀x,x<n->f x=f' x)->jc3 f n=jc3 f' n
 |0,_=>rfl
 |n+1,h=>by
  unfold jc3;rw[jsN n (fun x hx=>h x (by omega)),h n (by omega)]
def jnZ {α:Type} (f:Nat->α) {n i:Nat} (v:α):((zo n).map f).set i v=(zo n).map fun x=>if x=i then v else f x:=by
 apply xH
 ·simp
 ·intro j h1 h2;simp only[fG,j3,yE]
  by_cases h:i=j
  ·subst h;simp
  ·rw[if_neg h,if_neg (fun e=>h e.symm)]
def jbk {α:Type} {f f':Nat->α} {n:Nat} (h:∀x,x<n->f x=f' x):(zo n).map f=(zo n).map f' :=
 qy fun x hx=>h x (qJ.1 hx)
def jAh {n:Int} (hn:-4000000000000000000<=n∧n<=4000000000000000000):jmQ n 1000=some (rnI n):=by
 unfold jmQ rnI;rw[jao (x:=2*n) (by omega),jao (x:=2*n+1000) (by omega),show wrap xu ((2:Int)*1000)=2000 from by rw[jao (by omega)];rfl,if_pos (by omega),if_pos (by omega)];have h0:(0:Int)<2000:=by omega
 have hN:-8000000000001000000<=2*n+1000∧2*n+1000<=8000000000001000000:=by omega
 generalize 2*n+1000=N at *
 have h1:=jpS (n:=N) h0;rw[jao (x:=N.tdiv 2000) (by omega)];split
 ·rename_i h;rw[jao (by omega),jvB h0 h]
 ·rename_i h;rw[jvC h0 h]
section
variable {n:Nat} {P:List (List Nat)} {G:List (List Int)} {fr al ga:List Int}
structure Sk6 (n:Nat) (fr al ga:List Int):Prop where
 lal:al.length=fr.length
 lga:ga.length=fr.length
 six:fr.length<=6
 rfr:∀k,k<fr.length->∃u:Nat,u<n∧fr.getD k 0=(u:Int)
 alr:∀k,k<al.length->0<=al.getD k 0∧al.getD k 0<=64
 gar:∀k,k<ga.length->-4000<=ga.getD k 0∧ga.getD k 0<=4000
def jsO (hP:PR n P) (hG:GR n G) (hs:Sk6 n fr al ga) {m x:Nat} (hm:m<ga.length) (hx:x<32):-131068000<=ga.getD m 0*atI P G (fr.getD m 0) ((x:Int)-al.getD m 0)∧ga.getD m 0*atI P G (fr.getD m 0) ((x:Int)-al.getD m 0)<=131068000:=by
 have h1:=hs.lga;have h2:=hs.lal;obtain⟨u,hu,he⟩:=hs.rfr m (by omega);have h3:=hs.alr m (by omega);have h4:=hs.gar m hm;rw[he];have h5:=jnX hP hG hu (k:=(x:Int)-al.getD m 0) (by omega);have:=jup (a:=4000) (b:=32767) (by decide) (by decide) h4 h5;omega
def jgG (hP:PR n P) (hG:GR n G) (hs:Sk6 n fr al ga) {x:Nat} (hx:x<32):∀m,m<=ga.length->-(m*131068000:Int)<=jbx P G fr al ga m x∧jbx P G fr al ga m x<=m*131068000
 |0,_=>⟨by simp[jbx],by simp[jbx]⟩
 |m+1,hm=>by
  have h1:=jgG hP hG hs hx m (by omega);have h2:=jsO hP hG hs (m:=m) (x:=x) (by omega) hx;unfold jbx
  push_cast
  omega
def jId (hP:PR n P) (hG:GR n G) (hs:Sk6 n fr al ga) {m:Nat} (hm:m<ga.length) {u:Nat} (hu:u<n) (he:fr.getD m 0=(u:Int)) (y:List Int) :
  jae (jtu ga ((m:Int),y) (jbR P G (u:Int) (al.getD m 0+0))) big (0,(zo 32).map fun x=>jbx P G fr al ga m x)=some ((zo 32).map fun x=>jbx P G fr al ga (m+1) x):=by
 have h1:=hs.lga;have h6:=hs.six;have e0:((zo 32).map fun x=>jbx P G fr al ga m x)=(zo 32).map fun x=>if x<0 then jbx P G fr al ga (m+1) x else jbx P G fr al ga m x:=jbk fun x _=>by rw[if_neg (by omega)]
 rw[e0]
 exact jaJ (body:=jtu ga ((m:Int),y) (jbR P G (u:Int) (al.getD m 0+0))) (fun i=>((i:Int),(zo 32).map fun x=>if x<i then jbx P G fr al ga (m+1) x else jbx P G fr al ga m x)) (k:=32) (fun i hi=>by
  unfold jtu;have ei:(0:Nat)+((0:Nat)+i*(1:Nat))=i:=by omega
  have ht:=jsO hP hG hs hm hi;have hr:=jgG hP hG hs hi m (by omega);have hr2:=jgG hP hG hs hi (m+1) (by omega);dsimp only;rw[if_pos (by omega),if_pos (by omega),if_pos (by omega),zi,ei,if_pos hi,if_pos (by omega),if_pos hi,zi,jao (x:=(i:Int)+1) (by omega),jqZ (by simp),jbS _ hi,if_neg (by omega),jvH hi,Int.add_zero];rw[he]at ht;rw[jao (x:=ga.getD m 0*_) (by omega)];have es:jbx P G fr al ga m i+ga.getD m 0*atI P G (u:Int) ((i:Int)-al.getD m 0)=jbx P G fr al ga (m+1) i:=by rw[<-he];rfl
  rw[es,jao (by push_cast at hr2;omega),jnZ]
  congr 3
  refine jbk fun x hx=>?_
  by_cases hxi:x=i
  ·subst hxi;rw[if_pos rfl,if_pos (by omega)]
  ·rw[if_neg hxi]
   by_cases hlt:x<i
   ·rw[if_pos hlt,if_pos (by omega)]
   ·rw[if_neg hlt,if_neg (by omega)]) (by
  unfold jtu;dsimp only;rw[if_neg (by omega)];rfl) (by omega)
def jIe {f:Nat->Int} (hf:∀x,x<32->-4000000000000000000<=f x∧f x<=4000000000000000000) :
  jae (jqk ((zo 32).map f)) big (0,0,(zo 32).map f)=some (jc3 f 32,(zo 32).map fun x=>clI (rnI (f x))):=by
 have e0:((zo 32).map f)=(zo 32).map fun x=>if x<0 then clI (rnI (f x))else f x:=jbk fun x _=>by rw[if_neg (by omega)]
 have key:∀i,i<32->jqk ((zo 32).map f) (jc3 f i,(i:Int),(zo 32).map fun x=>if x<i then clI (rnI (f x))else f x)=some (.inl (jc3 f (i+1),((i+1:Nat):Int),(zo 32).map fun x=>if x<i+1 then clI (rnI (f x))else f x)):=fun i hi=>by
  unfold jqk;have ei:(0:Nat)+((0:Nat)+i*(1:Nat))=i:=by omega
  have hc:=jlo f i;dsimp only;rw[if_pos (by omega),if_pos (by omega),zi,jbS _ hi,jAh (hf i hi),jac,if_pos (by omega),ei,if_pos hi,if_pos (by omega),if_pos hi,jqZ (by simp),jyM,jnZ,jbS _ hi,if_pos rfl,jao (x:=(i:Int)+1) (by omega),jao (x:=jc3 f i+1) (by omega)]
  have er:((zo 32).map fun x=>if x=i then max (-32767) (min 32767 (rnI (f i)))else if x<i then clI (rnI (f x))else f x)=(zo 32).map fun x=>if x<i+1 then clI (rnI (f x))else f x:=jbk fun x hx=>by
   by_cases hxi:x=i
   ·subst hxi;rw[if_pos rfl,if_pos (by omega)];rfl
   ·rw[if_neg hxi]
    by_cases hlt:x<i
    ·rw[if_pos hlt,if_pos (by omega)]
    ·rw[if_neg hlt,if_neg (by omega)]
  rw[er]
  show(if(clI (rnI (f i))!=rnI (f i))=true then _ else _)=_
  rw[show jc3 f (i+1)=jc3 f i+if clI (rnI (f i))=rnI (f i)then 0 else 1 from rfl]
  by_cases hz:clI (rnI (f i))=rnI (f i)
  ·rw[if_neg (by simpa using hz),if_pos hz,Int.add_zero];rfl
  ·rw[if_pos (by simpa using hz),if_neg hz];rfl
 have hit:=jaJ (body:=jqk ((zo 32).map f)) (fun i=>(jc3 f i,(i:Int),(zo 32).map fun x=>if x<i then clI (rnI (f x))else f x)) (y:=(jc3 f 32,(zo 32).map fun x=>clI (rnI (f x)))) (k:=32) (fun i hi=>key i hi) (by
  unfold jqk;dsimp only;rw[if_neg (by omega)];rfl) (by omega)
 have e1:((0:Int),(0:Int),(zo 32).map f)=(jc3 f 0,((0:Nat):Int),(zo 32).map fun x=>if x<0 then clI (rnI (f x))else f x):=by rw[<-e0];rfl
 rw[e1];exact hit
def jJo (hP:PR n P) (hG:GR n G) (hn:n<1000) (hs:Sk6 n fr al ga) :
  jkX P (gw G) fr al ga=some ((jnY P G fr al ga).map nf,jc3 (fun x=>jbx P G fr al ga ga.length x) 32):=by
 have h1:=hs.lga;have h2:=hs.lal;have h6:=hs.six
 have key:∀m,m<ga.length->y54 P (gw G) fr al ga ((m:Int),(zo 32).map fun x=>jbx P G fr al ga m x)=some (.inl (((m+1:Nat):Int),(zo 32).map fun x=>jbx P G fr al ga (m+1) x)):=fun m hm=>by
  obtain⟨u,hu,he⟩:=hs.rfr m (by omega);have h3:=hs.alr m (by omega);unfold y54;dsimp only;rw[if_pos (by omega),if_pos (by omega),zi,if_pos hm,jyU hP hG hn (by omega) (by omega) (by omega) (by omega) hu he h3 ⟨yz 0,by omega⟩,jac,jId hP hG hs hm hu he,jac];unfold jeG;dsimp only;rw[jao (by omega)];rfl
 have hit:=jaJ (body:=y54 P (gw G) fr al ga) (fun m=>((m:Int),(zo 32).map fun x=>jbx P G fr al ga m x)) (y:=(zo 32).map fun x=>jbx P G fr al ga ga.length x) (k:=ga.length) key (by
  unfold y54;dsimp only;rw[if_neg (by omega)]) (by omega)
 have hit2:=jIe (f:=fun x=>jbx P G fr al ga ga.length x) (fun x hx=>by
  have:=jgG hP hG hs hx ga.length (zq _);omega)
 have hz:((zo 32).map fun x=>jbx P G fr al ga 0 x)=zf 32 0:=rfl;unfold jkX;have hit':jae (y54 P (gw G) fr al ga) big (0,zf 32 0)=some ((zo 32).map fun x=>jbx P G fr al ga ga.length x):=hit
 change (jae (y54 P (gw G) fr al ga) big (0,zf 32 0)).bind _=_
 rw[hit',jac];unfold y227;rw[hit2,jac];unfold jeH;rw[jgF (by simp),jac];rfl
end
end Go.Sh
end

section
namespace Go.Sh
open Go Go.Proofs Go.RowKit Go.Sx Go.Sx06
variable {g:List (List NC)} {l:List Int}
def jhF (g:List (List NC)) (kind:Int) (m:Nat):List Int:=((zo m).filter fun i=>nI g i 1==kind).map fun(i:Nat)=>(i:Int)
def jaD (g:List (List NC)) (kind:Int):List Int:=jhF g kind g.length
def jEt (g:List (List NC)) (kind:Int) (m:Nat):jhF g kind (m+1)=if(nI g m 1==kind)=true then jhF g kind m++[(m:Int)]else jhF g kind m:=by
 unfold jhF;rw[ye,List.filter_append];cases hw:nI g m 1==kind<;>simp[hw]
def je8 (g:List (List NC)) (kind:Int) (m:Nat):(jhF g kind m).length<=m:=by
 unfold jhF;rw[qk];exact Nat.le_trans (List.length_filter_le _ _) (by simp)
def jkb (hn:g.length<1000) (kind:Int):y4 g kind=some (jaD g kind):=by
 have hit:jae (y43 g kind) big (0,[])=some (jaD g kind):=jaJ (body:=y43 g kind) (fun i=>((i:Int),jhF g kind i)) (k:=g.length) (fun i hi=>by
  have hl:=je8 g kind i;unfold y43;dsimp only;rw[if_pos (by omega),if_pos (by omega),zi,if_pos hi,jEt]
  by_cases h:(nI g i 1==kind)=true
  ·rw[if_pos h,if_pos h,if_pos (by simp only[zA,qi];omega),jao (by omega)];rfl
  ·rw[if_neg h,if_neg h,jao (by omega)];rfl) (by
  unfold y43;dsimp only;rw[if_neg (by omega)];rfl) (by omega)
 unfold y4;rw[hit];rfl
def juv {kind x:Int} (h:x∈jaD g kind):∃u:Nat,u<g.length∧x=(u:Int)∧nI g u 1=kind:=by
 unfold jaD jhF at h;obtain⟨u,hu,rfl⟩:=qa.1 h;rw[List.mem_filter,qJ,beq_iff_eq]at hu;exact⟨u,hu.1,rfl,hu.2⟩
def jIf {u:Nat} (h:u<g.length):(u:Int)∈jaD g (nI g u 1):=by
 unfold jaD jhF;refine qa.2 ⟨u,?_,rfl⟩;rw[List.mem_filter,qJ,beq_iff_eq];exact⟨h,rfl⟩
def jIg {kind:Int} {k:Nat} (h:k<(jaD g kind).length):∃u:Nat,u<g.length∧(jaD g kind).getD k 0=(u:Int)∧nI g u 1=kind:=by
 rw[jaw h];exact juv (zZ h)
def idxE (s:List Int) (v:Int) (hl:s.length<1000):y37 s v=some (match s.findIdx? (fun x=>v==x)with|some j=>(j:Int)|none=>-1):=by
 unfold y37
 rw[jaQ (body:=y22 s v) s 0 (fun x=>v==x) (fun i=>.inl (i:Int)) (.inr ()) (by omega) (fun i hi hp=>?_) (fun i hi hp=>?_) (by
  unfold y22;rw[if_neg (by omega)])]
 ·cases s.findIdx? (fun x=>v==x)<;>rfl
 ·unfold y22;simp only[zi];rw[if_pos (by omega),if_pos (by omega),if_pos hi,if_pos hp]
 ·unfold y22;simp only[zi];rw[if_pos (by omega),if_pos (by omega),if_pos hi,if_neg (by rw[hp];exact qx),jao (by omega)]
def chI (g:List (List NC)) (i:Nat):Nat:=((jaD g (nI g i 1)).findIdx? fun x=>(i:Int)==x).getD 0
def jlp (hn:g.length<1000) {i:Nat} (hi:i<g.length):y20 g (i:Int)=some (chI g i:Int)∧chI g i<(jaD g (nI g i 1)).length:=by
 have hl:=je8 g (nI g i 1) g.length;have hlen:(jaD g (nI g i 1)).length<1000:=by unfold jaD;omega
 unfold y20 chI;rw[if_pos (by omega),zi,if_pos hi,jkb hn,jac,idxE _ _ hlen,jac];have hm:=jIf hi;cases hf:(jaD g (nI g i 1)).findIdx? fun x=>(i:Int)==x with
 |none =>
  rw[qt]at hf;have:=hf _ hm;simp at this
 |some j =>
  rw[qm]at hf;exact⟨rfl,hf.1⟩
def BR (g:List (List NC)) (B:List (List Nat)):Prop:=B.length=(jaD g 0).length∧∀c,c<B.length->(B.getD c []).length=32∧∀j,j<32->se ((B.getD c []).getD j 0)=0
def FR (g:List (List NC)) (fs:List (List (List Int))):Prop:=fs.length=g.length∧∀i,i<g.length->(csS (nR g i 6) (fs.getD i [])).2=0
def jyV {α U:Type} (f:α->U) {r:List α} {n:Nat} (d:α) (h:r.length=n):r.map f=(zo n).map fun j=>f (r.getD j d):=by
 subst h;apply xH
 ·simp
 ·intro j a b;have a':j<r.length:=by simpa using a
  simp only[j3,yE];rw[jaw a']
def jGH {g:List (List NC)} {B:List (List Nat)} (hB:BR g B) {c:Nat} (hc:c<B.length):jae (y62 B (c:Int)) big (0,[]++zf (32-0) 0)=some ((B.getD c []).map fi):=by
 obtain⟨h1,h2⟩:=hB.2 c hc;have e0:((B.getD c []).map fi)=(zo 32).map fun j=>fi ((B.getD c []).getD j 0):=jyV fi 0 h1;rw[e0]
 exact jaJ (body:=y62 B (c:Int)) (fun i=>((i:Int),(zo i).map (fun j=>fi ((B.getD c []).getD j 0))++zf (32-i) 0)) (k:=32) (fun i hi=>by
  unfold y62;dsimp only;rw[if_pos (by omega),if_pos (by omega),zi,zi,if_pos (je4 (h2 i hi)).1,if_pos (by omega),if_pos (by omega),jao (by omega)];have ei:(0:Nat)+((0:Nat)+i*(1:Nat))=i:=by omega
  rw[ei,show f2i .f32 ((B.getD c []).getD i 0)=(fun j=>fi ((B.getD c []).getD j 0)) i from rfl,jyT hi rfl];rfl) (by
  unfold y62;dsimp only;rw[if_neg (by omega),yV];simp) (by omega)
def jEu {c s:List (List Int)} (hl:s.length=c.length) (h:∀r∈s,jf6 r=false):(csS c s).2=0:=by
 unfold csS;rw[if_neg (by omega)]
 have:s.findIdx? jf6=none:=by
  rw[qt];exact h
 rw[this]
def jf9 (g:List (List NC)) (P:List (List Nat)) (fs:List (List (List Int))) (B:List (List Nat)) (G:List (List Int)) (i:Nat):List Int × List (List Int) × Int :=
 if nI g i 1=0 then((B.getD (chI g i) []).map fi,fs.getD i [],0)
 else if nI g i 1=1 then(jnY P G (nL g i 2) (nL g i 3) (nL g i 4),fs.getD i [],jc3 (fun x=>jbx P G (nL g i 2) (nL g i 3) (nL g i 4) (nL g i 4).length x) 32)
 else if nI g i 1=3 then
  (jbL (jbo (nR g i 6) (fs.getD i []) (nR g i 6).length) (jbR P G ((nL g i 2).getD 0 0) ((nL g i 3).getD 0 0)),
   (jbI (jbo (nR g i 6) (fs.getD i []) (nR g i 6).length) (jbR P G ((nL g i 2).getD 0 0) ((nL g i 3).getD 0 0))).map stU,
   ja7 (jbI (jbo (nR g i 6) (fs.getD i []) (nR g i 6).length) (jbR P G ((nL g i 2).getD 0 0) ((nL g i 3).getD 0 0))))
 else(jbR P G ((nL g i 2).getD 0 0) ((nL g i 3).getD 0 0+nI g i 5),fs.getD i [],0)
def jcj (g:List (List NC)) (P:List (List Nat)) (fs:List (List (List Int))) (B:List (List Nat)) (who:List Int) (i:Nat) (G:List (List Int)) (A:List (List (List Int))) (C:List Int):List (List Int) × List (List (List Int)) × List Int :=
 if who.getD i 0=-1 then(G,A.set i (fs.getD i []),C)
 else if who.getD i 0≠(i:Int)then(G.set i (G.getD (who.getD i 0).toNat []),A.set i (fs.getD i []),C)
 else(G.set i (jf9 g P fs B G i).1,A.set i (jf9 g P fs B G i).2.1,if nI g i 1=1∨nI g i 1=3 then C.set i (jf9 g P fs B G i).2.2 else C)
def jpU {k:Int}:∀us:List (List Int),(∀u∈us,jlk k u)->0<=ja7 us∧ja7 us<=us.length*k
 |[],_=>by simp[ja7]
 |u::us,h=>by
  have h1:=jpU us fun v hv=>h v (zu _ hv);obtain⟨_,_,_,h0,h9⟩:=h u zw;unfold ja7
  have e:((u::us).length:Int)*k=us.length*k+k:=by
   rw[zA,Int.natCast_add,Int.add_mul];omega
  rw[e];omega
def Rg.six (h:Rg g l) {i:Nat} (hi:i<g.length) (h1:nI g i 1=1):Sk6 g.length (nL g i 2) (nL g i 3) (nL g i 4) :=
 have hu:=h.unit hi
 ⟨hu.al,hu.ga h1,hu.six,jqX h hi,hu.alr,hu.gar⟩
def jIh {k:Int} {u:List Int} (h:jlk k u):jf6 (stU u)=false:=by
 obtain⟨_,_,hs,_⟩:=h;unfold jf6 stU;simp only[List.getD_cons_zero,List.getD_cons_succ];rw[decide_eq_true (show inR (u.getD 5 0)from hs 5 (by decide) (by decide)),decide_eq_true (show inR (u.getD 6 0)from hs 6 (by decide) (by decide)),decide_eq_true (show inR (u.getD 7 0)from hs 7 (by decide) (by decide)),decide_eq_true (show inR (u.getD 8 0)from hs 8 (by decide) (by decide))];rfl
def jIi {c s:List (List Int)} (hc:jbe c=0) (hs:(csS c s).2=0) {x:List Int} (hl:x.length=32) (hx:∀y∈x,inR y) :
  ((jbL (jbo c s c.length) x).length=32∧∀y∈jbL (jbo c s c.length) x,inR y)∧(csS c ((jbI (jbo c s c.length) x).map stU)).2=0∧0<=ja7 (jbI (jbo c s c.length) x)∧ja7 (jbI (jbo c s c.length) x)<=200:=by
 have hok:=jA9 hc hs;have hul:(jbo c s c.length).length=c.length:=jfw _ _ _;have h6:=(jgQ hc).1
 generalize jbo c s c.length=us at *
 have hend:=joC hok hx;have hr:=jpU _ hend;have hel:(jbI us x).length=c.length:=by rw[jdI,hul]
 refine⟨⟨by rw[jhD,hl],jpR hx⟩,jEu (by rw[qk,hel]) fun r hr=>?_,?_⟩
 ·obtain⟨u,hu,rfl⟩:=qa.1 hr;exact jIh (hend u hu)
 ·rw[hel,hl]at hr;refine⟨hr.1,Int.le_trans hr.2 ?_⟩;have:((32:Nat):Int)=32:=rfl;rw[this,Int.zero_add];omega
def jsP {x:List Int} {n:Nat} (hl:x.length=n) (h:∀k,k<n->inR (x.getD k 0)):∀y∈x,inR y:=fun y hy=>by
 obtain⟨k,hk,rfl⟩:=xf.1 hy;rw[<-jaw (d:=0) hk];exact h k (by omega)
def jCM {x:List Int} {n:Nat} (hl:x.length=n) (h:∀y∈x,inR y):∀k,k<n->inR (x.getD k 0):=fun k hk=>by
 rw[jaw (by omega)];exact h _ (zZ _)
def jJp (h:Rg g l) {P:List (List Nat)} {fs:List (List (List Int))} {B:List (List Nat)} {G:List (List Int)} (hP:PR g.length P) (hF:FR g fs) (hB:BR g B) (hG:GR g.length G) {i:Nat} (hi:i<g.length) :
  ((jf9 g P fs B G i).1.length=32∧∀j,j<32->inR ((jf9 g P fs B G i).1.getD j 0))∧(csS (nR g i 6) (jf9 g P fs B G i).2.1).2=0∧0<=(jf9 g P fs B G i).2.2∧(jf9 g P fs B G i).2.2<=200:=by
 have hu:=h.unit hi;have hfi:=hF.2 i hi;unfold jf9;split
 ·rename_i h0;obtain⟨_,hc⟩:=jlp h.n hi;rw[h0]at hc;obtain⟨b1,b2⟩:=hB.2 (chI g i) (by rw[hB.1];exact hc);refine⟨⟨by simpa using b1,fun j hj=>?_⟩,hfi,yz 0,(by decide:(0:Int)<=200)⟩;rw[joD fi 0 (by omega)];exact(je4 (b2 j hj)).2
 ·rename_i h0;have hone:=hu.one h0;have hal:=hu.al;obtain⟨v,hv,he⟩:=jqX h hi 0 hone;have ha0:=hu.alr 0 (by omega);split
  ·rename_i h1;refine⟨⟨by simp[jnY],fun j hj=>?_⟩,hfi,?_⟩
   ·unfold jnY;rw[jbS _ hj];exact jGG _
   ·have:=jlo (fun x=>jbx P G (nL g i 2) (nL g i 3) (nL g i 4) (nL g i 4).length x) 32;dsimp only;omega
  ·split
   ·rename_i h1 h3;rw[he];have hr:=jjo hP hG hv (d:=(nL g i 3).getD 0 0) (by omega);have hl:=jiu P G (v:Int) ((nL g i 3).getD 0 0)
    generalize jbR P G (v:Int) ((nL g i 3).getD 0 0)=x at *
    obtain⟨⟨f1,f2⟩,f3,f4⟩:=jIi hu.ca hfi hl (jsP hl hr);exact⟨⟨f1,jCM f1 f2⟩,f3,f4⟩
   ·rename_i h1 h3;have hd:=hu.de;rw[he];exact⟨⟨jiu _ _ _ _,jjo hP hG hv (by omega)⟩,hfi,yz 0,(by decide:(0:Int)<=200)⟩
end Go.Sh
end

section
namespace Go.Sh
open Go Go.Proofs Go.RowKit Go.Sx
open Go.IntKind (wrap)
def jn0:List SV:=[.c (.p [.p [.d,.x (.st zS []),.r (.ints .i64 [])],.d,.x (.ff .f32 []),.x (.rr 4 []),.r (.frs .f32 32 []),.r (.ints .i64 []),.m,.m,.m]),.c (.p [.p [.d,.x (.st zS []),.r (.ints .i64 [])]])]
def juw (u12:List (List NC)) (u11:List (List Nat)) (u15:List (List (List Int))) (u14:List (List Nat)) (u16:List Int) (u54:List Int) (x0:(Int × List (List Nat) × List (List (List Int)) × List Int)):Option ((Int × List (List Nat) × List (List (List Int)) × List Int) ⊕ (List (List Nat) × List (List (List Int)) × List Int)) :=
 if x0.1<(↑u54.length:Int)then
  if 0<=x0.1∧x0.1<(↑u54.length:Int)then
  if zg x0.1<ze u54 then
   zb (y70 u12 u11 u15 u14 u16 (za u54 x0.1.toNat (0:Int)) x0.2.1 x0.2.2.1 x0.2.2.2) fun r0 =>
   some (.inl ((wrap .i64 (x0.1+1),r0.1,r0.2.1,r0.2.2)))
  else none
  else none
 else
  some (.inr (x0.2.1,x0.2.2.1,x0.2.2.2))
def jlq (u4:List (List Nat) × List (List (List Int)) × List Int):Option (List (List Nat) × List (List (List Int)) × List Int) :=
 some (u4.1,u4.2.1,u4.2.2)
def jcM (u12:List (List NC)) (u11:List (List Nat)) (u15:List (List (List Int))) (u14:List (List Nat)) (u16:List Int) (u54:List Int) (u10:List (List Nat)) (u17:List (List (List Int))) (u13:List Int):Option (List (List Nat) × List (List (List Int)) × List Int) :=
 zb (jae (juw u12 u11 u15 u14 u16 u54) big (((0:Int),u10,u17,u13))) (jlq)
def jn1:List Lf->List Lf->Option GM
 |[.d (.s u20),.x (.st [.s,.i .i64,.ints .i64,.ints .i64,.ints .i64,.i .i64,.recs 5,.i .i64] u12),.r (.ints .i64 u21),.d (.i .i64 u18),.x (.ff .f32 u11),.x (.rr 4 u15),.r (.frs .f32 32 u14),.r (.ints .i64 u16),.d (.s u83),.x (.st [.s,.i .i64,.ints .i64,.ints .i64,.ints .i64,.i .i64,.recs 5,.i .i64] u84),.r (.ints .i64 u54)],[.r (.frs .f32 32 u10),.x (.rr 4 u17),.r (.ints .i64 u13)]=>some (.leaf (ok (jcM u12 u11 u15 u14 u16 u54 u10 u17 u13)) [.r (.frs .f32 32 ((val (jcM u12 u11 u15 u14 u16 u54 u10 u17 u13)).1)),.x (.rr 4 ((val (jcM u12 u11 u15 u14 u16 u54 u10 u17 u13)).2.1)),.r (.ints .i64 ((val (jcM u12 u11 u15 u14 u16 u54 u10 u17 u13)).2.2))] [])
 |_,_=>none
abbrev sp_118:jaa->jaa:=jan 118 false (jeq jn0 [(7,110),(8,158),(9,3)] jn1)
abbrev jsQ (u20:ByteArray) (u12:List (List NC)) (u21:List Int) (u18:Int) (u11:List (List Nat)) (u15:List (List (List Int))) (u14:List (List Nat)) (u16:List Int) (u83:ByteArray) (u84:List (List NC)) (u54:List Int) (u10:List (List Nat)) (u17:List (List (List Int))) (u13:List Int) (r:List (List Nat) × List (List (List Int)) × List Int):Lp ((Int × List (List Nat) × List (List (List Int)) × List Int) × Nat) ((Int × List (List Nat) × List (List (List Int)) × List Int)) ((List (List Nat) × List (List (List Int)) × List Int)) ((List (List Nat) × List (List (List Int)) × List Int)) (List (List Nat) × List (List (List Int)) × List Int) :=
 ⟨fun z=>z.1,fun z=>z.2,fun z x n=>(x,n),fun z=>juw u12 u11 u15 u14 u16 u54,fun z=>jlq,fun z=>top r,fun z=>0,[.c fun _=>0,.c fun _=>(↑u54.length:Int),.c fun vv=>vv.1.1,.c fun vv=>vv.1.2.1,.c fun vv=>vv.1.2.2.1,.c fun vv=>vv.1.2.2.2,.c fun _=>0,.c fun _=>u18,.c fun _=>u54,.c fun _=>u20,.c fun _=>u11,.c fun _=>u15,.c fun _=>u14,.c fun _=>u16,.c fun _=>u12,.c fun _=>u21]⟩
def jCN (u20:ByteArray) (u12:List (List NC)) (u21:List Int) (u18:Int) (u11:List (List Nat)) (u15:List (List (List Int))) (u14:List (List Nat)) (u16:List Int) (u83:ByteArray) (u84:List (List NC)) (u54:List Int) (u10:List (List Nat)) (u17:List (List (List Int))) (u13:List Int) (r:List (List Nat) × List (List (List Int)) × List Int):Sk (top r) (zb (jae (juw u12 u11 u15 u14 u16 u54) big (((0:Int),u10,u17,u13))) (jlq)) :=
 .loop (jsQ u20 u12 u21 u18 u11 u15 u14 u16 u83 u84 u54 u10 u17 u13 r) (fun kk=>(((0:Int),u10,u17,u13),big)) fun z0 =>
 .br
 (.ob (.ob (.call (.next))))
 (.exit (.rc))
def jEv (u20:ByteArray) (u12:List (List NC)) (u21:List Int) (u18:Int) (u11:List (List Nat)) (u15:List (List (List Int))) (u14:List (List Nat)) (u16:List Int) (u83:ByteArray) (u84:List (List NC)) (u54:List Int) (u10:List (List Nat)) (u17:List (List (List Int))) (u13:List Int) (r:List (List Nat) × List (List (List Int)) × List Int):Sk (top r) (jcM u12 u11 u15 u14 u16 u54 u10 u17 u13) :=
 .obT (.obT (jCN u20 u12 u21 u18 u11 u15 u14 u16 u83 u84 u54 u10 u17 u13 r))
def jCO (u20:ByteArray) (u12:List (List NC)) (u21:List Int) (u18:Int) (u11:List (List Nat)) (u15:List (List (List Int))) (u14:List (List Nat)) (u16:List Int) (u83:ByteArray) (u84:List (List NC)) (u54:List Int) (u10:List (List Nat)) (u17:List (List (List Int))) (u13:List Int) (r:List (List Nat) × List (List (List Int)) × List Int) (h:zb (jcM u12 u11 u15 u14 u16 u54 u10 u17 u13) some=some r):runM [(7,110),(8,158),(9,3)] Tryz.f118 ((sp_103 sp0)) (fun gs id st=>match id with
 |0=>some ⟨(Int × List (List Nat) × List (List (List Int)) × List Int) × Nat,fun z=>⟨[(0,.w (.c (.p 10 0 1 0))),(8,.w (.c (.o 12))),(9,.w (.c (.d (.i .i64 ((↑u54.length:Int)))))),(10,.w (.c (.d (.i .i64 z.1.1))))],[(7,.row 110 (.frs .f32 32 z.1.2.1)),(8,.xrow 158 (XC.rr (4:Nat) z.1.2.2.1)),(9,.row 3 (.ints .i64 z.1.2.2.2)),(10,.ebox [.p 2 0 1 0,.d (.i .i64 u18),.o 3,.o 4,.o 5,.o 6,.o 7,.o 8,.o 9]),(12,.ext (.ints .i64 u54)),(2,.ebox [.d (.s u20),.o 0,.o 1]),(3,.xext (XC.ff .f32 u11)),(4,.xext (XC.rr (4:Nat) u15)),(5,.ext (.frs .f32 32 u14)),(6,.ext (.ints .i64 u16)),(0,.xext (XC.st zS u12)),(1,.ext (.ints .i64 u21))],15⟩,fun z=>(jsQ u20 u12 u21 u18 u11 u15 u14 u16 u83 u84 u54 u10 u17 u13 r).inv z,fun z=>z.2⟩
 |_=>none) (jaC jn0 [.d (.s u20),.x (.st zS u12),.r (.ints .i64 u21),.d (.i .i64 u18),.x (.ff .f32 u11),.x (.rr 4 u15),.r (.frs .f32 32 u14),.r (.ints .i64 u16),.d (.s u83),.x (.st zS u84),.r (.ints .i64 u54)]) [.r (.frs .f32 32 u10),.x (.rr 4 u17),.r (.ints .i64 u13)] [.r (.frs .f32 32 r.1),.x (.rr 4 r.2.1),.r (.ints .i64 r.2.2)] [] :=
 Sk.vc (jEv u20 u12 u21 u18 u11 u15 u14 u16 u83 u84 u54 u10 u17 u13 r) (by kernel_rfl) h
def jCP:jaf Tryz.prog 118 false (jeq jn0 [(7,110),(8,158),(9,3)] jn1):=by
 refine jlg (sp:=(sp_103 sp0)) (fn:=Tryz.f118) (body:=bodyOf Tryz.f118) mixed (sp_103_ok jaj) Tryz.func118 (by kernel_rfl) (by kernel_rfl) fun ls ms t h ho b hb=>?_;unfold jn1 at h;split at h
 ·rename_i u20 u12 u21 u18 u11 u15 u14 u16 u83 u84 u54 u10 u17 u13;cases h;obtain rfl:=jap hb;exact⟨zh (by kernel_rfl),_,_,jCO u20 u12 u21 u18 u11 u15 u14 u16 u83 u84 u54 u10 u17 u13 _ (jai ho)⟩
 ·cases h
def sp_118_ok {sp:jaa} (h:jab Tryz.prog sp):jab Tryz.prog (sp_118 sp):=jag jCP h
attribute [irreducible] jcM
end Go.Sh
end

section
namespace Go.Sh
open Go Go.Proofs Go.RowKit Go.Sx Go.Sx06
variable {g:List (List NC)} {l:List Int}
def jGI {s:List (List Int)} (h:s.length<1000):jbd s=some s:=by
 unfold jbd;rw[if_pos (by omega)]
def WR (n:Nat) (who:List Int):Prop:=who.length=n∧∀i,i<n->who.getD i 0=-1∨∃u:Nat,u<n∧who.getD i 0=(u:Int)
def jJq (h:Rg g l) {fs:List (List (List Int))} (hF:FR g fs) {i:Nat} (hi:i<g.length):(fs.getD i []).length<1000:=by
 have h1:=(jsJ (hF.2 i hi)).1;have h2:=(jgQ (h.unit hi).ca).1;omega
def jIj {r:List Int} (h:∀y∈r,inR y):jbh (r.map nf)=0:=jA8 fun b hb=>by
 obtain⟨y,hy,rfl⟩:=qa.1 hb;rw[jCI (jsM (h y hy)),if_pos (h y hy)]
def jEw {r:List Int} (h:∀y∈r,inR y):(r.map nf).map fi=r:=by
 rw[xh]
 conv=>rhs;rw[<-List.map_id r]
 exact qy fun y hy=>jCH (jsM (h y hy))
def jCQ {c s:List (List Int)} (hc:jbe c=0) (hs:(csS c s).2=0) {x:List Int} (hl:x.length=32) (hx:∀y∈x,inR y) :
  jdM c (x.map nf) s=some ((jbL (jbo c s c.length) x).map nf,(jbI (jbo c s c.length) x).map stU,ja7 (jbI (jbo c s c.length) x),0):=by
 have h6:=(jgQ hc).1;have hsl:=(jsJ hs).1
 have he:jfx c s (x.map nf)=0:=by
  unfold jfx;rw[if_neg (by omega),jIj hx,if_neg (by omega),hs]
 rw[jJj (by omega) (by omega) (by simpa using hl),he,if_pos rfl,jEw hx]
section
variable {P:List (List Nat)} {fs:List (List (List Int))} {B:List (List Nat)} {who:List Int} {G:List (List Int)} {A:List (List (List Int))} {C:List Int}
def jIk (h:Rg g l) (hP:PR g.length P) (hF:FR g fs) (hB:BR g B) (hG:GR g.length G) (hw:WR g.length who) (hA:A.length=g.length) (hC:C.length=g.length) {i:Nat} (hi:i<g.length) :
  y70 g P fs B who (i:Int) (gw G) A C=some (gw (jcj g P fs B who i G A C).1,(jcj g P fs B who i G A C).2.1,(jcj g P fs B who i G A C).2.2):=by
 have hn:=h.n;have hu:=h.unit hi;have hfl:=jJq h hF hi;have hF1:=hF.1;have hGl:=hG.1;have hw1:=hw.1;have hgl:=jnV G;have hrec:∀x:List (List Int),NC.toRecs (qg [NC.r (Cont.recs 4 x)] (NC.d (D.v z3)))=x:=fun x=>rfl;unfold y70;simp only[zi,hrec];rw[if_pos (by omega),if_pos hi,if_pos (by omega),if_pos (by omega),jGI hfl,jac,if_pos (by omega),if_pos (by omega),if_pos (by omega),if_pos (by omega)];unfold jcj
 by_cases w1:who.getD i 0=-1
 ·rw[if_pos (by rw[w1];rfl),if_pos w1]
 ·rw[if_neg (by simpa using w1),if_neg w1];obtain⟨u,hu2,hue⟩:=(hw.2 i hi).resolve_left w1
  by_cases w2:who.getD i 0=(i:Int)
  ·rw[if_neg (by rw[w2];simp),if_neg (show ¬(who.getD i 0≠(i:Int))from fun h=>h w2)];unfold jf9
   by_cases k0:nI g i 1=0
   ·obtain⟨c1,c2⟩:=jlp hn hi;rw[k0]at c2;rw[if_pos (by rw[k0];rfl),if_pos k0,c1,jac,if_pos (by rw[hB.1];omega),zi,if_pos (by rw[hB.1];omega)];have hit:=jGH hB (c:=chI g i) (by rw[hB.1];exact c2)
    change (jae (y62 B (chI g i:Int)) big (0,[]++zf (32-0) 0)).bind _=_
    rw[hit,jac];have b1:=(hB.2 (chI g i) (by rw[hB.1];exact c2)).1;unfold y199;rw[jgF (by simpa using b1),jac,if_pos (by omega),zi,if_pos (by omega),jnW,hrec,if_neg (by omega)]
   ·rw[if_neg (by simpa using k0),if_neg k0];have hone:=hu.one k0;have hal:=hu.al;have h6:=hu.six;obtain⟨v,hv,he⟩:=jqX h hi 0 hone;have ha0:=hu.alr 0 (by omega);have hde:=hu.de;have htk:∀d:Int,0<=d∧d<=64->y19 P (gw G) (nL g i 2) (nL g i 3) 0 d=some (jbR P G (v:Int) ((nL g i 3).getD 0 0+d)):=fun d hd=>jyU (f:=0) hP hG hn hone (by omega) (by omega) (by omega) hv he ha0 hd
    by_cases k1:nI g i 1=1
    ·rw[if_pos (by rw[k1];rfl),if_pos k1,jJo hP hG hn (h.six hi k1),jac,if_pos (by omega),if_pos (by omega),if_pos (by omega),if_pos (by omega),jnW,if_pos (Or.inl k1)]
    ·rw[if_neg (by simpa using k1),if_neg k1]
     by_cases k3:nI g i 1=3
     ·rw[if_pos (by rw[k3];rfl),if_pos k3,htk 0 (by decide),jac,Int.add_zero];rw[he];have hr:=jjo hP hG hv (d:=(nL g i 3).getD 0 0) (by omega);have hl:=jiu P G (v:Int) ((nL g i 3).getD 0 0)
      generalize jbR P G (v:Int) ((nL g i 3).getD 0 0)=x at *
      rw[jgF hl,jac,if_pos (by omega),if_pos (by omega),jCQ hu.ca (hF.2 i hi) hl (jsP hl hr),jac,if_pos (by omega),if_pos (by omega),if_pos (by rw[gR];omega),if_pos (by rw[gR];omega),if_pos (by omega),if_pos (by omega),List.set_set,jnW,if_pos (Or.inr k3)]
     ·rw[if_neg (by simpa using k3),if_neg k3,htk _ hde,jac];rw[he,jgF (jiu _ _ _ _),jac,if_pos (by omega),if_pos (by omega),jnW,if_neg (by omega)]
  ·rw[if_pos (by simpa using w2),if_pos w2,hue,zi,if_pos (by omega),if_pos (by omega),if_pos (by omega),if_pos (by omega),jsL (by omega),jnW]
structure RI (g:List (List NC)) (G:List (List Int)) (A:List (List (List Int))) (C:List Int):Prop where
 gr:GR g.length G
 al:A.length=g.length
 cl:C.length=g.length
 cr:∀i,i<g.length->0<=C.getD i 0∧C.getD i 0<=200
def jEx {n:Nat} {G:List (List Int)} (hG:GR n G) {i:Nat} (hi:i<n) {r:List Int} (h1:r.length=32) (h2:∀j,j<32->inR (r.getD j 0)):GR n (G.set i r):=by
 have hl:=hG.1;refine⟨by simpa using hl,fun k hk=>?_⟩;rw[ja8 _ _ _ _ _ (by omega)];split
 ·exact⟨h1,h2⟩
 ·exact hG.2 k hk
def jIl (h:Rg g l) (hP:PR g.length P) (hF:FR g fs) (hB:BR g B) (hw:WR g.length who) (hR:RI g G A C) {i:Nat} (hi:i<g.length) :
  RI g (jcj g P fs B who i G A C).1 (jcj g P fs B who i G A C).2.1 (jcj g P fs B who i G A C).2.2 ∧
  (csS (nR g i 6) ((jcj g P fs B who i G A C).2.1.getD i [])).2=0∧∀k,k≠i->(jcj g P fs B who i G A C).2.1.getD k []=A.getD k []:=by
 obtain⟨hG,hA,hC,hCr⟩:=hR;obtain⟨o1,o2,o3⟩:=jJp h hP hF hB hG hi;have hGl:=hG.1
 have hset:∀s:List (List Int),(A.set i s).getD i []=s∧∀k,k≠i->(A.set i s).getD k []=A.getD k []:=fun s =>
  ⟨by rw[ja8 _ _ _ _ _ (by omega),if_pos rfl],fun k hk=>by rw[ja8 _ _ _ _ _ (by omega),if_neg (fun e=>hk e.symm)]⟩
 unfold jcj;split
 ·exact⟨⟨hG,by simpa using hA,hC,hCr⟩,by rw[(hset _).1];exact hF.2 i hi,(hset _).2⟩
 ·rename_i w1;split
  ·obtain⟨u,hu,hue⟩:=(hw.2 i hi).resolve_left w1;rw[hue,zi];obtain⟨r1,r2⟩:=hG.2 u hu;exact⟨⟨jEx hG hi r1 r2,by simpa using hA,hC,hCr⟩,by rw[(hset _).1];exact hF.2 i hi,(hset _).2⟩
  ·refine⟨⟨jEx hG hi o1.1 o1.2,by simpa using hA,?_,fun k hk=>?_⟩,by rw[(hset _).1];exact o2,(hset _).2⟩
   ·split
    ·simpa using hC
    ·exact hC
   ·split
    ·rw[ja8 _ _ _ _ _ (by omega)];split
     ·exact o3
     ·exact hCr k hk
    ·exact hCr k hk
def jaM (g:List (List NC)) (P:List (List Nat)) (fs:List (List (List Int))) (B:List (List Nat)) (who l:List Int):Nat->List (List Int) × List (List (List Int)) × List Int
 |0=>(zf g.length (zf 32 0),zf g.length [],zf g.length 0)
 |k+1=>jcj g P fs B who (l.getD k 0).toNat (jaM g P fs B who l k).1 (jaM g P fs B who l k).2.1 (jaM g P fs B who l k).2.2
def jbJ {α:Type} {n i:Nat} {x d:α} (h:i<n):(zf n x).getD i d=x:=by
 rw[jaw (by simpa using h)];simp
def jgR (h:Rg g l) (hP:PR g.length P) (hF:FR g fs) (hB:BR g B) (hw:WR g.length who):∀k,k<=g.length ->
  RI g (jaM g P fs B who l k).1 (jaM g P fs B who l k).2.1 (jaM g P fs B who l k).2.2 ∧
  ∀j,j<k->(csS (nR g (l.getD j 0).toNat 6) ((jaM g P fs B who l k).2.1.getD (l.getD j 0).toNat [])).2=0
 |0,_=>⟨⟨⟨by simp[jaM],fun i hi=>⟨by rw[show(jaM g P fs B who l 0).1=zf g.length (zf 32 0)from rfl,jbJ hi];simp,fun j hj=>by
   rw[show(jaM g P fs B who l 0).1=zf g.length (zf 32 0)from rfl,jbJ hi,jbJ hj];decide⟩⟩,by simp[jaM],by simp[jaM],fun i hi=>by
   rw[show(jaM g P fs B who l 0).2.2=zf g.length 0 from rfl,jbJ hi];decide⟩,fun j hj=>absurd hj (by omega)⟩
 |k+1,hk=>by
  obtain⟨hR,ha⟩:=jgR h hP hF hB hw k (by omega);obtain⟨i,hi,e,_⟩:=h.at (j:=k) (by omega);obtain⟨w1,w2,w3⟩:=jIl h hP hF hB hw hR hi
  have hs:jaM g P fs B who l (k+1)=jcj g P fs B who i (jaM g P fs B who l k).1 (jaM g P fs B who l k).2.1 (jaM g P fs B who l k).2.2:=by
   show jcj g P fs B who (l.getD k 0).toNat _ _ _=_
   rw[e,zi]
  rw[hs];refine⟨w1,fun j hj=>?_⟩
  by_cases hjk:j=k
  ·subst hjk;rw[e,zi];exact w2
  ·obtain⟨i',hi',e',_⟩:=h.at (j:=j) (by omega);have hne:=jnQ h (j:=k) (j':=j) (by omega) (by omega) e e';have:=ha j (by omega);rw[e',zi]at this ⊢;rw[w3 i' (fun e=>hne e.symm)];exact this
def jIm (h:Rg g l) (hP:PR g.length P) (hF:FR g fs) (hB:BR g B) (hw:WR g.length who):FR g (jaM g P fs B who l g.length).2.1:=by
 obtain⟨hR,ha⟩:=jgR h hP hF hB hw g.length (zq _);refine⟨hR.al,fun i hi=>?_⟩;obtain⟨j,hj,e⟩:=h.surj hi;have:=ha j hj;rw[e,zi]at this;exact this
def jIn (h:Rg g l) (hP:PR g.length P) (hF:FR g fs) (hB:BR g B) (hw:WR g.length who) :
  jcM g P fs B who l (zf g.length Z32) (zf g.length []) (zf g.length 0) =
  some (gw (jaM g P fs B who l g.length).1,(jaM g P fs B who l g.length).2.1,(jaM g P fs B who l g.length).2.2):=by
 have hn:=h.n;have hL:=h.len
 have hit:=jaJ (body:=juw g P fs B who l) (fun k=>((k:Int),gw (jaM g P fs B who l k).1,(jaM g P fs B who l k).2.1,(jaM g P fs B who l k).2.2))
  (y:=(gw (jaM g P fs B who l g.length).1,(jaM g P fs B who l g.length).2.1,(jaM g P fs B who l g.length).2.2)) (k:=g.length) (fun k hk=>by
   obtain⟨hR,_⟩:=jgR h hP hF hB hw k (by omega);obtain⟨i,hi,e,_⟩:=h.at hk
   have hs:jaM g P fs B who l (k+1)=jcj g P fs B who i (jaM g P fs B who l k).1 (jaM g P fs B who l k).2.1 (jaM g P fs B who l k).2.2:=by
    show jcj g P fs B who (l.getD k 0).toNat _ _ _=_
    rw[e,zi]
   unfold juw;dsimp only;rw[if_pos (by omega),if_pos (by omega),zi,if_pos (by omega),e,jIk h hP hF hB hR.gr hw hR.al hR.cl hi,jac,jao (by omega),hs];rfl) (by
   unfold juw;dsimp only;rw[if_neg (by omega)]) (by omega)
 have hz:gw (zf g.length (zf 32 0))=zf g.length Z32:=by
  unfold gw;rw[List.map_replicate];rfl
 have e0:(((0:Nat):Int),gw (jaM g P fs B who l 0).1,(jaM g P fs B who l 0).2.1,(jaM g P fs B who l 0).2.2)=(0,zf g.length Z32,zf g.length [],zf g.length 0):=by
  rw[show(jaM g P fs B who l 0).1=zf g.length (zf 32 0)from rfl,hz];rfl
 rw[e0]at hit;unfold jcM;rw[hit];rfl
end
end Go.Sh
end

section
namespace Go.Sh
open Go Go.Proofs Go.RowKit Go.Sx
open Go.IntKind (wrap)
def ai {a b:Prop} (x:a) (y:b):a∧b:=⟨x,y⟩
def oR {α:Type} (a:α):Ob (a=a):=⟨rfl⟩
def y286:List SV:=[.c (.p [.d,.x (.st zS []),.r (.ints .i64 [])])]
def y74 (u5:List (List NC)) (x0:(Int × List (List Nat) × List (List (List Int)))):Option ((Int × List (List Nat) × List (List (List Int))) ⊕ (List (List Nat) × List (List (List Int)))) :=
 if x0.1<(↑u5.length:Int)then
  if 0<=x0.1∧x0.1<(↑u5.length:Int)then
  if zg x0.1<ze u5 then
   zb (y25 (nR u5 x0.1.toNat (6:Nat))) fun r0 =>
   if(ze x0.2.1+ze (xj (fun r=>NC.toFlts (qg r (NC.d (D.v z3)))) [[NC.r (Cont.floats .f32 (zf (128:Nat) (0:Nat)))]]))*24<=140737488355328∧ze x0.2.1+ze (xj (fun r=>NC.toFlts (qg r (NC.d (D.v z3)))) [[NC.r (Cont.floats .f32 (zf (128:Nat) (0:Nat)))]])<=9223372036854775807 then
   if(ze x0.2.2+ze (xj (fun r=>NC.toRecs (qg r (NC.d (D.v z3)))) [[NC.r (Cont.recs (4:Nat) r0.1)]]))*24<=140737488355328∧ze x0.2.2+ze (xj (fun r=>NC.toRecs (qg r (NC.d (D.v z3)))) [[NC.r (Cont.recs (4:Nat) r0.1)]])<=9223372036854775807 then
    some (.inl ((wrap .i64 (x0.1+1),x0.2.1++xj (fun r=>NC.toFlts (qg r (NC.d (D.v z3)))) [[NC.r (Cont.floats .f32 (zf (128:Nat) (0:Nat)))]],x0.2.2++xj (fun r=>NC.toRecs (qg r (NC.d (D.v z3)))) [[NC.r (Cont.recs (4:Nat) r0.1)]])))
   else none
   else none
  else none
  else none
 else
  some (.inr (x0.2.1,x0.2.2))
def y263 (u4:List (List Nat) × List (List (List Int))):Option (Int × List (List Nat) × List (List (List Int))) :=
 some (((0:Int),u4.1,u4.2))
def y8 (u5:List (List NC)):Option (Int × List (List Nat) × List (List (List Int))) :=
 zb (jae (y74 u5) big (((0:Int),[],[]))) (y263)
def y287:List Lf->Option GT
 |[.d (.s u7),.x (.st [.s,.i .i64,.ints .i64,.ints .i64,.ints .i64,.i .i64,.recs 5,.i .i64] u5),.r (.ints .i64 u6)]=>some (.leaf (ok (y8 u5)) [.s [.d (.i .i64 ((val (y8 u5)).1)),.x 157 (.ff .f32 ((val (y8 u5)).2.1)),.x 158 (.rr 4 ((val (y8 u5)).2.2))]])
 |_=>none
abbrev sp_120:jaa->jaa:=jan 120 true (jah y286 y287)
def st_s0 (u5:List (List NC)) (z0:(Int × List (List Nat) × List (List (List Int))) × Nat):St :=
 ⟨[(2,.w (.c (.p 3 0 1 0))),(3,.w (.c (.p 4 0 1 0))),(6,.w (.c (.o 12))),(12,.w (.c (.o 0))),(13,.w (.c (.d (.i .i64 ((↑u5.length:Int)))))),(14,.w (.c (.d (.i .i64 z0.1.1))))],[(0,.xext (XC.st zS u5)),(12,.row 174 (.recs 4 ((val (y25 (nR u5 z0.1.1.toNat (6:Nat)))).1))),(4,.box 78 [.d (.i .i64 0),.o 5,.o 6]),(3,.box 78 [.d (.i .i64 0),.d (.v (qd none (0:Nat) (0:Nat))),.d (.v (qd none (0:Nat) (0:Nat)))]),(6,.xrow 158 (XC.rr (4:Nat) z0.1.2.2)),(5,.xrow 157 (XC.ff .f32 z0.1.2.1))],13⟩
def st_s1 (u5:List (List NC)) (z0:(Int × List (List Nat) × List (List (List Int))) × Nat):St :=
 ⟨[(2,.w (.c (.p 3 0 1 0))),(3,.w (.c (.p 4 0 1 0))),(12,.w (.c (.o 0))),(13,.w (.c (.d (.i .i64 ((↑u5.length:Int)))))),(14,.w (.c (.d (.i .i64 z0.1.1))))],[(0,.xext (XC.st zS u5)),(4,.box 78 [.d (.i .i64 0),.o 15,.o 17]),(3,.box 78 [.d (.i .i64 0),.d (.v (qd none (0:Nat) (0:Nat))),.d (.v (qd none (0:Nat) (0:Nat)))]),(17,.xrow 158 (XC.rr (4:Nat) (z0.1.2.2++xj (fun r=>NC.toRecs (qg r (NC.d (D.v z3)))) [[NC.r (Cont.recs (4:Nat) (val (y25 (nR u5 z0.1.1.toNat (6:Nat)))).1)]]))),(15,.xrow 157 (XC.ff .f32 (z0.1.2.1++xj (fun r=>NC.toFlts (qg r (NC.d (D.v z3)))) [[NC.r (Cont.floats .f32 (zf (128:Nat) (0:Nat)))]])))],18⟩
def jEy (u5:List (List NC)) (z0:(Int × List (List Nat) × List (List (List Int))) × Nat):Prop:=ordA Tryz.prog (sp_130 sp0) 38 3 [0,5,7] ((jeY (bodyOf Tryz.f120)).getD #[]) (st_s0 u5 z0) (st_s1 u5 z0) ((((ze z0.1.2.2+ze (xj (fun r=>NC.toRecs (qg r (NC.d (D.v z3)))) [[NC.r (Cont.recs (4:Nat) (val (y25 (nR u5 z0.1.1.toNat (6:Nat)))).1)]]))*24<=140737488355328∧ze z0.1.2.2+ze (xj (fun r=>NC.toRecs (qg r (NC.d (D.v z3)))) [[NC.r (Cont.recs (4:Nat) (val (y25 (nR u5 z0.1.1.toNat (6:Nat)))).1)]])<=9223372036854775807)∧((ze z0.1.2.1+ze (xj (fun r=>NC.toFlts (qg r (NC.d (D.v z3)))) [[NC.r (Cont.floats .f32 (zf (128:Nat) (0:Nat)))]]))*24<=140737488355328∧ze z0.1.2.1+ze (xj (fun r=>NC.toFlts (qg r (NC.d (D.v z3)))) [[NC.r (Cont.floats .f32 (zf (128:Nat) (0:Nat)))]])<=9223372036854775807)∧((0:Int)<=128∧(128:Int)=(128:Int)∧(↑(4:Nat):Int)*128<=281474976710656∧(128:Int)<=9223372036854775807)∧True))
def jEz (u5:List (List NC)) (z0:(Int × List (List Nat) × List (List (List Int))) × Nat):jEy u5 z0:=fun h =>
 have t:=trivial;have e:Ob True:=⟨trivial⟩
 have q3:=oR ((0:Nat));have q4:=oR ((↑u5.length:Int));have q5:=oR (z0.1.1);have q6:=oR (u5);have q7:=oR ((0:Int));have q8:=oR (qd none (0:Nat) (0:Nat));have q9:=oR (z0.1.2.2++xj (fun r=>NC.toRecs (qg r (NC.d (D.v z3)))) [[NC.r (Cont.recs (4:Nat) (val (y25 (nR u5 z0.1.1.toNat (6:Nat)))).1)]]);have q10:=oR (z0.1.2.1++xj (fun r=>NC.toFlts (qg r (NC.d (D.v z3)))) [[NC.r (Cont.floats .f32 (zf (128:Nat) (0:Nat)))]]);have q0:Ob _:=⟨h.2.2.1⟩
 have q1:Ob _:=⟨h.2.1⟩
 have q2:Ob _:=⟨h.1⟩
 have s0:=ai (ai e (ai (ai e (ai (ai e (ai q3 (ai q3 (ai q4 (ai q5 (ai q6 (ai q7 (ai q7 (ai q8 (ai q8 (ai q9 (ai q10 t)))))))))))) t)) t)) t;have s1:=ai (ai e (ai (ai q2 s0) t)) t;have s2:=ai (ai q2 (ai (ai e s0) t)) s1;have s3:=ai e s2;have s4:=ai s3 (ai (ai e s1) t);have s5:=ai s3 t;have s6:=ai (ai e (ai (ai q1 s2) t)) t;have s7:=ai e (ai (ai q1 s4) s6);have s8:=ai e (ai (ai q1 s5) s6);have s9:=ai e s6;have s10:=ai s9 t;have s11:=ai s7 s10;have s12:=ai e s11;have s13:=ai s8 s10;have s14:=ai e s13;have s15:=ai (ai e (ai (ai q1 (ai (ai e s4) (ai (ai e s5) t))) (ai s7 (ai s8 t)))) (ai s12 (ai s14 t));have s16:=ai e (ai (ai q0 s6) t);have s17:=ai s16 t;have s18:=ai e (ai (ai q0 s11) s17);have s19:=ai e (ai (ai q0 s13) s17);have s20:=ai e s15;have s21:=ai s9 s10;have s22:=ai (ai e s21) t;have s23:=ai s12 (ai s12 s22);have s24:=ai s14 (ai s14 s22);have s25:=ai (ai e (ai s16 (ai (ai q0 s21) t))) t;have s26:=ai e (ai (ai e (ai (ai q0 s15) (ai s18 (ai s19 t)))) (ai (ai q0 (ai s20 (ai s20 (ai (ai e s23) (ai (ai e s24) t))))) (ai (ai e (ai s18 (ai (ai q0 s23) s25))) (ai (ai e (ai s19 (ai (ai q0 s24) s25))) t))));have s27:=ai e (ai e s26)
 @jI _ _ (by kernel_rfl) s27
abbrev jhG (u7:ByteArray) (u5:List (List NC)) (u6:List Int) (r:Int × List (List Nat) × List (List (List Int))):Lp ((Int × List (List Nat) × List (List (List Int))) × Nat) ((Int × List (List Nat) × List (List (List Int)))) ((List (List Nat) × List (List (List Int)))) ((Int × List (List Nat) × List (List (List Int)))) (Int × List (List Nat) × List (List (List Int))) :=
 ⟨fun z=>z.1,fun z=>z.2,fun z x n=>(x,n),fun z=>y74 u5,fun z=>y263,fun z=>top r,fun z=>0,[.c fun _=>0,.c fun _=>0,.c fun _=>(↑u5.length:Int),.c fun vv=>vv.1.1,.c fun _=>(0:Int),.c fun _=>qd none (0:Nat) (0:Nat),.c fun _=>qd none (0:Nat) (0:Nat),.c fun _=>(0:Int),.c fun _=>u5,.c fun vv=>vv.1.2.1,.c fun vv=>vv.1.2.2]⟩
def jq0 (u7:ByteArray) (u5:List (List NC)) (u6:List Int) (r:Int × List (List Nat) × List (List (List Int))):Sk (top r) (zb (jae (y74 u5) big (((0:Int),[],[]))) (y263)) :=
 .loopQ (jhG u7 u5 u6 r) [.c fun _=>0,.c fun _=>0,.c fun _=>(↑u5.length:Int),.c fun vv=>vv.1.1,.c fun _=>(0:Int),.c fun _=>qd none (0:Nat) (0:Nat),.c fun _=>qd none (0:Nat) (0:Nat),.c fun _=>(0:Int),.c fun _=>u5,.p fun vv=>ze vv.1.2.1=(0:Nat),.p fun vv=>ze vv.1.2.2=(0:Nat)] (fun kk=>(((0:Int),[],[]),big)) (fun z0 =>
 .br
 (.ob (.ob (.call (.obC ((0:Int)<=128∧(128:Int)=(128:Int)∧(512:Int)<=281474976710656∧(128:Int)<=9223372036854775807) (by decide) (.ob (.ob (.obC (jEy u5 z0) (jEz u5 z0) (.next))))))))
 (.exit (.obT (.rc)))) (fun _=>⟨rfl,⟨rfl,trivial⟩⟩)
def jsR (u7:ByteArray) (u5:List (List NC)) (u6:List Int) (r:Int × List (List Nat) × List (List (List Int))):Sk (top r) (y8 u5) :=
 .obT (jq0 u7 u5 u6 r)
def jq1 (u7:ByteArray) (u5:List (List NC)) (u6:List Int) (r:Int × List (List Nat) × List (List (List Int))) (h:zb (y8 u5) some=some r):runA 14 [2,3,6,12,13,14] [2,3,12,13,14] [0,5,7] Tryz.f120 ((sp_130 sp0)) (fun gs id st=>match id with
 |0=>some ⟨(Int × List (List Nat) × List (List (List Int))) × Nat,fun z=>⟨[(2,.w (.c (.p 3 0 1 0))),(3,.w (.c (.p 4 0 1 0))),(12,.w (.c (.o 0))),(13,.w (.c (.d (.i .i64 ((↑u5.length:Int)))))),(14,.w (.c (.d (.i .i64 z.1.1))))],[(3,.box 78 [.d (.i .i64 0),.d (.v (qd none (0:Nat) (0:Nat))),.d (.v (qd none (0:Nat) (0:Nat)))]),(4,.box 78 [.d (.i .i64 0),.o 5,.o 6]),(0,.xext (XC.st zS u5)),(5,.xrow 157 (XC.ff .f32 z.1.2.1)),(6,.xrow 158 (XC.rr (4:Nat) z.1.2.2))],7⟩,fun z=>(jhG u7 u5 u6 r).inv z,fun z=>z.2⟩
 |_=>none) (jaC y286 [.d (.s u7),.x (.st zS u5),.r (.ints .i64 u6)]) [.s [.d (.i .i64 r.1),.x 157 (.ff .f32 r.2.1),.x 158 (.rr 4 r.2.2)]] :=
 Sk.vc (jsR u7 u5 u6 r) (by kernel_rfl) h
def jq2:jaf Tryz.prog 120 true (jah y286 y287):=by
 refine jvu (drawn:=fun n0=>jsy Tryz.prog (sp_130 sp0) 38 n0 14 [2,3,6,12,13,14] [2,3,12,13,14] [0,5,7]) (fun B n0 I w=>jys jHL mixed (sp_130_ok jaj) 14 [2,3,6,12,13,14] [2,3,12,13,14] [0,5,7]) (sp:=(sp_130 sp0)) (fn:=Tryz.f120) (body:=bodyOf Tryz.f120) (sp_130_ok jaj) Tryz.func120 (by kernel_rfl) (by kernel_rfl) fun ls t h ho b hb=>?_;unfold y287 at h;split at h
 ·rename_i u7 u5 u6;cases h;obtain rfl:=jap hb;exact⟨zh (by kernel_rfl),_,_,jq1 u7 u5 u6 _ (jai ho)⟩
 ·cases h
def sp_120_ok {sp:jaa} (h:jab Tryz.prog sp):jab Tryz.prog (sp_120 sp):=jag jq2 h
attribute [irreducible] y8
end Go.Sh
end
