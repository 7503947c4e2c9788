/- Part 5 of the proof of EngineBlocks: the executor, the mirrors of the functions, the plain facts. -/
import Derived.Test.YtigliehhpdpaoaaGreatPD
import Derived.IntWalk
set_option maxRecDepth 100000
set_option linter.unusedSectionVars false
set_option linter.unusedSimpArgs false
set_option linter.unusedVariables false
set_option linter.defProp false
open Bool renaming and_eq_true->zk,eq_iff_iff->yV,false_eq_true->z3,false_ne_true->qB,not_eq_false->fW,not_eq_false'->jS,not_eq_true->gj,not_eq_true'->xB,not_true->gP,or_eq_false_iff->yG,or_eq_true->qU,or_false->kB,true_and->kC
open ByteArray renaming mk->xd
open Eq renaming mp->js
open Go renaming Code->jn,Oper->qu,Operand->zZ,Program->zP,World->zr,undef->zJ,wpList->fx,wp_mono->yl
open Go.FloatKind renaming decode->qM,encode->jw,nearest->qw
open Go.IntKind renaming i64->qP
open Go.Result renaming andThen_ok->zn
open Go.Sem renaming run_bind->zq,run_pure->zt
open Go.Value renaming slice->zx
open Ieee renaming Format->gv
open Ieee.Format renaming order->qo
open Int renaming le_refl->yN,toNat->zf,toNat_natCast->zg
open List renaming all_eq_true->zy,any_append->gA,any_cons->jK,any_eq_false->xC,any_eq_true->qY,any_nil->kI,append_assoc->qF,cons_append->qq,drop->jf,drop_zero->yq,eq_nil_of_length_eq_zero->z5,ext_getElem->x5,find?_cons->kn,findIdx?_cons->xX,findIdx?_eq_none_iff->qv,findIdx?_eq_some_iff_getElem->qm,getD->zb,getElem?_eq_getElem->zH,getElem?_eq_none->z7,getElem?_take_of_lt->jJ,getElem_map->gm,getElem_mem->zW,getElem_range->yS,getElem_set->f8,headD->zA,length->za,length_append->qc,length_cons->zB,length_drop->xy,length_map->qh,length_nil->qe,length_range->x7,length_set->fg,map->qt,map_append->xa,map_congr_left->qx,map_map->xV,mem_cons->qr,mem_cons_of_mem->zu,mem_cons_self->zw,mem_iff_getElem->xx,mem_map->qn,mem_range->qZ,range->zm,range_succ->x8,replicate->zh,replicate_succ->jb,set->qz,set_append_right->yT,take->je,take_length->yk,take_of_length_le->xW
open Nat renaming div_add_mod->yu,div_eq_of_lt->gi,le_of_ble_eq_true->zQ,le_refl->zp,le_trans->xb,log2_lt->fv,lt_log2_self->gX,min_eq_left->yv,mod_lt->ya,mul_assoc->ym,mul_comm->xI,mul_le_mul_right->qb,mul_lt_mul_of_pos_right->yM,mul_one->jg,pos_of_ne_zero->gG,pow_add->yO,pow_succ->fS,shiftLeft_eq->jB,strongRecOn->jo,sub_self->jl,sub_zero->jC,two_pow_pos->yy
open Option renaming bind->ze,getD->z8,getD_none->jA,getD_some->z9
open Option.some renaming injEq->zj
open Sum renaming elim->qy
section
open Go Go.RowKit
namespace Go.Sx
def jyv (P:zP) (t:TypeId):Bool:=match P.underlying t with|some (.slice _)=>true|_=>false
section
variable [Globs] {P:zP} {sp:jab} {I I0:Env} {B:Kd} {nx N n0:Nat} {hp:Hp} {w w0:zr} {st:St} {a:Act} {ds:List Deferred}
def jzV {o:qu} {t yt:TypeId} {x:zZ} {u:V} {aa:Option Addr} {n cap:Nat} {K:Act->zr->Prop} {Q:Exit->Act->zr->Prop} (hop:o.op=.binOp .eql t x (.const (.slice none 0 0)) yt) (hd:jcR N o.dst=true) (hit:jyv P t=true)
  (hx:jcv st x=some u) (hv:u.val I=.slice aa n cap) (hr:RelD ds I B N n0 st a w)
  (hK:RelD ds I B N n0 (st.put o.dst ⟨True,vb aa.isNone,st.hp,st.nx⟩) (a.put o.dst (.bool aa.isNone)) w->K (a.put o.dst (.bool aa.isNone)) w):o.wp P a w K Q:=by
 obtain⟨ms,hms⟩:∃ms,P.underlying t=some (.slice ms):=by
  unfold jyv at hit;split at hit
  ·rename_i ms h';exact⟨ms,h'⟩
  ·cases hit
 have h1:=hr.reads _ _ hx;have e1:a.eval x=.slice aa n cap:=by rw[h1.2,hv]
 have e2:a.eval (.const (.slice none 0 0))=.slice none 0 0:=rfl
 have heq:(Op.equal t (.slice aa n cap) (.slice none 0 0)).run P w=.ok aa.isNone w:=by
  unfold Op.equal;rw[show Op.maxDepth=9999+1 from rfl,Op.equalIn];cases aa<;>simp only[zq,run_underlying hms,zn,zt]<;>rfl
 have hg:(eqGuard .eql t x (.const (.slice none 0 0)) (.slice aa n cap) (.slice none 0 0)).run P w=.ok () w:=by
  cases x<;>rfl
 have hb:(binOp .eql t (.slice aa n cap) (.slice none 0 0)).run P w=.ok (.bool aa.isNone) w:=by
  simp only[binOp,zq,heq,zn,zt]
 have hrun:(execOp a.eval o).run P w=.ok (.value (.bool aa.isNone)) w:=by
  unfold execOp;simp only[hop,e1,e2,zq,hg,hb,zn,zt]
 obtain⟨B1,g,hh⟩:=hr.heap;have hl:Left I B1 st.nx w ⟨True,vb aa.isNone,st.hp,st.nx⟩ false I w:=⟨jah.refl _ _,trivial,zp _,⟨B1,Grow.refl _ _ _ _,hh⟩,Bel.refl _ _,(fun h=>by cases h),fun h=>by cases h⟩
 have:=hr.put1 (o:=o) g hd hl;unfold Oper.wp;rw[hrun];exact hK this
def jnW {f:Nat} {fn:Func} {body:jn} {args:List V} {hp0:Hp} {nx0:Nat} {post:V->Hp->Nat->Prop}
  (hf:P.funcs[f]?=some fn) (hb:fn.body=some body) (hlen:args.length<=fn.ntmps)
  (hlt:∀x∈args,V.lt nx0 x) (hn0:n0<=nx0) (I:Env) (w:zr) (hh:HRel I B hp0 nx0 w) (hB:Old B w)
  (h:∀a:Act,Rel I B fn.ntmps n0 ⟨jbo 0 args,hp0,nx0⟩ a w->body.wp P (Qx [] I B fn.ntmps n0 w (jbN P fn.results.toList post)) a w) :
  Calls P f (args.map (V.val I)).toArray w fun e w'=>∃I' v hp' nx',e=.returned (v.val I')∧v.lt nx'∧jah n0 I I'∧(∃B',Grow B B' false w' w'∧HRel I' B' hp' nx' w')∧Bel B w w'∧Old B w'∧post v hp' nx':=by
 refine calls_of_wp hf hb ?_;have hrel:=jfq (n0:=n0) hlen hlt hn0 I w hh hB;refine yl (h _ hrel) ?_;rintro e a' w' ⟨x,I',st',rfl,hk,hr',hag',hbl'⟩
 have fin:∀l:List (Prop × W),jfp P st' fn.results.toList=some l->jk8 l (post (jb7 (l.map (·.2))) st'.hp st'.nx) ->
   a'.defers=[]∧∃v,(results fn a'.tmps).run P w'=.ok v w'∧∃I' v' hp' nx',Ending.returned v=.returned (v'.val I')∧v'.lt nx'∧jah n0 I I'∧(∃B',Grow B B' false w' w'∧HRel I' B' hp' nx' w')∧Bel B w w'∧Old B w'∧post v' hp' nx':=by
  intro l hl ho;have hra:=jjy hr' _ l _ hl ho;refine⟨hr'.defers,(jb7 (l.map (·.2))).val I',?_,I',jb7 (l.map (·.2)),st'.hp,st'.nx,rfl,jf8 (fun y hy=>?_),hag',hr'.heap,hbl',hr'.le,hra.2.2⟩
  ·rw[jdk];simp only[jpC,Array.mapM_eq_mapM_toList,zq,Sem.run_map,hra.1,zn,zt,xV];rfl
  ·obtain⟨z,hz,rfl⟩:=qn.1 hy;exact hra.2.1 z hz
 cases x with
 |normal =>
  simp only[jbN]at hk;split at hk
  ·rename_i l hl;exact fin l hl hk
  ·exact hk.elim
 |exit j=>exact hk.elim
 |ret =>
  simp only[jbN]at hk;split at hk
  ·rename_i l hl;exact fin l hl hk
  ·exact hk.elim
def jcM {o:qu} {r:List qu} {all:Array qu} {Q:Exit->Act->zr->Prop} (hg:o.guard=none) (h:o.wp P a w (fun a' w'=>fx P all Q r a' w') Q):fx P all Q (o::r) a w:=by
 unfold fx;rw[if_pos (by simp[Region.wanted,hg])];exact .inl h
def jhw:jn->Option (List qu)| .region _ ops false=>some ops.toList|_=>none
def joM {c:jn} {l:List qu} {Q:Exit->Act->zr->Prop} (hc:jhw c=some l) (h:fx P l.toArray Q l a w):c.wp P Q a w:=by
 unfold jhw at hc;split at hc
 ·cases hc;refine wp_region_list ?_;simpa using h
 ·cases hc
def ju4 {fuel:Nat} {loops:jel} {drawn:Array qu->St->(St->Prop)->Prop} (hsp:jam P sp) (hdr:jdy P B N n0 I0 w0 drawn) {x y:jn} {cur:Nat} {gs:List Nat} {k:Ex->St->Prop}
  (h:sx P sp N n0 fuel loops drawn (.seq x y) cur gs st k) (hr:RelD ds I B N n0 st a w) (hag:jah n0 I0 I) (hbl:Bel B w0 w):x.wp P (Exit.then (y.wp P (Qx ds I0 B N n0 w0 k)) (Qx ds I0 B N n0 w0 k)) a w:=by
 unfold sx at h;refine yl (ja2 hsp hdr x cur gs st _ I a w h hr hag hbl) ?_;rintro e a' w' ⟨ex,I',st',rfl,hk,hr',hag',hbl'⟩;cases ex with
 |normal=>exact ja2 hsp hdr y cur gs st' k I' a' w' hk hr' hag' hbl'
 |exit j=>exact⟨.exit j,I',st',rfl,hk,hr',hag',hbl'⟩
 |ret=>exact⟨.ret,I',st',rfl,hk,hr',hag',hbl'⟩
def jDY (P:zP) (sp:jab) (N:Nat) (R1 CD:jn) (o1 o2:qu) (x:zZ) (rs:List ResultVar) (c:Cont) (post:List RR):Prop :=
 sx P sp N 1 1 (fun _ _ _=>none) (jcs P sp N) R1 0 [] ⟨jbo 0 [.w (.c (.o 0))],[(0,.ext c)],1⟩ fun ex st=>ex=.normal∧jju P sp N o1 st fun st=>jcv st x=some (.w (.c (.o 0))) ∧ (Ob (c.n=0)->sx P sp N 1 1 (fun _ _ _=>none) (jcs P sp N) CD 0 [] (st.put o2.dst ⟨True,vb true,st.hp,st.nx⟩) (jbN P rs fun v hp _=>jfy 1 post v hp)) ∧ sx P sp N 1 1 (fun _ _ _=>none) (jcs P sp N) CD 0 [] (st.put o2.dst ⟨True,vb false,st.hp,st.nx⟩) (jbN P rs fun v hp _=>jfy 1 post v hp)
def joN {f:Nat} {fn:Func} {R1 R2 C D:jn} {o1 o2:qu} {t yt:TypeId} {x:zZ} {c0:Cont} {g:List Lf->Option GT} (hm:P.follows .mixedOrders=true) (hsp:jam P sp) (hf:P.funcs[f]?=some fn) (hb:fn.body=some (.seq R1 (.seq (.seq R2 C) D))) (hn:(fn.name == "runtime.NumGoroutine")=false)
  (hlen:1<=fn.ntmps) (hR2:jhw R2=some [o1,o2]) (hg1:o1.guard=none) (hg2:o2.guard=none) (hop:o2.op=.binOp .eql t x (.const (.slice none 0 0)) yt) (hd:jcR fn.ntmps o2.dst=true) (hit:jyv P t=true)
  (hg:∀ls t,g ls=some t->∃c ob post,ls=[.r c]∧t=.leaf ob post∧(ob->jDY P sp fn.ntmps R1 (.seq C D) o1 o2 x fn.results.toList c post)):jaF P f true (jak [.c (.r c0)] g):=by
 refine jhj hf hb hn fun ls t ht ho b hbl I w hlt hh=>?_;have hB:Old (kd fun k=>k<w.heap.size) w:=fun k hk=>jbJ.1 hk;obtain⟨c,ob,post,rfl,rfl,hv⟩:=hg ls t ht;have hv:=hv ho;simp only[jdM,jux,jdU,Option.map_some,jfV,zj]at hbl;subst hbl;have hh:HRel I (kd fun k=>k<w.heap.size) [(0,.ext c)] 1 w:=hh;refine jnW (args:=[.w (.c (.o 0))]) hf hb hlen hlt (zp _) I w hh hB fun a hr=>?_;obtain⟨aa,cap,hval,hcap,hcell⟩:=(hh.ok 0 _ rfl).2.2.1;refine wp_seq (yl (ja2 hsp (jbC hm hsp) R1 0 [] _ _ I a w hv hr (jah.refl _ _) (Bel.refl _ _)) ?_);rintro e a1 w1 ⟨ex,I1,st1,rfl,⟨rfl,hdo⟩,hr1,hag1,hbl1⟩;refine wp_seq (wp_seq (joM hR2 (jcM hg1 (jcS hsp hr1 hag1 hbl1 hdo fun I2 st2 a2 w2 hr2 hag2 hbl2 hk=>?_))));obtain⟨hx,hk1,hk2⟩:=hk
 have hval2:(V.w (.c (.o 0))).val I2=.slice aa c.n cap:=by
  show I2 0=_
  rw[hag2 0 (by omega)];exact hval
 refine jcM hg2 (jzV (u:=.w (.c (.o 0))) hop hd hit hx hval2 hr2 fun hr3=>?_)
 have fin:C.wp P (Exit.then (D.wp P (Qx [] I (kd fun k=>k<w.heap.size) fn.ntmps 1 w (jbN P fn.results.toList fun v hp _=>jfy 1 post v hp))) (Qx [] I (kd fun k=>k<w.heap.size) fn.ntmps 1 w (jbN P fn.results.toList fun v hp _=>jfy 1 post v hp))) (a2.put o2.dst (.bool aa.isNone)) w2:=by
  cases aa with
  |none =>
   refine ju4 hsp (jbC hm hsp) (hk1 ⟨?_⟩) hr3 hag2 hbl2;refine Nat.eq_zero_of_not_pos fun hn=>?_;obtain⟨b,off,e,_⟩:=hcell hn;cases e
  |some p=>exact ju4 hsp (jbC hm hsp) hk2 hr3 hag2 hbl2
 unfold fx;exact fin
end
end Go.Sx
end

section
namespace Go.Sh
open Go Go.Proofs Go.RowKit Go.Sx Go.Sx09
def cl1 (f:Func):qu:=((jhw (Sx09.sub [1,0,0] (Sx09.bodyOf f))).getD []).getD 0 default
def cl2 (f:Func):qu:=((jhw (Sx09.sub [1,0,0] (Sx09.bodyOf f))).getD []).getD 1 default
def jlT:List SV:=[.c (.r (.ints .i64 []))]
def jaQ (l:List (Int)):Option (List (Int)):=if l.length*8<=140737488355328 then some l else none
def jgD:List Lf->Option GT|[.r (.ints .i64 l)]=>some (.leaf (ok (jaQ l)) [.c (.row 3 (.ints .i64 (val (jaQ l))))])|_=>none
abbrev sp_136:jab->jab:=jal 136 true (jak jlT jgD)
def jti:jaF Tryz.prog 136 true (jak jlT jgD):=by
 refine joN (sp:=sp0) (fn:=Tryz.f136) (R1:=Sx09.sub [0] (Sx09.bodyOf Tryz.f136)) (R2:=Sx09.sub [1,0,0] (Sx09.bodyOf Tryz.f136)) (C:=Sx09.sub [1,0,1] (Sx09.bodyOf Tryz.f136)) (D:=Sx09.sub [1,1] (Sx09.bodyOf Tryz.f136)) (o1:=cl1 Tryz.f136) (o2:=cl2 Tryz.f136) (t:=31) (yt:=31) (x:=.tmp 3)
  mixed jaf Tryz.func136 (by kernel_rfl) (by kernel_rfl) (zQ (by kernel_rfl)) (by kernel_rfl) (by kernel_rfl) (by kernel_rfl) (by kernel_rfl) (by kernel_rfl) (by kernel_rfl) fun ls t h=>?_
 unfold jgD at h;split at h
 ·rename_i l;cases h;refine⟨_,_,_,rfl,rfl,fun ho=>?_⟩
  have hl:l.length*8<=140737488355328:=by
   unfold ok jaQ at ho;split at ho
   ·assumption
   ·cases ho
  have hv:val (jaQ l)=l:=by
   unfold jaQ;rw[if_pos hl];rfl
  rw[hv];refine js (by kernel_rfl:(Ex.normal=Ex.normal∧some (V.w (W.c (Sx.C.o 0)))=some (V.w (W.c (Sx.C.o 0)))∧(Ob (l.length=0)->Ob True∧Ob (l.length=0)∧True)∧Ob ((([]:List (Int)).length+l.length)*8<=140737488355328∧([]:List (Int)).length+l.length<=9223372036854775807)∧Ob True∧Ob (([]:List (Int))++l=l)∧True)=_) ?_;exact⟨rfl,rfl,fun h=>⟨⟨trivial⟩,h,trivial⟩,⟨by simp only[qe];omega⟩,⟨trivial⟩,⟨rfl⟩,trivial⟩
 ·cases h
def sp_136_ok {sp:jab} (h:jam Tryz.prog sp):jam Tryz.prog (sp_136 sp):=jch jti h
def jlU:List SV:=[.c (.r (.recs 5 []))]
def jb8 (l:List (List Int)):Option (List (List Int)):=if l.length*40<=140737488355328 then some l else none
def jgE:List Lf->Option GT|[.r (.recs 5 l)]=>some (.leaf (ok (jb8 l)) [.c (.row 148 (.recs 5 (val (jb8 l))))])|_=>none
abbrev sp_137:jab->jab:=jal 137 true (jak jlU jgE)
def jtj:jaF Tryz.prog 137 true (jak jlU jgE):=by
 refine joN (sp:=sp0) (fn:=Tryz.f137) (R1:=Sx09.sub [0] (Sx09.bodyOf Tryz.f137)) (R2:=Sx09.sub [1,0,0] (Sx09.bodyOf Tryz.f137)) (C:=Sx09.sub [1,0,1] (Sx09.bodyOf Tryz.f137)) (D:=Sx09.sub [1,1] (Sx09.bodyOf Tryz.f137)) (o1:=cl1 Tryz.f137) (o2:=cl2 Tryz.f137) (t:=116) (yt:=116) (x:=.tmp 3)
  mixed jaf Tryz.func137 (by kernel_rfl) (by kernel_rfl) (zQ (by kernel_rfl)) (by kernel_rfl) (by kernel_rfl) (by kernel_rfl) (by kernel_rfl) (by kernel_rfl) (by kernel_rfl) fun ls t h=>?_
 unfold jgE at h;split at h
 ·rename_i l;cases h;refine⟨_,_,_,rfl,rfl,fun ho=>?_⟩
  have hl:l.length*40<=140737488355328:=by
   unfold ok jb8 at ho;split at ho
   ·assumption
   ·cases ho
  have hv:val (jb8 l)=l:=by
   unfold jb8;rw[if_pos hl];rfl
  rw[hv];refine js (by kernel_rfl:(Ex.normal=Ex.normal∧some (V.w (W.c (Sx.C.o 0)))=some (V.w (W.c (Sx.C.o 0)))∧(Ob (l.length=0)->Ob True∧Ob (l.length=0)∧True)∧Ob ((([]:List (List Int)).length+l.length)*40<=140737488355328∧([]:List (List Int)).length+l.length<=9223372036854775807)∧Ob True∧Ob (([]:List (List Int))++l=l)∧True)=_) ?_;exact⟨rfl,rfl,fun h=>⟨⟨trivial⟩,h,trivial⟩,⟨by simp only[qe];omega⟩,⟨trivial⟩,⟨rfl⟩,trivial⟩
 ·cases h
def sp_137_ok {sp:jab} (h:jam Tryz.prog sp):jam Tryz.prog (sp_137 sp):=jch jtj h
def jlV:List SV:=[.c (.r (.recs 4 []))]
def jbr (l:List (List Int)):Option (List (List Int)):=if l.length*32<=140737488355328 then some l else none
def jgF:List Lf->Option GT|[.r (.recs 4 l)]=>some (.leaf (ok (jbr l)) [.c (.row 174 (.recs 4 (val (jbr l))))])|_=>none
abbrev sp_144:jab->jab:=jal 144 true (jak jlV jgF)
def jtk:jaF Tryz.prog 144 true (jak jlV jgF):=by
 refine joN (sp:=sp0) (fn:=Tryz.f144) (R1:=Sx09.sub [0] (Sx09.bodyOf Tryz.f144)) (R2:=Sx09.sub [1,0,0] (Sx09.bodyOf Tryz.f144)) (C:=Sx09.sub [1,0,1] (Sx09.bodyOf Tryz.f144)) (D:=Sx09.sub [1,1] (Sx09.bodyOf Tryz.f144)) (o1:=cl1 Tryz.f144) (o2:=cl2 Tryz.f144) (t:=158) (yt:=158) (x:=.tmp 3)
  mixed jaf Tryz.func144 (by kernel_rfl) (by kernel_rfl) (zQ (by kernel_rfl)) (by kernel_rfl) (by kernel_rfl) (by kernel_rfl) (by kernel_rfl) (by kernel_rfl) (by kernel_rfl) fun ls t h=>?_
 unfold jgF at h;split at h
 ·rename_i l;cases h;refine⟨_,_,_,rfl,rfl,fun ho=>?_⟩
  have hl:l.length*32<=140737488355328:=by
   unfold ok jbr at ho;split at ho
   ·assumption
   ·cases ho
  have hv:val (jbr l)=l:=by
   unfold jbr;rw[if_pos hl];rfl
  rw[hv];refine js (by kernel_rfl:(Ex.normal=Ex.normal∧some (V.w (W.c (Sx.C.o 0)))=some (V.w (W.c (Sx.C.o 0)))∧(Ob (l.length=0)->Ob True∧Ob (l.length=0)∧True)∧Ob ((([]:List (List Int)).length+l.length)*32<=140737488355328∧([]:List (List Int)).length+l.length<=9223372036854775807)∧Ob True∧Ob (([]:List (List Int))++l=l)∧True)=_) ?_;exact⟨rfl,rfl,fun h=>⟨⟨trivial⟩,h,trivial⟩,⟨by simp only[qe];omega⟩,⟨trivial⟩,⟨rfl⟩,trivial⟩
 ·cases h
def sp_144_ok {sp:jab} (h:jam Tryz.prog sp):jam Tryz.prog (sp_144 sp):=jch jtk h
end Go.Sh
end

section
namespace Go.Sh
open Go Go.Proofs Go.RowKit Go.Sx
open Go.IntKind (wrap)
set_option maxRecDepth 100000
attribute [local irreducible] y80 jbr
def jrt:List SV:=[.c (.p [.p [.d,.x (.st zS []),.r (.ints .i64 [])],.d,.x (.ff .f32 []),.x (.rr 4 []),.r (.frs .f32 32 []),.r (.ints .i64 []),.m,.m,.m]),.c (.d)]
def y75 (u31:List (List Nat)) (r1:Int) (x0:(Int × List Int)):Option ((Int × List Int) ⊕ (List Int)) :=
 if x0.1<32 then if 0<=x0.1∧x0.1<(↑(32:Nat):Int)then
  if jbR .f32 .i64 (zb (zb u31 r1.toNat []) x0.1.toNat (0:Nat))=true then if 0<=x0.1∧x0.1<(↑(32:Nat):Int)then
   if 0+(0+zf x0.1*1)<32 then some (.inl ((wrap .i64 (x0.1+1),qz (jeH (32:Nat) x0.2) (0+(0+zf x0.1*1)) (f2i .f32 (zb (zb u31 r1.toNat []) x0.1.toNat (0:Nat))))))
   else none
   else none
  else none
  else none
 else some (.inr x0.2)
def y214 (i:Int) (u13:List (List Nat)) (u49:List (List (List Int))) (u29:List Int) (r0:List (List Int)) (u3:List Int):Option (List (List Nat) × List (List (List Int)) × List Int) :=
 ze (y80 u3) fun r2 =>
 if 0<=i∧i<(↑u13.length:Int)then if zf i<za u13 then some ((qz u13 i.toNat r2,qz u49 i.toNat (NC.toRecs (zA [NC.r (Cont.recs (4:Nat) r0)] (NC.d (D.v zJ)))),u29))
  else none
 else none
def y60 (u23:List (List NC)) (u14:List (List Nat)) (u50:List (List (List Int))) (u31:List (List Nat)) (u51:List Int) (i:Int) (u13:List (List Nat)) (u49:List (List (List Int))) (u29:List Int):Option (List (List Nat) × List (List (List Int)) × List Int) :=
 if 0<=i∧i<(↑u23.length:Int)then if zf i<za u23 then
  if 0<=i∧i<(↑u50.length:Int)then if zf i<za u50 then
   ze (jbr (zb u50 i.toNat [])) fun r0 =>
   if 0<=i∧i<(↑u49.length:Int)then if zf i<za u49 then
    if 0<=i∧i<(↑u51.length:Int)then if zf i<za u51 then
     if(zb u51 i.toNat (0:Int)==(-1:Int))=true then some ((u13,qz u49 i.toNat (NC.toRecs (zA [NC.r (Cont.recs (4:Nat) r0)] (NC.d (D.v zJ)))),u29))
     else if(zb u51 i.toNat (0:Int)!=i)=true then
      if 0<=zb u51 i.toNat (0:Int)∧zb u51 i.toNat 0<(↑u13.length:Int)then if zf (zb u51 i.toNat (0:Int))<za u13 then
       if 0<=i∧i<(↑u13.length:Int)then if zf i<za u13 then some ((qz u13 i.toNat (zb u13 (zf (zb u51 i.toNat (0:Int))) []),qz u49 i.toNat (NC.toRecs (zA [NC.r (Cont.recs (4:Nat) r0)] (NC.d (D.v zJ)))),u29))
        else none
       else none
       else none
      else none
      else
      if(nI u23 i.toNat (1:Nat)==0)=true then
       ze (y40 u23 i) fun r1 =>
       if 0<=r1∧r1<(↑u31.length:Int)then
       if zf r1<za u31 then ze (jae (y75 u31 r1) big (((0:Int),zI))) (y214 i u13 u49 u29 r0)
       else none
       else none
      else if(nI u23 i.toNat (1:Nat)==1)=true then
       ze (jlt u14 u13 (nL u23 i.toNat (2:Nat)) (nL u23 i.toNat (3:Nat)) (nL u23 i.toNat (4:Nat))) fun r3 =>
       if 0<=i∧i<(↑u13.length:Int)then if zf i<za u13 then
        if 0<=i∧i<(↑u29.length:Int)then if zf i<za u29 then some ((qz u13 i.toNat r3.1,qz u49 i.toNat (NC.toRecs (zA [NC.r (Cont.recs (4:Nat) r0)] (NC.d (D.v zJ)))),qz u29 i.toNat r3.2))
         else none
        else none
        else none
       else none
       else
       if(nI u23 i.toNat (1:Nat)==3)=true then
        ze (y27 u14 u13 (nL u23 i.toNat (2:Nat)) (nL u23 i.toNat (3:Nat)) (0:Int) (0:Int)) fun r4 =>
        ze (y80 r4) fun r5 =>
        if 0<=i∧i<(↑u50.length:Int)then
        if zf i<za u50 then
         ze (jdd (nR u23 i.toNat (6:Nat)) r5 (zb u50 i.toNat [])) fun r6 =>
         if 0<=i∧i<(↑u13.length:Int)then
         if zf i<za u13 then if 0<=i∧i<(↑(za (qz u49 i.toNat (NC.toRecs (zA [NC.r (Cont.recs (4:Nat) r0)] (NC.d (D.v zJ)))))):Int)then
          if zf i<za (qz u49 i.toNat (NC.toRecs (zA [NC.r (Cont.recs (4:Nat) r0)] (NC.d (D.v zJ)))))then if 0<=i∧i<(↑u29.length:Int)then
           if zf i<za u29 then some ((qz u13 i.toNat r6.1,qz (qz u49 i.toNat (NC.toRecs (zA [NC.r (Cont.recs (4:Nat) r0)] (NC.d (D.v zJ))))) i.toNat (NC.toRecs (zA [NC.r (Cont.recs (4:Nat) r6.2.1)] (NC.d (D.v zJ)))),qz u29 i.toNat r6.2.2.1))
           else none
           else none
          else none
          else none
         else none
         else none
        else none
        else none
       else
        ze (y27 u14 u13 (nL u23 i.toNat (2:Nat)) (nL u23 i.toNat (3:Nat)) (0:Int) (nI u23 i.toNat (5:Nat))) fun r7 =>
        ze (y80 r7) fun r8 =>
        if 0<=i∧i<(↑u13.length:Int)then
        if zf i<za u13 then some ((qz u13 i.toNat r8,qz u49 i.toNat (NC.toRecs (zA [NC.r (Cont.recs (4:Nat) r0)] (NC.d (D.v zJ)))),u29))
        else none
        else none
     else none
    else none
    else none
   else none
   else none
  else none
  else none
 else none
def jiU:List Lf->List Lf->Option GM|[.d (.s r_graphEngineGraphName),.x (.st [.s,.i .i64,.ints .i64,.ints .i64,.ints .i64,.i .i64,.recs 5,.i .i64] u23),.r (.ints .i64 r_graphorder),.d (.i .i64 u59),.x (.ff .f32 u14),.x (.rr 4 u50),.r (.frs .f32 32 u31),.r (.ints .i64 u51),.d (.i .i64 i)],[.r (.frs .f32 32 u13),.x (.rr 4 u49),.r (.ints .i64 u29)]=>some (.leaf (ok (y60 u23 u14 u50 u31 u51 i u13 u49 u29)) [.r (.frs .f32 32 ((val (y60 u23 u14 u50 u31 u51 i u13 u49 u29)).1)),.x (.rr 4 ((val (y60 u23 u14 u50 u31 u51 i u13 u49 u29)).2.1)),.r (.ints .i64 ((val (y60 u23 u14 u50 u31 u51 i u13 u49 u29)).2.2))] [])|_,_=>none
abbrev sp_103:jab->jab:=jal 103 false (jhu jrt [(7,110),(8,158),(9,3)] jiU)
def sp_103_ok:KO sp_103:=jag (kM (sp_144_ok (sp_145_ok (sp_147_ok (sp_143_ok (sp_148_ok (sp_146_ok jaf)))))) Tryz.func103 (by kernel_rfl) fun ls ms t h ho=>by
 unfold jiU at h;split at h
 ·rename_i r_graphEngineGraphName u23 r_graphorder u59 u14 u50 u31 u51 i u13 u49 u29;cases h;have ho:=jad ho
  generalize val (y60 u23 u14 u50 u31 u51 i u13 u49 u29)=r at ho ⊢
  let l0:=lp0 (y75 u31 (val (y40 u23 i))) (y214 i u13 u49 u29 (val (jbr (zb u50 i.toNat [])))) r fun z=>⟨[(0,.w (.c (.p 10 0 1 0))),(1,.w (.c (.d (.i .i64 i)))),(6,.w (.c (.p 11 0 1 0))),(89,.w (.b 32 (.f .f32 (zb u31 (zf (val (y40 u23 i))) [])))),(90,.w (.c (.d (.i .i64 z.1.1))))],[(7,.row 110 (.frs .f32 32 u13)),(8,.xrow 158 (XC.rr (4:Nat) (qz u49 i.toNat (NC.toRecs (zA [NC.r (Cont.recs (4:Nat) (val (jbr (zb u50 i.toNat []))))] (NC.d (D.v zJ))))))),(9,.row 3 (.ints .i64 u29)),(10,.ebox [.p 2 0 1 0,.d (.i .i64 u59),.o 3,.o 4,.o 5,.o 6,.o 7,.o 8,.o 9]),(11,.arr 206 32 (.i z.1.2)),(2,.ebox [.d (.s r_graphEngineGraphName),.o 0,.o 1]),(3,.xext (XC.ff .f32 u14)),(4,.xext (XC.rr (4:Nat) u50)),(5,.ext (.frs .f32 32 u31)),(6,.ext (.ints .i64 u51)),(0,.xext (XC.st zS u23)),(1,.ext (.ints .i64 r_graphorder))],12⟩
  exact⟨by kernel_rfl,(fun _ id _=>match id with
   |2=>l0.li
   |_=>none),Sk.vd ho (.obT (.obT (.ob (.ob (.obT (.obT (.ob (.ob (.call (.ob (.ob (.obT (.ob (.ob (.brB
   (.rc)
   (.brB
   (.obT (.obT (.ob (.ob (.ob (.ob (.rc)))))))
   (.brB
   (.obT (.obT (.call (.ob (.ob (.loop (l0) (fun kk=>(((0:Int),zI),big)) fun z0 =>
   .br
   (.ob (.ob (.ob (.ob (.next)))))
   (
   .exit (.obT (.obT (.call (.ob (.ob (.rc)))))))))))))
   (.brB
   (.obT (.obT (.call (.ob (.ob (.ob (.ob (.rc))))))))
   (.brB
   (.obT (.obT (.obT (.call (.call (.obT (.ob (.ob (.call (.ob (.ob (.ob (.ob (.ob (.ob (.rc))))))))))))))))
   (.obT (.call (.call (.ob (.ob (.rc))))))))))))))))))))))))) (by kernel_rfl)⟩
 ·cases h)
attribute [irreducible] y60
end Go.Sh
end

section
namespace Go.Sh
open Go Go.Proofs Go.RowKit Go.Sx
open Go.IntKind (wrap)
def jBs {body:Int->Option (Int ⊕ (Unit ⊕ Unit))} (n:Nat) (hlen:n<9223372036854775807)
  (h:∀i,i<n->body (i:Int)=some (.inl ((i:Int)+1))∨body (i:Int)=some (.inr (.inl ()))) (h3:body (n:Int)=some (.inr (.inr ()))) :
  ∃b:Bool,jae body big 0=some (if b=true then .inl ()else .inr ()):=by
 classical
 refine⟨(zm n).any fun i=>decide (body (i:Int)=some (.inr (.inl ()))),?_⟩;exact jcW n (fun i=>decide (body (i:Int)=some (.inr (.inl ())))) (.inl ()) (.inr ()) hlen (fun i hi hp=>of_decide_eq_true hp) (fun i hi hp=>(h i hi).resolve_right (of_decide_eq_false hp)) h3
def inB (n lo hi:Int):Bool:=decide (lo<=n)&&decide (n<=hi)
def jaY (n lo hi:Int):y23 n lo hi=some (inB n lo hi):=by
 unfold y23 inB;split
 ·rename_i h;simp[h]
 ·rename_i h;simp[h]
def jbl (n lo hi:Int):y34 n lo hi=some (inB n lo hi):=by
 unfold y34 inB;split
 ·rename_i h;simp[h]
 ·rename_i h;simp[h]
def jnX (n lo hi:Int):jdX n lo hi=some (inB n lo hi):=by
 unfold jdX inB;split
 ·rename_i h;simp[h]
 ·rename_i h;simp[h]
def jp9 (n:Int):jeP n 4000=some (inB n (-4000) 4000):=by
 unfold jeP;rw[show wrap qP ((0:Int)-4000)=-4000 from by rw[jai (by omega)];rfl,jbl];rfl
def jff (b:Bool) (e:Int):y50 b e=some (if b=true then 0 else e):=by
 unfold y50;cases b<;>rfl
def je0 (l:List Int) (n:Int) (hl:l.length<9223372036854775807):jfW l n=some (l.any (·== n)):=by
 unfold jfW;rw[jb0 l 0 (·== n) (.inl ()) (.inr ()) hl (fun i hi hp=>?_) (fun i hi hp=>?_) ?_]
 ·cases l.any (·== n)<;>rfl
 ·unfold jgr;simp only[zg];rw[if_neg (by omega)]
 ·unfold jgr;simp only[zg];rw[if_pos (by omega),if_pos (by omega),if_pos hi,if_pos hp]
 ·unfold jgr;simp only[zg];rw[if_pos (by omega),if_pos (by omega),if_pos hi,if_neg (by rw[hp];exact qB),jai (by omega)]
def jfB (l:List Int) (hl:l.length<=100):jlo l=some l:=by
 unfold jlo;rw[if_pos (by omega)];rfl
def jCL:jhZ=jq4:=rfl
set_option maxHeartbeats 4000000 in
def jBt (s:ByteArray) (hs:s.size<1000):∃b:Bool,jae (jq4 s) big 0=some (if b=true then .inl ()else .inr ()):=by
 refine jBs s.size (by omega) (fun i hi=>?_) ?_
 ·unfold jq4;rw[if_pos (by omega),if_pos (by omega),jai (by omega)]
  repeat' (first|exact .inl rfl|exact .inr rfl|split)
 ·unfold jq4;rw[if_neg (by omega)]
def jxh (s:ByteArray) (hs:s.size<1000):∃b:Bool,jh0 s=some b∧jcX s=some b:=by
 obtain⟨b,hb⟩:=jBt s hs;unfold jh0 jcX;rw[jCL,hb]
 have hne:(s != xd #[])=true<->1<=s.size:=by
  constructor
  ·intro h;refine gG fun h0=>?_
   have:s=xd #[]:=by
    cases s with
    |mk d =>
     have:d.size=0:=h0;rw[Array.eq_empty_of_size_eq_zero this]
   rw[this]at h;exact absurd h (by decide)
  ·intro h;cases hb:(s != xd #[])
   ·exfalso;have:(s==xd #[])=true:=by simpa [bne]using hb
    cases s with
    |mk d =>
     have h2:(d == #[])=true:=this;have e:d=#[]:=eq_of_beq h2;subst e;exact absurd h (by decide)
   ·rfl
 cases b with
 |true =>
  refine⟨false,rfl,?_⟩;split
  ·rfl
  ·split<;>rfl
 |false =>
  show ∃b,(if(s != xd #[])=true then some (decide ((s.size:Int)<=12))else some false)=some b∧_
  by_cases h1:1<=s.size
  ·rw[if_pos (hne.2 h1),if_neg (by omega)]
   by_cases h2:(s.size:Int)>12
   ·rw[if_pos h2];exact⟨false,by simp;omega,rfl⟩
   ·rw[if_neg h2];exact⟨true,by simp;omega,rfl⟩
  ·rw[if_neg (fun h=>h1 (hne.1 h)),if_pos (by omega)];exact⟨false,rfl,rfl⟩
end Go.Sh
end

section
namespace Go.Sh
open Go Go.Proofs Go.RowKit Go.Sx
def jdO (n:Nat) (l:List Int):Bool:=l.any fun x=>!inB x 0 ((n:Int)-1)
def jgG (l:List Int):Bool:=(zm l.length).any fun i=>(l.take i).any (·== l.getD i 0)
def jdb (r:List Int):Bool:=[r.getD 0 0,r.getD 1 0,r.getD 2 0,r.getD 3 0,r.getD 4 0].all Sx09.partB
def ja5 (c:List (List Int)):Int:=if(c.length:Int)>6 then 8 else if c.any (fun r=>!jdb r)=true then 2 else 0
def exB (g:List (List NC)) (i:Nat):Bool:=(zm i).any fun k=>nS g k 0==nS g i 0
def jBu (l:List Int) (nm:ByteArray) (g:List (List NC)) (hl:l.length<1000) (hg:g.length<1000):y17 l nm g=some (jdO g.length l):=by
 have hb:∀x:Int,jq5 x nm g=some (!inB x 0 ((g.length:Int)-1)):=fun x=>by
  unfold jq5 jly;rw[jai (by omega),jbl];rfl
 unfold y17 y43;rw[jaN l 0 (fun x=>!inB x 0 ((g.length:Int)-1)) (fun i=>.inl (i:Int)) (.inr ()) (by omega) (fun i hi hp=>?_) (fun i hi hp=>?_) ?_]
 ·unfold jdO;cases hf:l.findIdx? (fun x=>!inB x 0 ((g.length:Int)-1))with
  |none =>
   have:l.any (fun x=>!inB x 0 ((g.length:Int)-1))=false:=by
    rw[qv]at hf;rw[xC];intro x hx;simp[hf x hx]
   rw[this];rfl
  |some i =>
   have:l.any (fun x=>!inB x 0 ((g.length:Int)-1))=true:=by
    rw[qm]at hf;obtain⟨h,hp,_⟩:=hf;exact qY.2 ⟨_,zW h,hp⟩
   rw[this]
   show some (decide ((i:Int)>=0))=some true
   simp
 ·unfold y29;simp only[zg];rw[if_neg (by omega)]
 ·unfold y29;simp only[zg];rw[if_pos (by omega),if_pos (by omega),if_pos hi,hb,jaa,if_pos hp]
 ·unfold y29;simp only[zg];rw[if_pos (by omega),if_pos (by omega),if_pos hi,hb,jaa,if_neg (by rw[hp];exact qB),jai (by omega)]
def jxi (g:List (List NC)) {i k:Nat} (h:k<i) (j:Nat):nS (g.take i) k j=nS g k j:=by
 unfold nS;simp[zb,List.getElem?_take,h]
def jyw (g:List (List NC)) (i:Nat) (hi0:i<g.length) (hg:g.length<1000) (a:Int) (b c d:List Int) (e:Int) (f:List (List Int)) (s:Int) :
  y9 (g.take i) (nS g i 0) a b c d e f s=some (exB g i):=by
 have hlen:(g.take i).length=i:=by simp;omega
 unfold y9 y22
 have key:=jaN (body:=y14 (g.take i) (nS g i 0) a b c d e f s) (zm i) 0 (fun k=>nS g k 0==nS g i 0) (fun i=>.inl (i:Int)) (.inr ()) (by simp;omega) (fun k hk hp=>by
   have hk:k<i:=by simpa using hk
   have hr:(zm i).getD k 0=k:=by simp[zb,hk]
   rw[hr]at hp;unfold y14;simp only[zg];rw[hlen,if_pos (by omega),if_pos (by omega),if_pos hk];unfold jq6;rw[jaa,jxi g hk,if_pos hp]) (fun k hk hp=>by
   have hk:k<i:=by simpa using hk
   have hr:(zm i).getD k 0=k:=by simp[zb,hk]
   rw[hr]at hp;unfold y14;simp only[zg];rw[hlen,if_pos (by omega),if_pos (by omega),if_pos hk];unfold jq6;rw[jaa,jxi g hk,if_neg (by rw[hp];exact qB),jai (by omega)]) (by
   unfold y14;simp only[zg];rw[hlen,if_neg (by simp)])
 rw[key];unfold exB;cases hf:(zm i).findIdx? (fun k=>nS g k 0==nS g i 0)with
 |none =>
  have:(zm i).any (fun k=>nS g k 0==nS g i 0)=false:=by
   rw[qv]at hf;rw[xC];intro x hx;simp[hf x hx]
  rw[this];rfl
 |some m =>
  have:(zm i).any (fun k=>nS g k 0==nS g i 0)=true:=by
   rw[qm]at hf;obtain⟨h,hp,_⟩:=hf;exact qY.2 ⟨_,zW h,hp⟩
  rw[this]
  show some (decide ((m:Int)>=0))=some true
  simp
def jlW (l:List Int) (v:Int) (hl:l.length<1000):y56 l v=some (l.any (·== v)):=by
 unfold y56 y44;rw[jaN l 0 (fun x=>v==x) (fun i=>.inl (i:Int)) (.inr ()) (by omega) (fun i hi hp=>?_) (fun i hi hp=>?_) ?_]
 ·have hsym:l.any (·== v)=l.any (fun x=>v==x):=by
   congr 1
   funext x;exact Bool.beq_comm
  rw[hsym];cases hf:l.findIdx? (fun x=>v==x)with
  |none =>
   have:l.any (fun x=>v==x)=false:=by
    rw[qv]at hf;rw[xC];intro x hx;simp[hf x hx]
   rw[this];rfl
  |some i =>
   have:l.any (fun x=>v==x)=true:=by
    rw[qm]at hf;obtain⟨h,hp,_⟩:=hf;exact qY.2 ⟨_,zW h,hp⟩
   rw[this]
   show some (decide ((i:Int)>=0))=some true
   simp
 ·unfold y20;simp only[zg];rw[if_neg (by omega)]
 ·unfold y20;simp only[zg];rw[if_pos (by omega),if_pos (by omega),if_pos hi,if_pos hp]
 ·unfold y20;simp only[zg];rw[if_pos (by omega),if_pos (by omega),if_pos hi,if_neg (by rw[hp];exact qB),jai (by omega)]
def jwr (l:List Int) (hl:l.length<1000):jdq l=some (jgG l):=by
 unfold jdq
 have key:=jcW (body:=jq7 l) l.length (fun i=>(l.take i).any (·== l.getD i 0)) (.inl ()) (.inr ()) (by omega) (fun i hi hp=>by
   unfold jq7;simp only[zg];rw[if_pos (by omega),if_pos (by omega),if_pos hi,if_pos (by simp only[z8];omega)];simp only[z9,zg,jC,yq];rw[jlW _ _ (by simp;omega),jaa,if_pos hp]) (fun i hi hp=>by
   unfold jq7;simp only[zg];rw[if_pos (by omega),if_pos (by omega),if_pos hi,if_pos (by simp only[z8];omega)];simp only[z9,zg,jC,yq];rw[jlW _ _ (by simp;omega),jaa,if_neg (by rw[hp];exact qB),jai (by omega)]) (by
   unfold jq7;simp only[zg];rw[if_neg (by omega)])
 rw[key];unfold jgG;cases (zm l.length).any (fun i=>(l.take i).any (·== l.getD i 0))<;>rfl
def jct (kd:Int) (al ga:List Int) (de:Int):Bool:=!(al.any fun x=>!inB x 0 64) && !(ga.any fun x=>!inB x (-4000) 4000)&&inB de 0 64&&(kd==2||de==0)
def jyx (nm:ByteArray) (kd:Int) (fr al ga:List Int) (de:Int) (ca:List (List Int)) (sd:Int) (ha:al.length<1000) (hg:ga.length<1000):jdW nm kd fr al ga de ca sd=some (jct kd al ga de):=by
 have hr1:∀x:Int,jlB x=some (inB x 0 64):=fun x=>by unfold jlB;rw[jbl];rfl
 have kg:=jb0 (body:=joA ga) ga 0 (fun x=>!inB x (-4000) 4000) (.inl ()) (.inr ()) (by omega) (fun i hi hp=>by
   unfold joA;simp only[zg];rw[if_pos (by omega),if_pos (by omega),if_pos hi,jp9,jaa,if_pos hp]) (fun i hi hp=>by
   unfold joA;simp only[zg];rw[if_pos (by omega),if_pos (by omega),if_pos hi,jp9,jaa,if_neg (by rw[hp];exact qB),jai (by omega)]) (by
   unfold joA;simp only[zg];rw[if_neg (by omega)])
 have ka:=jb0 (body:=jra al) al 0 (fun x=>!inB x 0 64) (.inl ()) (.inr ()) (by omega) (fun i hi hp=>by
   unfold jra;simp only[zg];rw[if_pos (by omega),if_pos (by omega),if_pos hi,hr1,jaa,if_pos hp]) (fun i hi hp=>by
   unfold jra;simp only[zg];rw[if_pos (by omega),if_pos (by omega),if_pos hi,hr1,jaa,if_neg (by rw[hp];exact qB),jai (by omega)]) (by
   unfold jra;simp only[zg];rw[if_neg (by omega)])
 unfold jdW jct;rw[ka];cases al.any (fun x=>!inB x 0 64)with
 |true=>rfl
 |false =>
  show(jae (joA ga) big 0).bind (jh1 kd de)=_
  rw[kg];cases ga.any (fun x=>!inB x (-4000) 4000)with
  |true=>rfl
  |false =>
   show(jlB de).bind _=_
   rw[hr1,jaa];cases inB de 0 64 with
   |false=>rfl
   |true=>cases hk:(kd==2)<;>simp
def jh8 {α:Type} (l:List α) (P:α->Bool):(l.findIdx? P).isSome=l.any P:=by
 induction l with
 |nil=>rfl
 |cons x r ih =>
  rw[xX,jK];cases P x with
  |true=>rfl
  |false=>simp[ih]
def jxj (r:List Int):y82 (r.getD 0 0) (r.getD 1 0) (r.getD 2 0) (r.getD 3 0) (r.getD 4 0)=some (if jdb r=true then 0 else 2):=by
 unfold y82
 have key:=jb0 (body:=y54 (r.getD 0 0) (r.getD 1 0) (r.getD 2 0) (r.getD 3 0) (r.getD 4 0)) [r.getD 0 0,r.getD 1 0,r.getD 2 0,r.getD 3 0,r.getD 4 0] 0 (fun x=>!inB x (-32768) 32768) (.inl ()) (.inr ()) (by simp) (fun i hi hp=>by
   unfold y54;simp only[zg];rw[if_pos (by omega),if_pos (by omega),if_pos hi,jaY,jaa,if_pos hp]) (fun i hi hp=>by
   unfold y54;simp only[zg];have hi5:i<5:=hi;rw[if_pos (by omega),if_pos (by omega),if_pos hi,jaY,jaa,if_neg (by rw[hp];exact qB),jai (by omega)]) (by
   unfold y54;simp only[zg];rw[if_neg (by omega)])
 rw[key]
 have e:([r.getD 0 0,r.getD 1 0,r.getD 2 0,r.getD 3 0,r.getD 4 0].any fun x=>!inB x (-32768) 32768)=!jdb r:=by
  unfold jdb;rw[List.all_eq_not_any_not];simp only[Bool.not_not];rfl
 rw[e];cases jdb r<;>rfl
def jBv (c:List (List Int)) (hc:c.length<1000):(y42 c).bind (fun r=>some r.2)=some (ja5 c):=by
 unfold y42 ja5;split
 ·rfl
 ·have key:=jaN (body:=y55 c) c [] (fun r=>!jdb r) (fun i=>.inl ((i:Int),2)) (.inr ()) (by omega) (fun i hi hp=>by
    unfold y55;simp only[zg];have hp:jdb (c.getD i [])=false:=by simpa using hp
    rw[if_pos (by omega),if_pos (by omega),if_pos hi,jxj,hp,jaa];rfl) (fun i hi hp=>by
    unfold y55;simp only[zg];have hp:jdb (c.getD i [])=true:=by simpa using hp
    rw[if_pos (by omega),if_pos (by omega),if_pos hi,jxj,hp,jaa,jai (by omega)];rfl) (by
    unfold y55;simp only[zg];rw[if_neg (by omega)])
  rw[key,<-jh8];cases c.findIdx? (fun r=>!jdb r)<;>rfl
def jfg (c:List (List Int)) (hc:c.length<1000):y45 c=some (ja5 c):=by
 unfold y45 jrc ja5;split
 ·rfl
 ·have key:=jaN (body:=y78 c) c [] (fun r=>!jdb r) (fun i=>.inl ((i:Int),2)) (.inr ()) (by omega) (fun i hi hp=>by
    unfold y78;simp only[zg];have hp:jdb (c.getD i [])=false:=by simpa using hp
    have hs:Sx09.chkS ((c.getD i []).getD 0 0) ((c.getD i []).getD 1 0) ((c.getD i []).getD 2 0) ((c.getD i []).getD 3 0) ((c.getD i []).getD 4 0)=2:=by
     unfold Sx09.chkS;unfold jdb at hp;rw[if_neg (by rw[hp];exact qB)]
    rw[if_pos (by omega),if_pos (by omega),if_pos hi,hs];rfl) (fun i hi hp=>by
    unfold y78;simp only[zg];have hp:jdb (c.getD i [])=true:=by simpa using hp
    have hs:Sx09.chkS ((c.getD i []).getD 0 0) ((c.getD i []).getD 1 0) ((c.getD i []).getD 2 0) ((c.getD i []).getD 3 0) ((c.getD i []).getD 4 0)=0:=by
     unfold Sx09.chkS;unfold jdb at hp;rw[if_pos hp]
    rw[if_pos (by omega),if_pos (by omega),if_pos hi,hs,jai (by omega)];rfl) (by
    unfold y78;simp only[zg];rw[if_neg (by omega)])
  rw[key,<-jh8];cases c.findIdx? (fun r=>!jdb r)<;>rfl
def jBw (c:List (List Int)) (hc:c.length<1000):(y26 c).bind (fun r=>some r.2)=some (ja5 c):=by
 have h1:=jfg c hc;unfold y26;rw[h1,jaa];cases hz:(ja5 c != 0)with
 |true=>rfl
 |false =>
  have h0:ja5 c=0:=by simpa using hz
  rw[if_neg (by simp),if_pos (by omega),h0];rfl
def jex (s:ByteArray):Bool:=(jcX s).getD false
def ju5 {s:ByteArray} (hs:s.size<1000):jcX s=some (jex s):=by
 obtain⟨b,_,h2⟩:=jxh s hs;unfold jex;rw[h2];rfl
def ju6 {s:ByteArray} (hs:s.size<1000):jh0 s=some (jex s):=by
 obtain⟨b,h1,h2⟩:=jxh s hs;unfold jex;rw[h1,h2];rfl
def jd0 (kd:Int) (f a g:Nat):Bool :=if(kd==0)=true then inB (f:Int) 0 0&&((a:Int)==(f:Int))&&((g:Int)==0)
 else if(kd==1)=true then inB (f:Int) 1 6&&((a:Int)==(f:Int))&&((g:Int)==(f:Int))
 else inB (f:Int) 1 1&&((a:Int)==(f:Int))&&((g:Int)==0)
def jyy (nm:ByteArray) (kd:Int) (fr al ga:List Int) (de:Int) (ca:List (List Int)) (sd:Int):jdr nm kd fr al ga de ca sd=some (jd0 kd fr.length al.length ga.length):=by
 unfold jdr jd0;simp only[jbl,jaa]
 generalize (kd==0)=k0
 generalize (kd==1)=k1
 generalize inB (fr.length:Int) 0 0=c1
 generalize inB (fr.length:Int) 1 6=c2
 generalize inB (fr.length:Int) 1 1=c3
 generalize ((al.length:Int)==(fr.length:Int))=c4
 cases k0<;>cases k1<;>cases c1<;>cases c2<;>cases c3<;>cases c4<;>rfl
def jlX:ByteArray:=xd #[115,116,97,110,100]
def sdB (n:Nat) (s:Int):Bool:=s == -1||inB s 0 ((n:Int)-1)
def jbg (g:List (List NC)) (i:Nat):Int :=if(!jex (nS g i 0))=true then 4
 else if(nS g i 0==jlX)=true then 4
 else if exB g i=true then 5
 else if(!inB (nI g i 1) 0 4)=true then 15
 else if(!jd0 (nI g i 1) (nL g i 2).length (nL g i 3).length (nL g i 4).length)=true then 10
 else if jdO g.length (nL g i 2)=true then 6
 else if(!sdB g.length (nI g i 7))=true then 6
 else if jgG (nL g i 2)=true then 26
 else if(!jct (nI g i 1) (nL g i 3) (nL g i 4) (nI g i 5))=true then 2
 else if(nI g i 1==3)=true then ja5 (nR g i 6)
 else if(((nR g i 6).length:Int)==0)=true then 0 else 10
structure Fw (g:List (List NC)):Prop where
 n:g.length<1000
 nm:∀i,i<g.length->(nS g i 0).size<1000
 fr:∀i,i<g.length->(nL g i 2).length<100
 al:∀i,i<g.length->(nL g i 3).length<100
 ga:∀i,i<g.length->(nL g i 4).length<100
 ca:∀i,i<g.length->(nR g i 6).length<100
set_option maxHeartbeats 2000000 in
def ju7 {g:List (List NC)} (hw:Fw g) (nm:ByteArray) {i:Nat} (hi:i<g.length):jee nm g (i:Int)=some (jbg g i):=by
 have hn:=hw.n;have h1:=hw.nm i hi;have h2:=hw.fr i hi;have h3:=hw.al i hi;have h4:=hw.ga i hi;have h5:=hw.ca i hi
 have hst:jly (nI g i 7) nm g=some (inB (nI g i 7) 0 ((g.length:Int)-1)):=by
  unfold jly;rw[jai (by omega),jbl];rfl
 unfold jee;rw[if_pos (by omega),if_pos (by simpa using hi)];simp only[zg,z9,jA,jC,yq];rw[hst,jBu _ nm g (by omega) hn,ju6 h1];simp only[jaa,jbl,jyy,jff];rw[jyw g i hi hn,jwr _ (by omega),jyx _ _ _ _ _ _ _ _ (by omega) (by omega),jBw _ (by omega)];simp only[jaa];have hb:(0:Int)<=0∧(0:Int)<=(i:Int)∧(i:Int)<=(g.length:Int):=by omega
 simp only[if_pos hb];unfold jbg sdB;rw[show(xd #[115,116,97,110,100])=jlX from rfl];rw[show(nI g i 1 != 3)=!(nI g i 1==3)from rfl,show(nI g i 7 != -1)=!(nI g i 7 == -1)from rfl]
 generalize jex (nS g i 0)=b1
 generalize (nS g i 0==jlX)=b2
 generalize exB g i=b3
 generalize inB (nI g i 1) 0 4=b4
 generalize jd0 (nI g i 1) (nL g i 2).length (nL g i 3).length (nL g i 4).length=b5
 generalize jdO g.length (nL g i 2)=b6
 generalize inB (nI g i 7) 0 ((g.length:Int)-1)=b7
 generalize (nI g i 7 == -1)=b8
 generalize jgG (nL g i 2)=b9
 generalize jct (nI g i 1) (nL g i 3) (nL g i 4) (nI g i 5)=b10
 generalize (nI g i 1==3)=b11
 generalize (((nR g i 6).length:Int)==0)=b12
 generalize ja5 (nR g i 6)=ce
 cases b7<;>cases b8<;>(cases b1;rfl;cases b2<;>try rfl)<;>(cases b3<;>try rfl)<;>(cases b4;rfl;cases b5;rfl;cases b6<;>try rfl)<;>(cases b9<;>try rfl)<;>(cases b10;rfl;cases b11<;>cases b12<;>rfl)
def jyz (x y z:Bool) (r:Int):(if(!x)=true then some (10:Int)else if(!y)=true then some 10 else if(!z)=true then some 10 else some r)=some (if(!(x&&y&&z))=true then 10 else r):=by
 cases x<;>cases y<;>cases z<;>rfl
set_option maxHeartbeats 4000000 in
def ju8 {g:List (List NC)} (hw:Fw g) (nm:ByteArray) {i:Nat} (hi:i<g.length):jqW nm g (i:Int)=some (jbg g i):=by
 have hn:=hw.n;have h1:=hw.nm i hi;have h2:=hw.fr i hi;have h3:=hw.al i hi;have h4:=hw.ga i hi;have h5:=hw.ca i hi
 have k0:=jcW (body:=jqS g (i:Int)) i (fun k=>nS g k 0==nS g i 0) (.inl ()) (.inr ()) (by omega) (fun k hk hp=>by
   unfold jqS;simp only[zg];rw[if_pos (by omega),if_pos (by omega),if_pos (by omega),if_pos hp]) (fun k hk hp=>by
   unfold jqS;simp only[zg];rw[if_pos (by omega),if_pos (by omega),if_pos (by omega),if_neg (by rw[hp];exact qB),jai (by omega)]) (by
   unfold jqS;simp only[zg];rw[if_neg (by omega)])
 have k1:=jb0 (body:=y15 g (i:Int)) (nL g i 2) 0 (fun x=>!inB x 0 ((g.length:Int)-1)) (.inl ()) (.inr ()) (by omega) (fun k hk hp=>by
   unfold y15;simp only[zg];rw[if_pos (by omega),if_pos (by omega),if_pos hk,jai (by omega),jaY,jaa,if_pos hp]) (fun k hk hp=>by
   unfold y15;simp only[zg];rw[if_pos (by omega),if_pos (by omega),if_pos hk,jai (x:=(g.length:Int)-1) (by omega),jaY,jaa,if_neg (by rw[hp];exact qB),jai (by omega)]) (by
   unfold y15;simp only[zg];rw[if_neg (by omega)])
 have k2:=jcW (body:=jqT g (i:Int)) (nL g i 2).length (fun k=>((nL g i 2).take k).any (·== (nL g i 2).getD k 0)) (.inl ()) (.inr ()) (by omega) (fun k hk hp=>by
   unfold jqT;simp only[zg];rw[if_pos (by omega),if_pos (by simp only[z8];omega),if_pos (by omega),if_pos hk];simp only[z9,zg,jC,yq];rw[je0 _ _ (by simp;omega),jaa,if_pos hp]) (fun k hk hp=>by
   unfold jqT;simp only[zg];rw[if_pos (by omega),if_pos (by simp only[z8];omega),if_pos (by omega),if_pos hk];simp only[z9,zg,jC,yq];rw[je0 _ _ (by simp;omega),jaa,if_neg (by rw[hp];exact qB),jai (by omega)]) (by
   unfold jqT;simp only[zg];rw[if_neg (by omega)])
 have k3:=jb0 (body:=jqU g (i:Int)) (nL g i 3) 0 (fun x=>!inB x 0 64) (.inl ()) (.inr ()) (by omega) (fun k hk hp=>by
   unfold jqU;simp only[zg];rw[if_pos (by omega),if_pos (by omega),if_pos hk,jaY,jaa,if_pos hp]) (fun k hk hp=>by
   unfold jqU;simp only[zg];rw[if_pos (by omega),if_pos (by omega),if_pos hk,jaY,jaa,if_neg (by rw[hp];exact qB),jai (by omega)]) (by
   unfold jqU;simp only[zg];rw[if_neg (by omega)])
 have k4:=jb0 (body:=jqV g (i:Int)) (nL g i 4) 0 (fun x=>!inB x (-4000) 4000) (.inl ()) (.inr ()) (by omega) (fun k hk hp=>by
   unfold jqV;simp only[zg];rw[if_pos (by omega),if_pos (by omega),if_pos hk,jaY,jaa,if_pos hp]) (fun k hk hp=>by
   unfold jqV;simp only[zg];rw[if_pos (by omega),if_pos (by omega),if_pos hk,jaY,jaa,if_neg (by rw[hp];exact qB),jai (by omega)]) (by
   unfold jqV;simp only[zg];rw[if_neg (by omega)])
 have t4:y198 g (i:Int) ()=some (if(!inB (nI g i 5) 0 64)=true then 2 else if(!(nI g i 1==2||nI g i 5==0))=true then 2 else if(nI g i 1==3)=true then ja5 (nR g i 6)else if(((nR g i 6).length:Int)==0)=true then 0 else 10):=by
  unfold y198;simp only[zg];rw[jBv _ (by omega),jaY,jaa,show(nI g i 1 != 3)=!(nI g i 1==3)from rfl,show(nI g i 1 != 2)=!(nI g i 1==2)from rfl,show(nI g i 5 != 0)=!(nI g i 5==0)from rfl]
  have hz:(if((nR g i 6).length:Int)>0 then some (10:Int)else some 0)=some (if(((nR g i 6).length:Int)==0)=true then 0 else 10):=by
   by_cases h:(nR g i 6).length=0
   ·rw[if_neg (by omega),if_pos (by simp[h])]
   ·rw[if_pos (by omega),if_neg (by simpa using h)]
  rw[hz]
  generalize inB (nI g i 5) 0 64=c1
  generalize (nI g i 1==2)=c2
  generalize (nI g i 5==0)=c3
  generalize (nI g i 1==3)=c4
  cases c1<;>cases c2<;>cases c3<;>cases c4<;>rfl
 have t3:y199 g (i:Int) ()=some (if((nL g i 4).any fun x=>!inB x (-4000) 4000)=true then 2 else if(!inB (nI g i 5) 0 64)=true then 2 else if(!(nI g i 1==2||nI g i 5==0))=true then 2 else if(nI g i 1==3)=true then ja5 (nR g i 6)else if(((nR g i 6).length:Int)==0)=true then 0 else 10):=by
  unfold y199;rw[k4,jaa];cases (nL g i 4).any (fun x=>!inB x (-4000) 4000)with
  |true=>rfl
  |false=>exact t4
 have t2:y200 g (i:Int) ()=some (if(!jct (nI g i 1) (nL g i 3) (nL g i 4) (nI g i 5))=true then 2 else if(nI g i 1==3)=true then ja5 (nR g i 6)else if(((nR g i 6).length:Int)==0)=true then 0 else 10):=by
  unfold y200 jct;rw[k3,jaa]
  generalize hA:(nL g i 3).any (fun x=>!inB x 0 64)=bA
  cases bA with
  |true=>rfl
  |false =>
   refine t3.trans ?_
   generalize (nL g i 4).any (fun x=>!inB x (-4000) 4000)=bG
   generalize inB (nI g i 5) 0 64=c1
   generalize (nI g i 1==2||nI g i 5==0)=c2
   cases bG<;>cases c1<;>cases c2<;>rfl
 have t1:y201 g (i:Int) ()=some (if(!inB (nI g i 7) (-1) ((g.length:Int)-1))=true then 6 else if jgG (nL g i 2)=true then 26 else if(!jct (nI g i 1) (nL g i 3) (nL g i 4) (nI g i 5))=true then 2 else if(nI g i 1==3)=true then ja5 (nR g i 6)else if(((nR g i 6).length:Int)==0)=true then 0 else 10):=by
  unfold y201;simp only[zg];rw[jai (by omega),jaY,jaa,k2,jaa];cases inB (nI g i 7) (-1) ((g.length:Int)-1)with
  |false=>rfl
  |true =>
   show jeU g (i:Int) (if jgG (nL g i 2)=true then .inl ()else .inr ())=_
   cases jgG (nL g i 2)with
   |true=>rfl
   |false=>exact t2
 have hsd:inB (nI g i 7) (-1) ((g.length:Int)-1)=sdB g.length (nI g i 7):=by
  unfold sdB inB;have:((nI g i 7)==(-1:Int))=decide (nI g i 7=-1):=rfl;rw[this]
  by_cases h:nI g i 7=-1
  ·simp[h];omega
  ·have e:decide ((-1:Int)<=nI g i 7)=decide ((0:Int)<=nI g i 7):=by
    congr 1
    exact propext ⟨fun _=>by omega,fun _=>by omega⟩
   rw[e];simp[h]
 rw[hsd]at t1
 have t1':((some (if jdO g.length (nL g i 2)=true then Sum.inl ()else Sum.inr ()):Option (Unit ⊕ Unit)).bind (y28 g (i:Int)))=some (if jdO g.length (nL g i 2)=true then 6 else if(!sdB g.length (nI g i 7))=true then 6 else if jgG (nL g i 2)=true then 26 else if(!jct (nI g i 1) (nL g i 3) (nL g i 4) (nI g i 5))=true then 2 else if(nI g i 1==3)=true then ja5 (nR g i 6)else if(((nR g i 6).length:Int)==0)=true then 0 else 10):=by
  rw[jaa];cases jdO g.length (nL g i 2)with
  |true=>rfl
  |false=>exact t1
 have k1:jae (y15 g (i:Int)) big 0=some (if jdO g.length (nL g i 2)=true then .inl ()else .inr ()):=k1
 have t0:y202 g (i:Int) ()=some (if(!inB (nI g i 1) 0 4)=true then 15 else if(!jd0 (nI g i 1) (nL g i 2).length (nL g i 3).length (nL g i 4).length)=true then 10 else if jdO g.length (nL g i 2)=true then 6 else if(!sdB g.length (nI g i 7))=true then 6 else if jgG (nL g i 2)=true then 26 else if(!jct (nI g i 1) (nL g i 3) (nL g i 4) (nI g i 5))=true then 2 else if(nI g i 1==3)=true then ja5 (nR g i 6)else if(((nR g i 6).length:Int)==0)=true then 0 else 10):=by
  unfold y202;simp only[zg];rw[k1,t1'];simp only[jaY,jaa]
  generalize (if jdO g.length (nL g i 2)=true then(6:Int)else if(!sdB g.length (nI g i 7))=true then 6 else if jgG (nL g i 2)=true then 26 else if(!jct (nI g i 1) (nL g i 3) (nL g i 4) (nI g i 5))=true then 2 else if(nI g i 1==3)=true then ja5 (nR g i 6)else if(((nR g i 6).length:Int)==0)=true then 0 else 10)=rest
  by_cases h0:(!inB (nI g i 1) 0 4)=true
  ·rw[if_pos h0,if_pos h0]
  ·rw[if_neg h0,if_neg h0]
   by_cases hk:nI g i 1=0
   ·have e0:(nI g i 1==0)=true:=by simp[hk]
    have e1:¬(nI g i 1==1)=true:=by simp[hk]
    rw[if_pos e0,if_neg e1,if_neg e1]
    have hs:jd0 (nI g i 1) (nL g i 2).length (nL g i 3).length (nL g i 4).length=(inB ((nL g i 2).length:Int) 0 0&&(((nL g i 3).length:Int)==((nL g i 2).length:Int))&&(((nL g i 4).length:Int)==0)):=by
     unfold jd0;rw[if_pos e0]
    rw[hs];exact jyz _ _ _ _
   ·have e0:¬(nI g i 1==0)=true:=by simpa using hk
    rw[if_neg e0]
    by_cases hk1:(nI g i 1==1)=true
    ·rw[if_pos hk1,if_pos hk1]
     have hs:jd0 (nI g i 1) (nL g i 2).length (nL g i 3).length (nL g i 4).length=(inB ((nL g i 2).length:Int) 1 6&&(((nL g i 3).length:Int)==((nL g i 2).length:Int))&&(((nL g i 4).length:Int)==((nL g i 2).length:Int))):=by
      unfold jd0;rw[if_neg e0,if_pos hk1]
     rw[hs];exact jyz _ _ _ _
    ·rw[if_neg hk1,if_neg hk1]
     have hs:jd0 (nI g i 1) (nL g i 2).length (nL g i 3).length (nL g i 4).length=(inB ((nL g i 2).length:Int) 1 1&&(((nL g i 3).length:Int)==((nL g i 2).length:Int))&&(((nL g i 4).length:Int)==0)):=by
      unfold jd0;rw[if_neg e0,if_neg hk1]
     rw[hs];exact jyz _ _ _ _
 unfold jqW;rw[if_pos (by omega),if_pos (by simpa using hi)];simp only[zg];rw[ju5 h1,jaa,k0,jaa];unfold jbg;rw[show(xd #[115,116,97,110,100])=jlX from rfl];cases jex (nS g i 0)with
 |false=>rfl
 |true =>
  have ht:¬((!true)=true):=by simp
  by_cases hs:(nS g i 0==jlX)=true
  ·rw[if_neg ht,if_pos hs,if_neg ht,if_pos hs]
  ·rw[if_neg ht,if_neg hs,if_neg ht,if_neg hs]
   show jeV g (i:Int) (if exB g i=true then .inl ()else .inr ())=_
   cases exB g i with
   |true=>rfl
   |false=>exact t0
def cg (nm:ByteArray) (g:List (List NC)):Int × Int :=if(!jex nm)=true then(0,4)
 else if(g.length:Int)>24 then(0,8)
 else match(zm g.length).findIdx? (fun i=>jbg g i != 0)with
  |some i=>((i:Int),jbg g i)
  |none=>(0,0)
def jzW (a b:Int):jcH [a,b]=some (if(a != 0)=true then a else b):=by
 unfold jcH
 have key:=jaN (body:=y94 [a,b]) [a,b] 0 (fun x=>x != 0) (fun i=>.inl ([a,b].getD i 0)) (.inr ()) (by simp) (fun i hi hp=>by
   unfold y94;simp only[zg];rw[if_pos (by omega),if_pos (by omega),if_pos hi,if_pos hp]) (fun i hi hp=>by
   unfold y94;simp only[zg];have hi2:i<2:=hi;rw[if_pos (by omega),if_pos (by omega),if_pos hi,if_neg (by rw[hp];exact qB),jai (by omega)]) (by
   unfold y94;simp only[zg];rw[if_neg (by omega)])
 rw[key];cases ha:(a != 0)with
 |true=>simp[xX,ha];rfl
 |false =>
  cases hb:(b != 0)with
  |true=>simp[xX,ha,hb];rfl
  |false =>
   have:b=0:=by simpa using hb
   simp[xX,ha,hb,this];rfl
def jqa {n:Nat} {P:Nat->Bool} {i:Nat} (h:(zm n).findIdx? P=some i):i<n:=by
 rw[qm]at h;obtain⟨h,_⟩:=h;simpa using h
def jso {g:List (List NC)} (hw:Fw g) {nm:ByteArray} (hs:nm.size<1000):y69 nm g=some (cg nm g):=by
 have hn:=hw.n;unfold y69 cg;rw[ju6 hs];simp only[jaa,jff];rw[jzW,jaa];cases jex nm with
 |false=>rfl
 |true =>
  by_cases h24:(g.length:Int)>24
  ·rw[if_neg (by simp:¬(!true)=true),if_pos h24];have e:decide ((g.length:Int)<=24)=false:=by simp;omega
   rw[e];rfl
  ·rw[if_neg (by simp:¬(!true)=true),if_neg h24];have e:decide ((g.length:Int)<=24)=true:=by simp;omega
   rw[e]
   show ze (jae (y68 nm g) big 0) y210=_
   have key:=jaN (body:=y68 nm g) (zm g.length) 0 (fun i=>jbg g i != 0) (fun i=>.inl ((i:Int),jbg g i)) (.inr ()) (by simp;omega) (fun i hi hp=>by
     have hi:i<g.length:=by simpa using hi
     have hr:(zm g.length).getD i 0=i:=by simp[zb,hi]
     rw[hr]at hp;unfold y68;rw[if_pos (by omega),ju7 hw nm hi,jaa,if_pos hp]) (fun i hi hp=>by
     have hi:i<g.length:=by simpa using hi
     have hr:(zm g.length).getD i 0=i:=by simp[zb,hi]
     rw[hr]at hp;unfold y68;rw[if_pos (by omega),ju7 hw nm hi,jaa,if_neg (by rw[hp];exact qB),jai (by omega)]) (by
     unfold y68;rw[if_neg (by simp)])
   rw[key];cases (zm g.length).findIdx? (fun i=>jbg g i != 0)<;>rfl
def jzX {g:List (List NC)} (hw:Fw g) {nm:ByteArray} (hs:nm.size<1000):y83 nm g=some (cg nm g):=by
 have hn:=hw.n;unfold y83 cg;rw[ju5 hs,jaa];cases jex nm with
 |false=>rfl
 |true =>
  have ht:¬((!true)=true):=by simp
  rw[if_neg ht,if_neg ht]
  by_cases h24:(g.length:Int)>24
  ·rw[if_pos h24,if_pos h24]
  ·rw[if_neg h24,if_neg h24]
   have key:=jaN (body:=y77 nm g) (zm g.length) 0 (fun i=>jbg g i != 0) (fun i=>.inl ((i:Int),jbg g i)) (.inr ()) (by simp;omega) (fun i hi hp=>by
     have hi:i<g.length:=by simpa using hi
     have hr:(zm g.length).getD i 0=i:=by simp[zb,hi]
     rw[hr]at hp;unfold y77;rw[if_pos (by omega),ju8 hw nm hi,jaa,if_pos hp]) (fun i hi hp=>by
     have hi:i<g.length:=by simpa using hi
     have hr:(zm g.length).getD i 0=i:=by simp[zb,hi]
     rw[hr]at hp;unfold y77;rw[if_pos (by omega),ju8 hw nm hi,jaa,if_neg (by rw[hp];exact qB),jai (by omega)]) (by
     unfold y77;rw[if_neg (by simp)])
   rw[key];cases (zm g.length).findIdx? (fun i=>jbg g i != 0)<;>rfl
def rowU (g:List (List NC)) (i:Nat):List NC:=[.d (.s (nS g i 0)),.d (.i .i64 (nI g i 1)),.r (.ints .i64 (nL g i 2)),.r (.ints .i64 (nL g i 3)),.r (.ints .i64 (nL g i 4)),.d (.i .i64 (nI g i 5)),.r (.recs 5 (nR g i 6)),.d (.i .i64 (nI g i 7))]
def cpU (g:List (List NC)):List (List NC):=(zm g.length).map (rowU g)
def jxk {g:List (List NC)} (hw:Fw g) (nm:ByteArray):y4 nm g=some (nm,cpU g):=by
 have hn:=hw.n;unfold y4
 have key:=jat (body:=jqR g) (fun k=>((k:Int),(zm k).map (rowU g))) (y:=cpU g) (k:=g.length) (fun i hi=>by
   have h2:=hw.fr i hi;have h3:=hw.al i hi;have h4:=hw.ga i hi;have h5:=hw.ca i hi;unfold jqR;simp only[zg];rw[if_pos (by omega),if_pos (by omega),if_pos hi,jfB _ (by omega),jfB _ (by omega),jfB _ (by omega)];simp only[jaa];rw[if_pos (by omega),if_pos (by simp only[qh,x7,zB,qe];omega),jai (by omega),x8,xa];rfl) (by
   unfold jqR;rw[if_neg (by simp)];rfl) (by omega)
 have key:jae (jqR g) big ((0:Int),[])=some (cpU g):=key;rw[key];rfl
def jcu (g:List (List NC)):(cpU g).length=g.length:=by simp[cpU]
def jft {g:List (List NC)} {i:Nat} (hi:i<g.length):(cpU g).getD i []=rowU g i:=by simp[cpU,zb,hi]
def cp_S {g:List (List NC)} {i:Nat} (hi:i<g.length):nS (cpU g) i 0=nS g i 0:=by
 show NC.toS (((cpU g).getD i []).getD 0 _)=_
 rw[jft hi];rfl
def cp_I {g:List (List NC)} {i:Nat} (hi:i<g.length):nI (cpU g) i 1=nI g i 1∧nI (cpU g) i 5=nI g i 5∧nI (cpU g) i 7=nI g i 7:=by
 refine⟨?_,?_,?_⟩
 ·show NC.toI (((cpU g).getD i []).getD 1 _)=_
  rw[jft hi];rfl
 ·show NC.toI (((cpU g).getD i []).getD 5 _)=_
  rw[jft hi];rfl
 ·show NC.toI (((cpU g).getD i []).getD 7 _)=_
  rw[jft hi];rfl
def joO {g:List (List NC)} {i:Nat} (hi:i<g.length):nL (cpU g) i 2=nL g i 2∧nL (cpU g) i 3=nL g i 3∧nL (cpU g) i 4=nL g i 4:=by
 refine⟨?_,?_,?_⟩
 ·show NC.toInts (((cpU g).getD i []).getD 2 _)=_
  rw[jft hi];rfl
 ·show NC.toInts (((cpU g).getD i []).getD 3 _)=_
  rw[jft hi];rfl
 ·show NC.toInts (((cpU g).getD i []).getD 4 _)=_
  rw[jft hi];rfl
def cp_R {g:List (List NC)} {i:Nat} (hi:i<g.length):nR (cpU g) i 6=nR g i 6:=by
 show NC.toRecs (((cpU g).getD i []).getD 6 _)=_
 rw[jft hi];rfl
def cp_fw {g:List (List NC)} (hw:Fw g):Fw (cpU g):=by
 constructor
 ·rw[jcu];exact hw.n
 all_goals intro i hi;rw[jcu]at hi
 ·rw[cp_S hi];exact hw.nm i hi
 ·rw[(joO hi).1];exact hw.fr i hi
 ·rw[(joO hi).2.1];exact hw.al i hi
 ·rw[(joO hi).2.2];exact hw.ga i hi
 ·rw[cp_R hi];exact hw.ca i hi
def jzY {g:List (List NC)} {i:Nat} (hi:i<g.length):jbg (cpU g) i=jbg g i:=by
 have hex:exB (cpU g) i=exB g i:=by
  unfold exB;rw[cp_S hi]
  have:∀l:List Nat,(∀k∈l,k<i)->(l.any fun k=>nS (cpU g) k 0==nS g i 0)=l.any fun k=>nS g k 0==nS g i 0:=by
   intro l
   induction l with
   |nil=>intro _;rfl
   |cons x r ih =>
    intro h;have hx:=h x zw;rw[jK,jK,cp_S (by omega),ih fun k hk=>h k (zu _ hk)]
  exact this _ fun k hk=>qZ.1 hk
 unfold jbg;rw[cp_S hi,hex,(cp_I hi).1,(cp_I hi).2.1,(cp_I hi).2.2,(joO hi).1,(joO hi).2.1,(joO hi).2.2,cp_R hi,jcu]
def cgM (e:Nat->Int) (o:Option Nat):Int × Int:=match o with|some i=>((i:Int),e i)|none=>(0,0)
def cgF (b:Bool) (n:Nat) (e:Nat->Int):Int × Int:=if(!b)=true then(0,4)else if(n:Int)>24 then(0,8)else cgM e ((zm n).findIdx? fun i=>e i != 0)
def jyC (e e':Nat->Int) (n:Nat) (hn:∀i,i<n->e i=e' i) (l:List Nat):(∀i∈l,i<n)->l.findIdx? (fun i=>e i != 0)=l.findIdx? (fun i=>e' i != 0):=by
 induction l with
 |nil=>intro _;rfl
 |cons x r ih =>
  intro h;rw[xX,xX,hn x (h x zw),ih fun i hi=>h i (zu _ hi)]
def jzZ (b:Bool) (n:Nat) (e e':Nat->Int) (hn:∀i,i<n->e i=e' i):cgF b n e=cgF b n e':=by
 unfold cgF;rw[jyC e e' n hn _ fun i hi=>qZ.1 hi]
 have hm:cgM e ((zm n).findIdx? fun i=>e' i != 0)=cgM e' ((zm n).findIdx? fun i=>e' i != 0):=by
  cases h:(zm n).findIdx? (fun i=>e' i != 0)with
  |none=>rfl
  |some i =>
   show((i:Int),e i)=((i:Int),e' i)
   rw[hn i (jqa h)]
 rw[hm]
def ju9 (nm:ByteArray) (g:List (List NC)):cg nm g=cgF (jex nm) g.length (jbg g):=by
 unfold cg cgF cgM;rfl
def cp_cg (nm:ByteArray) (g:List (List NC)):cg nm (cpU g)=cg nm g:=by
 rw[ju9,ju9,jcu];exact jzZ _ _ _ _ fun i hi=>jzY hi
def jz0 (nm:ByteArray) (g:List (List NC)):jeT nm g=some false∨(jeT nm g=some true∧Fw g∧nm.size<1000):=by
 unfold jeT
 by_cases h0:((nm.size:Nat):Int)>20
 ·rw[if_pos h0];exact .inl rfl
 rw[if_neg h0]
 have loop:g.length<=26->(ze (jae (jjQ g) big 0) jev=some false∨(ze (jae (jjQ g) big 0) jev=some true∧Fw g∧nm.size<1000)):=by
  intro h26
  let P:Nat->Bool:=fun i=>decide ((((nS g i 0).size:Nat):Int)>20)||decide (((nL g i 2).length:Int)>8)||decide (((nL g i 3).length:Int)>8)||decide (((nL g i 4).length:Int)>8)||decide (((nR g i 6).length:Int)>8)
  have key:=jcW (body:=jjQ g) g.length P (.inl ()) (.inr ()) (by omega) (fun i hi hp=>by
    unfold jjQ;simp only[zg];rw[if_pos (by omega),if_pos (by omega),if_pos hi];simp only[P,qU,decide_eq_true_eq]at hp
    repeat' split
    all_goals first|rfl|(exfalso;omega)) (fun i hi hp=>by
    unfold jjQ;simp only[zg];rw[if_pos (by omega),if_pos (by omega),if_pos hi];simp only[P,yG,decide_eq_false_iff_not]at hp;rw[if_neg hp.1.1.1.1,if_neg hp.1.1.1.2,if_neg hp.1.1.2,if_neg hp.1.2,if_neg hp.2,jai (by omega)]) (by
    unfold jjQ;simp only[zg];rw[if_neg (by omega)])
  rw[key];cases hP:(zm g.length).any P with
  |true=>exact .inl rfl
  |false =>
   refine .inr ⟨rfl,?_,by omega⟩
   have hall:∀i,i<g.length->P i=false:=fun i hi=>by
    have:=xC.1 hP i (by simpa using hi);simpa using this
   have hq:∀i,i<g.length->(nS g i 0).size<=20∧(nL g i 2).length<=8∧(nL g i 3).length<=8∧(nL g i 4).length<=8∧(nR g i 6).length<=8:=fun i hi=>by
    have hp:=hall i hi;simp only[P,yG,decide_eq_false_iff_not]at hp;omega
   exact⟨by omega,fun i hi=>by have:=hq i hi;omega,fun i hi=>by have:=hq i hi;omega,fun i hi=>by have:=hq i hi;omega,fun i hi=>by have:=hq i hi;omega,fun i hi=>by have:=hq i hi;omega⟩
 split
 ·split
  ·exact .inl rfl
  ·split
   ·exact .inl rfl
   ·exact loop (by omega)
 ·split
  ·exact .inl rfl
  ·exact loop (by omega)
def jru {g:List (List NC)} {i:Nat} (h:jbg g i=0):(∀x∈nL g i 2,0<=x∧x<(g.length:Int))∧(nI g i 7=-1∨(0<=nI g i 7∧nI g i 7<(g.length:Int))):=by
 have hm:jdO g.length (nL g i 2)=false:=by
  cases hb:jdO g.length (nL g i 2)with
  |false=>rfl
  |true =>
   exfalso;unfold jbg at h;rw[if_pos hb]at h
   repeat' split at h
   all_goals exact absurd h (by decide)
 have hs:sdB g.length (nI g i 7)=true:=by
  cases hb:sdB g.length (nI g i 7)with
  |true=>rfl
  |false =>
   exfalso;unfold jbg at h;rw[hm,if_neg (by simp:¬(false=true)),hb,if_pos (by simp:(!false)=true)]at h
   repeat' split at h
   all_goals exact absurd h (by decide)
 refine⟨fun x hx=>?_,?_⟩
 ·have:=xC.1 hm x hx;simp only[inB,gj,jS,zk,decide_eq_true_eq]at this;omega
 ·unfold sdB inB at hs;simp only[qU,beq_iff_eq,zk,decide_eq_true_eq]at hs;omega
def jaL (out:List Int) (k:Nat):Bool:=out.any (·== (k:Int))
def jdP (g:List (List NC)) (i k:Nat):Bool:=(nL g i 2).any (·== (k:Int))||nI g i 7==(k:Int)
def jdu (g:List (List NC)) (out:List Int) (i:Nat):Bool:=!(zm g.length).any fun k=>jdP g i k && !jaL out k
def jd1 (g:List (List NC)) (out:List Int) (i:Nat):Bool:=!jaL out i&&jdu g out i
def jbx (g:List (List NC)) (out:List Int):Option Nat:=(zm g.length).find? (jd1 g out)
def jba (n:Nat) (out:List Int):List Bool:=(zm n).map (jaL out)
def jsp {g:List (List NC)} (hw:Fw g) {i:Nat} (hi:i<g.length) (k:Nat) (nm:ByteArray) (a:Int) (b c:List Int) (d:Int) (e:List (List Int)):jec nm a (nL g i 2) b c d e (nI g i 7) (k:Int)=some (jdP g i k):=by
 have h2:=hw.fr i hi;unfold jec jdP;rw[je0 _ _ (by omega),jaa];cases (nL g i 2).any (·== (k:Int))<;>rfl
def jz1 {g:List (List NC)} (hw:Fw g) (nm:ByteArray) {i:Nat} (hi:i<g.length) (out:List Int) (ho:out.length<1000):jed nm g out (i:Int)=some (jdu g out i):=by
 have hn:=hw.n;unfold jed
 have key:=jcW (body:=jqX g out (i:Int)) g.length (fun k=>jdP g i k && !jaL out k) (.inl ()) (.inr ()) (by omega) (fun k hk hp=>by
   simp only[zk,xB]at hp;unfold jqX;simp only[zg];rw[if_pos (by omega),if_pos (by omega),if_pos hi,jsp hw hi,jaa,if_pos hp.1,je0 _ _ (by omega),jaa];have h2:(out.any (·== (k:Int)))=false:=hp.2;rw[h2];rfl) (fun k hk hp=>by
   unfold jqX;simp only[zg];rw[if_pos (by omega),if_pos (by omega),if_pos hi,jsp hw hi,jaa];cases h1:jdP g i k with
   |false=>rw[if_neg (by simp),jai (by omega)]
   |true =>
    rw[h1]at hp;have h2:jaL out k=true:=by simpa using hp
    have h2:(out.any (·== (k:Int)))=true:=h2;rw[if_pos rfl,je0 _ _ (by omega),jaa,h2,jai (by omega)];rfl) (by
   unfold jqX;rw[if_neg (by omega)])
 rw[key];unfold jdu;cases (zm g.length).any (fun k=>jdP g i k && !jaL out k)<;>rfl
def jfX (n:Nat) (out:List Int):(jba n out).length=n:=by simp[jba]
def jfY {n k:Nat} (hk:k<n) (out:List Int):(jba n out).getD k false=jaL out k:=by simp[jba,zb,hk]
def jyD {n i:Nat} (hi:i<n) (out:List Int):(jba n out).set i true=jba n (out++[(i:Int)]):=by
 refine x5 (by simp[jba]) fun k h1 h2=>?_;have hk:k<n:=by simpa [jba]using h2
 rw[f8];simp only[jba,gm,yS,jaL,gA,jK,kI,kB]
 by_cases h:i=k
 ·subst h;simp
 ·rw[if_neg h];have:((i:Int)==(k:Int))=false:=by simp;omega
  rw[this,kB]
def jsq {g:List (List NC)} (hw:Fw g) {i:Nat} (hi:i<g.length) (hr:jbg g i=0) (out:List Int):jdD g (i:Int) (jba g.length out)=some (jdu g out i):=by
 have h2:=hw.fr i hi;obtain⟨r1,r2⟩:=jru hr
 have hmem:∀x,x∈Sx09.needL (nL g i 2) (nI g i 7)<->(x∈nL g i 2∨(nI g i 7≠-1∧x=nI g i 7)):=fun x=>by
  unfold Sx09.needL;split
  ·rename_i h;simp[h]
  ·rename_i h;simp[h]
 have hrg:∀x∈Sx09.needL (nL g i 2) (nI g i 7),0<=x∧x<(g.length:Int):=fun x hx=>by
  rcases(hmem x).1 hx with h|⟨h,rfl⟩
  ·exact r1 x h
  ·exact r2.resolve_left h
 unfold jdD;simp only[zg]
 rw[if_pos (by omega),if_pos ⟨by omega,by
  rw[zy];intro x hx;rw[jfX];simpa using hrg x hx⟩]
 congr 1
 rw[yV];unfold Sx09.readyB jdu;rw[zy,xB,xC];constructor
 ·intro h k hk;have hk:k<g.length:=qZ.1 hk;simp only[zk,xB,not_and,fW];intro hn
  have hx:(k:Int)∈Sx09.needL (nL g i 2) (nI g i 7):=by
   rw[hmem];unfold jdP at hn;rw[qU,qY]at hn;rcases hn with ⟨x,hx,e⟩|e
   ·have:x=(k:Int):=by simpa using e
    subst this;exact .inl hx
   ·have:nI g i 7=(k:Int):=by simpa using e
    exact .inr ⟨by omega,this.symm⟩
  have:=h _ hx
  rwa [zg,jfY hk]at this
 ·intro h x hx;obtain⟨h0,h1⟩:=hrg x hx;obtain⟨k,rfl⟩:∃k:Nat,x=(k:Int):=⟨x.toNat,by omega⟩
  have hk:k<g.length:=by omega
  rw[zg,jfY hk];have:=h k (qZ.2 hk);simp only[zk,xB,not_and,fW]at this;refine this ?_;unfold jdP;rw[qU,qY];rcases(hmem _).1 hx with h|⟨h,e⟩
  ·exact .inl ⟨_,h,by simp⟩
  ·exact .inr (by simp[<-e])
def jBz (P:Nat->Bool) (l:List Nat):(l.findIdx? P).map (fun i=>l.getD i 0)=l.find? P:=by
 induction l with
 |nil=>rfl
 |cons x r ih =>
  rw[xX,kn];cases P x with
  |true=>rfl
  |false =>
   rw[<-ih];cases r.findIdx? P<;>rfl
def jz2 {Y:Type} (n:Nat) (P:Nat->Bool) {body:Int->Option (Int ⊕ Y)} (hit:Nat->Y) (miss:Y) (hlen:n<9223372036854775807)
  (h1:∀i,i<n->P i=true->body (i:Int)=some (.inr (hit i)))
  (h2:∀i,i<n->P i=false->body (i:Int)=some (.inl ((i:Int)+1))) (h3:body (n:Int)=some (.inr miss)) :
  jae body big 0=some (match(zm n).find? P with|some i=>hit i|none=>miss):=by
 have hg:∀i,i<n->(zm n).getD i 0=i:=fun i hi=>by simp[zb,hi]
 have key:=jaN (body:=body) (zm n) 0 P hit miss (by simpa using hlen) (fun i hi hp=>by
   have hi:i<n:=by simpa using hi
   rw[hg i hi]at hp;exact h1 i hi hp) (fun i hi hp=>by
   have hi:i<n:=by simpa using hi
   rw[hg i hi]at hp;exact h2 i hi hp) (by simpa using h3)
 rw[key,<-jBz];cases h:(zm n).findIdx? P with
 |none=>rfl
 |some i =>
  show some (hit i)=some (hit ((zm n).getD i 0))
  rw[hg i (jqa h)]
def jdF (next:List Int->Option Nat):Nat->List Int->Option (List Int)|0,out=>some out|k+1,out=>match next out with|some i=>jdF next k (out++[(i:Int)])|none=>none
def joP {X Y:Type} {body:X->Option (X ⊕ Y)} (F:List Int->X) (next:List Int->Option Nat) (good:List Int->Y) (bad:Y) (n:Nat)
  (h1:∀out,out.length<n->body (F out)=some (match next out with|some i=>.inl (F (out++[(i:Int)]))|none=>.inr bad)) (h2:∀out,out.length=n->body (F out)=some (.inr (good out))) :
  ∀(k:Nat) (out:List Int) (N:Nat),out.length+k=n->k<N->jae body N (F out)=some (match jdF next k out with|some l=>good l|none=>bad)
 |0,out,0,_,h=>by omega
 |0,out,N+1,ho,_=>by
  unfold jae;rw[h2 out (by omega)];rfl
 |k+1,out,0,_,h=>by omega
 |k+1,out,N+1,ho,hN=>by
  unfold jae;rw[h1 out (by omega)];unfold jdF;cases hx:next out with
  |none=>rfl
  |some i=>exact joP F next good bad n h1 h2 k (out++[(i:Int)]) N (by simp;omega) (by omega)
set_option maxRecDepth 100000
def jz3:List SV:=[.a [.d,.x (.st zS [])]]
def jiV (u5:zY) (u1:List (List NC)):Option (List Int × Int) :=
 if(jdN u5 u1)=true then
  ze (jbq u5 u1) fun r0 =>
  some ([],nzI r0)
 else
  ze (jav u5 u1) fun r1 =>
  some ((r1,0))
def jsr:List Lf->Option GT|[.d (.s u5),.x (.st [.s,.i .i64,.ints .i64,.ints .i64,.ints .i64,.i .i64,.recs 5,.i .i64] u1)]=>some (.leaf (ok (jiV u5 u1)) [.c (.row 3 (.ints .i64 ((val (jiV u5 u1)).1))),.c (.d (.i .i64 ((val (jiV u5 u1)).2)))])|_=>none
abbrev sp_20:jab->jab:=jal 20 true (jak jz3 jsr)
def sp_20_ok:KO sp_20:=jag (kT (sp_80_ok jaf) Tryz.func20 (by kernel_rfl) fun ls t h ho=>by
 unfold jsr at h;split at h
 ·rename_i u5 u1;cases h;have ho:=jad ho
  generalize val (jiV u5 u1)=r at ho ⊢
  exact⟨by kernel_rfl,fun _ _ _=>none,Sk.vd ho (.brB
   (.call (.obT (.obT (.ret (fun r=>(Ob (za r.1=(0:Nat)) ∧
 (Ob (nzI (val (jbq u5 u1))=r.2) ∧
 True))) ⟨⟨rfl⟩,⟨⟨rfl⟩,trivial⟩⟩))))
   (.call (.obT (.obT (.rc))))) (by kernel_rfl)⟩
 ·cases h)
end Go.Sh
end

section
namespace Go.Sh
open Go Go.Proofs Go.RowKit Go.Sx
open Go.IntKind (wrap)
def jxl {g:List (List NC)} {out:List Int} {i:Nat} (h:jbx g out=some i):i<g.length∧jd1 g out i=true :=⟨qZ.1 (List.mem_of_find?_eq_some h),List.find?_some h⟩
def jfZ (P:Nat->Bool) (n k:Nat):Int:=match(List.range' (n-k) k).find? P with
 |some i=>(i:Int)
 |none=>-1
def jyE (P:Nat->Bool) {n k:Nat} (hk:k<n):jfZ P n (k+1)=if P (n-1-k)=true then((n-1-k:Nat):Int)else jfZ P n k:=by
 unfold jfZ;have e:n-(k+1)=n-1-k:=by omega
 rw[List.range'_succ,e,kn];have e2:n-1-k+1=n-k:=by omega
 rw[e2];cases P (n-1-k)<;>rfl
def jz4 (P:Nat->Bool) (n:Nat):jfZ P n n=match(zm n).find? P with|some i=>(i:Int)|none=>-1:=by
 unfold jfZ;rw[jl,<-List.range_eq_range']
def jmR (g:List (List NC)) (out:List Int):Int:=match jbx g out with|some i=>(i:Int)|none=>-1
def jz5 {g:List (List NC)} (hw:Fw g) (nm:ByteArray) (out:List Int) (ho:out.length<1000):jae (joz nm g out) big (-1,wrap qP ((g.length:Int)-1))=some (jmR g out):=by
 have hn:=hw.n
 have key:=jat (body:=joz nm g out) (fun k=>(jfZ (jd1 g out) g.length k,(g.length:Int)-1-(k:Int))) (y:=jmR g out) (k:=g.length) (fun k hk=>by
   unfold joz;obtain⟨j,hj⟩:∃j:Nat,(g.length:Int)-1-(k:Int)=(j:Int):=⟨g.length-1-k,by omega⟩
   have hjn:j=g.length-1-k:=by omega
   have hjl:j<g.length:=by omega
   rw[hj,if_pos (by omega),je0 _ _ (by omega),jaa,jz1 hw nm hjl out ho];have hs:=jyE (jd1 g out) hk;rw[<-hjn]at hs;have he:(g.length:Int)-1-((k+1:Nat):Int)=(j:Int)-1:=by omega
   rw[he,hs,jai (by omega)];have hc:jd1 g out j=(!(out.any (·== (j:Int)))&&jdu g out j):=rfl;rw[hc];cases out.any (·== (j:Int))with
   |true=>rfl
   |false =>
    cases jdu g out j<;>rfl) (by
   unfold joz;rw[if_neg (by show ¬((g.length:Int)-1-(g.length:Int)>=0);omega)]
   show some (Sum.inr (jfZ (jd1 g out) g.length g.length))=_
   rw[jz4];rfl) (by omega)
 have e0:jfZ (jd1 g out) g.length 0=-1:=rfl;have key:jae (joz nm g out) big (jfZ (jd1 g out) g.length 0,(g.length:Int)-1-((0:Nat):Int))=some (jmR g out):=key;rw[e0]at key;rw[jai (by omega)];have e1:(g.length:Int)-1-((0:Nat):Int)=(g.length:Int)-1:=by omega
 rw[e1]at key;exact key
def jz6 {g:List (List NC)} (hw:Fw g) (nm:ByteArray):jdp nm g=some (match jdF (jbx g) g.length []with|some l=>(l,true)|none=>([],false)):=by
 have hn:=hw.n;unfold jdp
 have key:=joP (body:=juH nm g) (fun out=>out) (jbx g) (fun l=>.inr l) (.inl ()) g.length (fun out ho=>by
   unfold juH;rw[if_pos (by omega),jz5 hw nm out (by omega),jaa];unfold jgu jmR;cases hx:jbx g out with
   |none=>rfl
   |some i =>
    show(if(i:Int)<0 then _ else _)=_
    rw[if_neg (by omega),if_pos (by simp only[zB,qe];omega)]) (fun out ho=>by
   unfold juH;rw[if_neg (by omega)]) g.length [] big (by simp) (by have:big=18446744073709551616:=rfl;omega)
 rw[key];cases jdF (jbx g) g.length []<;>rfl
def jyF (n:Nat):jba n []=zh n false:=by
 refine x5 (by simp[jba]) fun k h1 h2=>?_;simp[jba,jaL]
def jz7 {g:List (List NC)} (hw:Fw g) (hall:∀i,i<g.length->jbg g i=0) (out:List Int) (k:Int):jae (jcw g (k,jba g.length out,out)) big 0=some (jmR g out):=by
 have hn:=hw.n
 have key:=jz2 (body:=jcw g (k,jba g.length out,out)) g.length (jd1 g out) (fun i=>(i:Int)) (-1) (by omega) (fun i hi hp=>by
   unfold jcw;simp only[zg,jfX];unfold jd1 at hp;rw[zk]at hp;rw[if_pos (by omega),if_pos (by omega),if_pos hi,jfY hi,if_pos hp.1,jsq hw hi (hall i hi),jaa,if_pos hp.2]) (fun i hi hp=>by
   unfold jcw;simp only[zg,jfX];unfold jd1 at hp;rw[if_pos (by omega),if_pos (by omega),if_pos hi,jfY hi];cases hh:jaL out i with
   |true=>rw[if_neg (by simp),jai (by omega)]
   |false =>
    rw[hh]at hp;have hr:jdu g out i=false:=by simpa using hp
    rw[if_pos (by rfl),jsq hw hi (hall i hi),jaa,hr,if_neg (by simp),jai (by omega)]) (by
   unfold jcw;rw[if_neg (by omega)])
 exact key
def jva {g:List (List NC)} (hw:Fw g) (hall:∀i,i<g.length->jbg g i=0):jae (jcf g) big ((0:Int),zh g.length false,[])=some (match jdF (jbx g) g.length []with|some l=>.inr l|none=>.inl ()):=by
 have hn:=hw.n
 have key:=joP (body:=jcf g) (fun out=>((out.length:Int),jba g.length out,out)) (jbx g) (fun l=>.inr l) (.inl ()) g.length (fun out ho=>by
   unfold jcf;rw[if_pos (by show(out.length:Int)<_;omega),jz7 hw hall,jaa];unfold jh2 jmR;cases hx:jbx g out with
   |none=>rfl
   |some i =>
    have hi:=(jxl hx).1
    have hne:((i:Int) == -1)=false:=by
     rw[beq_eq_false_iff_ne];omega
    simp only[jfX];rw[hne,if_neg (by simp),if_pos (by omega),if_pos (by omega),if_pos (by simp only[zB,qe];omega),jai (by omega),zg,jyD hi];simp) (fun out ho=>by
   unfold jcf;rw[if_neg (by show ¬(out.length:Int)<_;omega)]) g.length [] big (by simp) (by have:big=18446744073709551616:=rfl;omega)
 rw[jyF]at key;exact key
def jlY (next:List Int->Option Nat):∀(k:Nat) (out l:List Int),jdF next k out=some l->out.length+k=l.length∧l.take out.length=out∧∀j,out.length<=j->j<l.length->∃i,next (l.take j)=some i∧l.getD j 0=((i:Nat):Int)
 |0,out,l,h=>by
  cases h;exact⟨rfl,yk,fun j h1 h2=>by omega⟩
 |k+1,out,l,h=>by
  unfold jdF at h;cases hx:next out with
  |none=>rw[hx]at h;cases h
  |some i =>
   rw[hx]at h;obtain⟨h1,h2,h3⟩:=jlY next k (out++[(i:Int)]) l h
   simp only[qc,zB,qe]at h1 h2 h3
   have ht:l.take out.length=out:=by
    have:(l.take (out.length+1)).take out.length=out:=by rw[h2];simp
    rwa [List.take_take,yv (by omega)]at this
   refine⟨by omega,ht,fun j hj1 hj2=>?_⟩
   by_cases hj:j=out.length
   ·subst hj;refine⟨i,by rw[ht];exact hx,?_⟩;have hg:(l.take (out.length+1))[out.length]?=some (i:Int):=by rw[h2];simp
    rw[jJ (by omega)]at hg;simp[zb,hg]
   ·exact h3 j (by omega) hj2
def jrv {nm:ByteArray} {g:List (List NC)} (h:(cg nm g).2=0):∀i,i<g.length->jbg g i=0:=by
 rw[ju9]at h;unfold cgF at h;split at h
 ·exact absurd (show(4:Int)=0 from h) (by omega)
 ·split at h
  ·exact absurd (show(8:Int)=0 from h) (by omega)
  ·cases hf:(zm g.length).findIdx? (fun i=>jbg g i != 0)with
   |none =>
    intro i hi;rw[qv]at hf;simpa using hf i (qZ.2 hi)
   |some i =>
    rw[hf]at h;have h:jbg g i=0:=h;rw[qm]at hf;obtain⟨hlt,hp,_⟩:=hf;simp only[yS]at hp;rw[h]at hp;exact absurd hp (by decide)
def jz8 {n:Nat} (h:n<1000):(0:Int)<=(n:Int)∧(n:Int)=(n:Int)∧((1:Nat):Int)*(n:Int)<=281474976710656∧(n:Int)<=9223372036854775807:=by
 omega
def jBA {g:List (List NC)} (hw:Fw g) {nm:ByteArray} (hs:nm.size<1000) (h:(cg nm g).2=0):jb1 nm g=match jdF (jbx g) g.length []with|some _=>none|none=>some 19:=by
 unfold jb1;rw[jso hw hs,jaa,if_neg (by rw[h];simp),if_pos (jz8 hw.n),zg,jva hw (jrv h),jaa];cases jdF (jbx g) g.length []<;>rfl
def jBB {g:List (List NC)} (hw:Fw g) {nm:ByteArray} (hs:nm.size<1000) (h:(cg nm g).2=0) {l:List Int} (hl:jdF (jbx g) g.length []=some l):jbD nm g=some (nm,l,0):=by
 unfold jbD;rw[show jfe=jcf from rfl];rw[jso hw hs,jaa,if_neg (by rw[h];simp),if_pos (jz8 hw.n),zg,jva hw (jrv h),jaa,hl];rfl
def jws {g:List (List NC)} (hw:Fw g) {nm:ByteArray} (hs:nm.size<1000):jq3 nm g=some (if(cg nm g).2≠0 then(cg nm g).2 else match jdF (jbx g) g.length []with|some _=>0|none=>19):=by
 unfold jq3;rw[jzX hw hs,jaa]
 by_cases h:(cg nm g).2=0
 ·rw[if_neg (by rw[h];simp),if_neg (fun hn=>hn h),jz6 hw,jaa];cases jdF (jbx g) g.length []<;>rfl
 ·rw[if_pos (bne_iff_ne.2 h),if_pos h]
end Go.Sh
end

section
namespace Go.Sx
open Ieee Go.Fl
def mg (K m:Nat) (e:Int):Nat:=m*2^(e+K).toNat
def sg (s:Bool) (a:Nat):Int:=if s then -(a:Int)else(a:Int)
def jlZ (s:Bool) (m k:Nat):signed s m k=sg s (m*2^k):=by
 unfold signed sg;rw[jB]
def jiW (s:Bool) (a b:Nat):sg s (a*b)=sg s a*(b:Int):=by
 unfold sg;cases s<;>simp[Int.neg_mul]
def jwt {a b:Int} {c:Nat} (hc:0<c):compare (a*(c:Int)) (b*(c:Int))=compare a b:=by
 have hc':(0:Int)<(c:Int):=by omega
 rcases Int.lt_trichotomy a b with h|h|h
 ·have h1:a*(c:Int)<b*(c:Int):=Int.mul_lt_mul_of_pos_right h hc';rw[Int.compare_eq_lt.2 h1,Int.compare_eq_lt.2 h]
 ·subst h;rw[Int.compare_eq_eq.2 rfl,Int.compare_eq_eq.2 rfl]
 ·have h1:b*(c:Int)<a*(c:Int):=Int.mul_lt_mul_of_pos_right h hc';rw[Int.compare_eq_gt.2 h1,Int.compare_eq_gt.2 h]
def jcx (K:Nat) {s t:Bool} {m n:Nat} {i j:Int} (hi:0<=i+K) (hj:0<=j+K) :
  Datum.order (.number s m i) (.number t n j)=some (compare (sg s (mg K m i)) (sg t (mg K n j))):=by
 simp only[Datum.order,jlZ]
 have key:∀(x:Int) (m:Nat),min i j<=x->0<=x+K->mg K m x=m*2^(x-min i j).toNat*2^(min i j+K).toNat:=by
  intro x m h1 h2;unfold mg;rw[ym,<-yO]
  congr 2
  omega
 rw[key i m (by omega) hi,key j n (by omega) hj,jiW s (m*_),jiW t (n*_),jwt (yy _)]
def jBC {s:Bool} {m:Nat} {i:Int}:Datum.sum (.number s m i) (Datum.opposite (.number s m i))=some (.number false 0 i):=by
 simp only[Datum.opposite,Datum.sum,Int.min_self,Int.sub_self,Int.toNat_zero,jlZ];cases s<;>simp[sg]<;>omega
def jvb (s:Bool) (n drop:Nat):Toward.cut .zero s n drop=n/2^drop:=by
 have h1:(n/(1 <<< min drop (n.log2+2)))=n/2^drop:=by
  rw[jB,Nat.one_mul]
  by_cases h:drop<=n.log2+2
  ·rw[yv h]
  ·rw[Nat.min_eq_right (by omega)];have h2:n<2^(n.log2+1):=gX;have h3:2^(n.log2+1)<=2^(n.log2+2):=Nat.pow_le_pow_right (by omega) (by omega);have h4:2^(n.log2+2)<=2^drop:=Nat.pow_le_pow_right (by omega) (by omega);rw[gi (by omega),gi (by omega)]
 simp[Toward.cut,h1]
def jvc (K:Nat) {s:Bool} {m:Nat} {i:Int} (hi:0<=i+K):Datum.toInt .zero (.number s m i)=some (sg s (mg K m i/2^K)):=by
 simp only[Datum.toInt,Datum.integral,jlZ,Nat.pow_zero,jg,jvb,jB]
 congr 2
 unfold mg
 by_cases h:0<=i
 ·have e1:(-i).toNat=0:=by omega
  have e2:(i+K).toNat=i.toNat+K:=by omega
  rw[e1,e2,yO,Nat.pow_zero,Nat.div_one,<-ym,Nat.mul_div_cancel _ (yy K)]
 ·have e1:i.toNat=0:=by omega
  have e2:K=(i+K).toNat+(-i).toNat:=by omega
  rw[e1,Nat.pow_zero,jg]
  conv=>rhs;rhs;rw[e2,yO]
  rw[xI m,Nat.mul_div_mul_left _ _ (yy _)]
def jCM {s:Bool} {m:Nat} (hm0:m≠0) (hm:m<16777216) :
  single.read (single.write (.number s m 0))=.number s (m*2^(23-m.log2)) ((m.log2:Int)-23)∧m.log2<=23:=by
 have hl:m.log2<=23:=by
  have:=(fv hm0 (k:=24)).2 (by omega);omega
 refine⟨?_,hl⟩;have hlo:2^m.log2<=m:=Nat.log2_self_le hm0;have hhi:m<2^(m.log2+1):=gX;have hp:2^m.log2*2^(23-m.log2)=8388608:=by rw[<-yO,Nat.add_sub_cancel' hl]
 have h1:8388608<=m*2^(23-m.log2):=by rw[<-hp];exact qb _ hlo
 have h2:m*2^(23-m.log2)<16777216:=by
  have h3:m*2^(23-m.log2)<2^(m.log2+1)*2^(23-m.log2):=yM hhi (yy _);have h4:2^(m.log2+1)*2^(23-m.log2)=16777216:=by rw[fS,ym,xI 2,<-ym,hp]
  omega
 have e1:single.signWeight=2147483648:=rfl;have e2:single.binade=8388608:=rfl;have e3:single.infRung=2139095040:=rfl;have e4:single.leastPlace=-149:=rfl;have e5:single.fractionBits=23:=rfl
 have hw:single.write (.number s m 0)=single.word s ((m.log2+126)*8388608+m*2^(23-m.log2)):=by
  simp only[Format.write,Format.nearest,if_neg hm0,e2,e3,e4,e5];have hlast:max ((0:Int)+(m.log2:Int)-(23:Nat)) (-149)=(m.log2:Int)-23:=by omega
  rw[hlast];have ha:((0:Int)-((m.log2:Int)-23)).toNat=23-m.log2:=by omega
  have hb:(((m.log2:Int)-23)-0).toNat=0:=by omega
  rw[ha,hb,juc _ _ _ rfl,jB];have hc:((m.log2:Int)-23 - -149).toNat=m.log2+126:=by omega
  rw[hc,yv (by omega)]
 rw[hw]
 generalize m*2^(23-m.log2)=k at *
 generalize m.log2=q at *
 have hrd:∀r,8388608<=r->r<2139095040->single.read (single.word s r)=.number s (8388608+r%8388608) (-149+(r/8388608-1:Nat)):=by
  intro r h1 h2;unfold Format.read Format.word;simp only[e1,e2,e3,e4];cases s
  ·simp only[z3,if_false];have ha:r%2147483648=r:=Nat.mod_eq_of_lt (by omega);have hb:r/2147483648=0:=gi (by omega);rw[ha,hb,if_neg (by omega),if_pos h2];rfl
  ·simp only[if_true];have ha:(2147483648+r)%2147483648=r:=by omega
   have hb:(2147483648+r)/2147483648=1:=by omega
   rw[ha,hb,if_neg (by omega),if_pos h2];rfl
 rw[hrd _ (by omega) (by omega)];have ha:8388608+((q+126)*8388608+k)%8388608=k:=by omega
 have hb:((q+126)*8388608+k)/8388608-1=q+126:=by omega
 have hc:(-149:Int)+((q+126:Nat):Int)=(q:Int)-23:=by omega
 rw[ha,hb,hc]
def jz9 (K:Nat) (hK:149<=K) {n:Int} (hn:-16777216<n∧n<16777216) :
  ∃m e,qM .f32 (qw .f32 n)=.number (decide (n<0)) m e∧mg K m e=n.natAbs*2^K∧-149<=e:=by
 unfold qM qw jw FloatKind.format
 by_cases h0:n.natAbs=0
 ·rw[h0];have:n=0:=by omega
  subst this;exact⟨0,-149,by rfl,by simp[mg],by omega⟩
 ·obtain⟨h1,h2⟩:=jCM (s:=decide (n<0)) h0 (by omega);refine⟨_,_,h1,?_,by omega⟩;unfold mg;have e1:((n.natAbs.log2:Int)-23+K).toNat=K-(23-n.natAbs.log2):=by omega
  rw[e1,ym,<-yO]
  congr 2
  omega
def jl0 (n:Int):sg (decide (n<0)) n.natAbs=n:=by
 unfold sg
 by_cases h:n<0
 ·simp[h];omega
 ·simp[h];omega
def jvd {n:Int} (hn:-16777216<n∧n<16777216):f2i .f32 (qw .f32 n)=n∧jbR .f32 .i64 (qw .f32 n)=true:=by
 obtain⟨m,e,h1,h2,h3⟩:=jz9 149 (by omega) hn
 have ht:Datum.toInt .zero (qM .f32 (qw .f32 n))=some n:=by
  rw[h1,jvc 149 (by omega),h2,Nat.mul_div_cancel _ (yy _),jl0]
 unfold f2i jbR;rw[ht];refine⟨rfl,?_⟩;have e1:qP.min=-9223372036854775808:=rfl;have e2:qP.max=9223372036854775807:=rfl;simp only[e1,e2,decide_eq_true_eq];omega
end Go.Sx
namespace Go.Sh
open Go Go.Proofs Go.RowKit Go.Sx Ieee Go.Fl
open Go.IntKind (wrap)
def jan {α:Type} {l:List α} {x:Nat} {d:α} (hx:x<l.length):l.getD x d=l[x]:=by simp[zb,hx]
def jdv {α:Type} {l:List α} {x:Nat} (hx:x<l.length) (d:α):l.take (x+1)=l.take x++[l.getD x d]:=by
 rw[List.take_succ_eq_append_getElem hx,jan hx]
def KK:Nat:=1100
def PP:Nat:=2^KK
def jfu:0<PP:=yy _
def jqb (a b:Int):(some (compare a b)==some Ordering.eq)=decide (a=b):=by
 rcases Int.lt_trichotomy a b with h|h|h
 ·rw[Int.compare_eq_lt.2 h,decide_eq_false (by omega)];rfl
 ·rw[Int.compare_eq_eq.2 h,decide_eq_true h];rfl
 ·rw[Int.compare_eq_gt.2 h,decide_eq_false (by omega)];rfl
def jve (a b:Int):(some (compare a b)==some Ordering.lt)=decide (a<b):=by
 rcases Int.lt_trichotomy a b with h|h|h
 ·rw[Int.compare_eq_lt.2 h,decide_eq_true h];rfl
 ·rw[Int.compare_eq_eq.2 h,decide_eq_false (by omega)];rfl
 ·rw[Int.compare_eq_gt.2 h,decide_eq_false (by omega)];rfl
def jvf (a b:Int):(some (compare a b)==some Ordering.gt)=decide (b<a):=by
 rcases Int.lt_trichotomy a b with h|h|h
 ·rw[Int.compare_eq_lt.2 h,decide_eq_false (by omega)];rfl
 ·rw[Int.compare_eq_eq.2 h,decide_eq_false (by omega)];rfl
 ·rw[Int.compare_eq_gt.2 h,decide_eq_true h];rfl
def seD:Datum->Int| .number _ m e=>if 16777216*PP<=mg KK m e then 2 else if mg KK m e/PP*PP≠mg KK m e then 27 else if mg KK m e/PP<=32767 then 0 else 2|_=>27
def se (b:Nat):Int:=seD (qM .f32 b)
def jqc (m e:Nat):mg KK m (e:Int)=m*2^e*PP:=by
 unfold mg PP;rw[ym,<-yO]
 congr 2
def jgH (a:Nat):sg false a=(a:Int):=rfl
def jjV (a:Nat):sg true a=-(a:Int):=rfl
def jvg {s:Bool} {m:Nat} {i:Int} (hi:0<=i+KK):Datum.toInt .zero (.number s m i)=some (sg s (mg KK m i/PP)):=jvc KK hi
def jxm {n:Int} (hn:-16777216<n∧n<16777216):∃m e,qM .f32 (qw .f32 n)=.number (decide (n<0)) m e∧mg KK m e=n.natAbs*PP∧-149<=e:=jz9 KK (by unfold KK;omega) hn
def jCo:mg KK 8388608 1=16777216*PP:=by
 have:=jqc 8388608 1;rw[show(8388608*2^1:Nat)=16777216 from rfl]at this;exact this
def jCp:mg KK 5000000000000000 1=10000000000000000*PP:=by
 have:=jqc 5000000000000000 1;rw[show(5000000000000000*2^1:Nat)=10000000000000000 from rfl]at this;exact this
def jqd:PP=2^KK:=rfl
attribute [irreducible] PP
def sub_self (f:Format) {b:Nat} {s:Bool} {m:Nat} {e:Int} (h:f.read b=.number s m e):f.sub b b=some 0:=by
 unfold Format.sub;rw[h,jBC];simp[Format.write,Format.nearest,Format.word]
def jxn (f:Format) {b:Nat} {s:Bool} (h:f.read b=.infinity s):f.sub b b=none:=by
 unfold Format.sub;rw[h];cases s<;>rfl
def jkm (b:Nat):joF b=some (se b):=by
 have hz:Format.order single 0 0=some .eq:=by decide
 unfold joF se qM;simp only[show FloatKind.format .f32=single from rfl];rcases read32 b with ⟨s,m,e,h,hm,he1,he2⟩|⟨s,h⟩|⟨s,t,h⟩
 ·have h1:single.order b b=some .eq:=by
   unfold Format.order;rw[h,jcx KK (by unfold KK;omega) (by unfold KK;omega),Int.compare_eq_eq.2 rfl]
  have hA:single.order b 1266679808=some (compare (sg s (mg KK m e)) ((16777216*PP:Nat):Int)):=by
   unfold Format.order;have hc:single.read 1266679808=.number false 8388608 1:=by decide
   rw[h,hc,jcx KK (by unfold KK;omega) (by unfold KK;omega)];rw[jCo]
   first|rw[jgH]|rw[jjV]
  have hB:single.order b 3414163456=some (compare (sg s (mg KK m e)) (-((16777216*PP:Nat):Int))):=by
   unfold Format.order;have hc:single.read 3414163456=.number true 8388608 1:=by decide
   rw[h,hc,jcx KK (by unfold KK;omega) (by unfold KK;omega)];rw[jCo]
   first|rw[jgH]|rw[jjV]
  have hT:Datum.toInt .zero (qM .f32 b)=some (sg s (mg KK m e/PP)):=by
   unfold qM;simp only[show FloatKind.format .f32=single from rfl];rw[h,jvg (by unfold KK;omega)]
  rw[h1,sub_self single h,hA,hB];simp only[Option.isSome_some,z9,hz,if_true,bne_self_eq_false,z3,if_false,jvf,jqb,jve,h,seD]
  generalize hg:mg KK m e=A at *
  have hP:=jfu;have hdm:=yu A PP;rw[xI]at hdm;have hml:=ya A hP;have hq:f2i .f32 b=sg s (A/PP):=by unfold f2i;rw[hT];rfl
  by_cases hbig:16777216*PP<=A
  ·rw[if_pos hbig];cases s
   ·rw[if_pos];simp only[sg,z3,if_false,qU,decide_eq_true_eq];omega
   ·rw[if_neg,if_pos]
    ·simp only[sg,if_true,qU,decide_eq_true_eq];omega
    ·simp only[sg,if_true,qU,decide_eq_true_eq];omega
  ·rw[if_neg hbig];have hd:A/PP<16777216:=(Nat.div_lt_iff_lt_mul hP).2 (by omega)
   generalize A/PP=Q at *
   generalize A%PP=R at *
   generalize hQP:Q*PP=QP at *
   have hn:-16777216<sg s Q∧sg s Q<16777216:=by cases s<;>simp only[sg,z3,if_false,if_true]<;>omega
   have hok:jbR .f32 .i64 b=true:=by
    unfold jbR;rw[hT];have e1:qP.min=-9223372036854775808:=rfl;have e2:qP.max=9223372036854775807:=rfl;simp only[e1,e2,decide_eq_true_eq];omega
   rw[if_neg,if_neg,if_pos hok]
   ·obtain⟨m',e',h3,h4,h5⟩:=jxm hn
    have hC:single.order (qw .f32 (f2i .f32 b)) b=some (compare (sg s Q*(PP:Int)) (sg s A)):=by
     unfold Format.order;have h3':single.read (qw .f32 (f2i .f32 b))=.number (decide (sg s Q<0)) m' e':=by rw[hq];exact h3
     rw[h3',h,jcx KK (by unfold KK;omega) (by unfold KK;omega),h4,hg,jiW,jl0]
    rw[hC]
    have hne:(some (compare (sg s Q*(PP:Int)) (sg s A))!=some Ordering.eq)=decide (QP≠A):=by
     rw[bne,jqb]
     have:(sg s Q*(PP:Int)=sg s A)<->QP=A:=by
      rw[<-jiW,hQP];cases s<;>simp only[sg,z3,if_false,if_true]<;>omega
     by_cases hw:QP=A
     ·rw[decide_eq_true (this.2 hw),decide_eq_false (by omega)];rfl
     ·rw[decide_eq_false (fun h=>hw (this.1 h)),decide_eq_true hw];rfl
    rw[hne,hq]
    by_cases hw:QP=A
    ·rw[decide_eq_false (show ¬(QP≠A) by omega),if_neg qB,if_neg (show ¬(QP≠A) by omega)];rw[if_pos hok]
     have hb:(decide (-32767<=sg s Q)&&decide (sg s Q<=32767))=decide (Q<=32767):=by
      rw[yV,zk,decide_eq_true_eq,decide_eq_true_eq,decide_eq_true_eq];cases s<;>simp only[sg,z3,if_false,if_true]<;>omega
     unfold jc9 jds;rw[show wrap qP ((0:Int)-32767)=-32767 from by rw[jai (by omega)];rfl,jnX];unfold inB;simp only[Option.bind_some,hb,decide_eq_true_eq];split<;>rfl
    ·rw[decide_eq_true (show QP≠A from hw),if_pos rfl,if_pos hw]
   ·cases s<;>simp only[sg,z3,if_false,if_true,qU,decide_eq_true_eq]<;>omega
   ·cases s<;>simp only[sg,z3,if_false,if_true,qU,decide_eq_true_eq]<;>omega
 ·have h1:single.order b b=some .eq:=by
   unfold Format.order;rw[h];cases s<;>rfl
  rw[h1,jxn single h,h];rfl
 ·have h1:single.order b b=none:=by
   unfold Format.order;rw[h];rfl
  rw[h1,h];rfl
def ja7 (l:List Nat):Int:=match l.findIdx? (fun b=>se b != 0)with|some i=>se (l.getD i 0)|none=>0
def jss {l:List Nat} (h:ja7 l=0):∀b∈l,se b=0:=by
 intro b hb;unfold ja7 at h;cases hf:l.findIdx? (fun b=>se b != 0)with
 |none =>
  rw[qv]at hf;simpa using hf b hb
 |some i =>
  rw[hf]at h;rw[qm]at hf;obtain⟨hk,hp,_⟩:=hf;have h:se (l.getD i 0)=0:=h;rw[show l.getD i 0=l[i] by simp[zb,hk]]at h;simp[h]at hp
def jrw {l:List Nat} (h:∀b∈l,se b=0):ja7 l=0:=by
 unfold ja7
 have:l.findIdx? (fun b=>se b != 0)=none:=by
  rw[qv];intro b hb;simp[h b hb]
 rw[this]
def jiX {l:List Nat} (hl:l.length<1000000000000):y72 l=some (ja7 l):=by
 unfold y72 ja7
 have h:=jaN l 0 (fun b=>se b != 0) (body:=jrl l) (fun i=>.inl (se (l.getD i 0))) (.inr ()) (by omega)
  (fun i hi hp=>by
   unfold jrl;rw[if_pos (by omega),if_pos (by omega),if_pos (by omega),zg,jkm,jaa,if_pos hp])
  (fun i hi hp=>by
   unfold jrl;rw[if_pos (by omega),if_pos (by omega),if_pos (by omega),zg,jkm,jaa,if_neg (by rw[hp];simp),jai (by omega)])
  (by unfold jrl;rw[if_neg (by omega)])
 rw[h];cases l.findIdx? (fun b=>se b != 0)<;>rfl
def jiY {l:List Nat} (hl:l.length<1000000000000):jlM l=some (ja7 l):=(by kernel_rfl:jlM l=y72 l).trans (jiX hl)
def inR (x:Int):Prop:=-32767<=x∧x<=32767
instance (x : Int) : Decidable (inR x) := by unfold inR; infer_instance
def nf (n:Int):Nat:=qw .f32 n
def fi (b:Nat):Int:=f2i .f32 b
def je1 {α U:Type} (l:List α) (d:α) (f:α->U) {body:Int × List U->Option ((Int × List U) ⊕ List U)} (hlen:l.length<1000000000000)
  (h1:∀i,i<l.length->∀o:List U,o.length=i->body ((i:Int),o)=some (.inl ((i:Int)+1,o++[f (l.getD i d)])))
  (h2:∀o,body ((l.length:Int),o)=some (.inr o)):jae body big (0,[])=some (l.map f):=by
 refine jat (fun i=>((i:Int),(l.take i).map f)) (k:=l.length) (fun i hi=>?_) ?_ (by omega)
 ·have:=h1 i hi ((l.take i).map f) (by simp;omega);rw[this,jdv hi d];simp
 ·rw[yk];exact h2 _
def je2 {b:Nat} (h:se b=0):jbR .f32 .i64 b=true∧inR (fi b):=by
 unfold se at h;unfold fi f2i jbR;rcases Fl.read32 b with ⟨s,m,e,hd,hm,he1,he2⟩|⟨s,hd⟩|⟨s,t,hd⟩
 ·have hdec:qM .f32 b=.number s m e:=hd;rw[hdec]at h ⊢;rw[jvg (by unfold KK;omega)];unfold seD at h
  have h3:mg KK m e/PP<=32767:=by
   dsimp only at h;split at h
   ·omega
   ·split at h
    ·omega
    ·split at h
     ·assumption
     ·omega
  clear h
  generalize mg KK m e/PP=Q at *
  have e1:qP.min=-9223372036854775808:=rfl;have e2:qP.max=9223372036854775807:=rfl;simp only[e1,e2,decide_eq_true_eq,z9,inR];cases s<;>simp only[sg,z3,if_false,if_true]<;>omega
 ·have hdec:qM .f32 b=.infinity s:=hd;rw[hdec]at h;simp[seD]at h
 ·have hdec:qM .f32 b=.nan s t:=hd;rw[hdec]at h;simp[seD]at h
def jCq {n:Int} (hn:-16777216<n∧n<16777216):fi (nf n)=n:=(jvd hn).1
def jyG {n:Int} (hn:-16777216<n∧n<16777216):se (nf n)=if inR n then 0 else 2:=by
 obtain⟨m,e,h1,h2,h3⟩:=jxm hn;unfold se nf;rw[h1];unfold seD;dsimp only
 rw[h2,Nat.mul_div_cancel _ jfu,if_neg (by
  intro h;have:=Nat.le_of_mul_le_mul_right h jfu;omega),if_neg (by omega)]
 by_cases h:n.natAbs<=32767
 ·rw[if_pos h,if_pos (show inR n by unfold inR;omega)]
 ·rw[if_neg h,if_neg (show ¬inR n by unfold inR;omega)]
end Go.Sh
end

section
namespace Go.Sh
open Go Go.Proofs Go.RowKit Go.Sx Ieee Go.Fl
def jvh (u:List Int) (x:Int):Int:=(2*(u.getD 0 0*x+u.getD 1 0*u.getD 5 0+u.getD 2 0*u.getD 6 0-u.getD 3 0*u.getD 7 0-u.getD 4 0*u.getD 8 0)+16384)/32768
def jfC (u:List Int) (x:Int):Int:=max (-32767) (min 32767 (jvh u x))
def jvi (u:List Int) (x:Int):List Int:=[u.getD 0 0,u.getD 1 0,u.getD 2 0,u.getD 3 0,u.getD 4 0,x,u.getD 5 0,jfC u x,u.getD 7 0,u.getD 9 0+if jfC u x=jvh u x then 0 else 1]
def okFu (u:List Int):Prop:=u.length=10∧(∀j,j<5->-32768<=u.getD j 0∧u.getD j 0<=32768)∧(∀j,5<=j->j<9->-32767<=u.getD j 0∧u.getD j 0<=32767)∧0<=u.getD 9 0∧u.getD 9 0<=1000000000
def jrx {x y a b:Int} (ha:0<=a) (hb:0<=b) (hx:-a<=x∧x<=a) (hy:-b<=y∧y<=b):-(a*b)<=x*y∧x*y<=a*b:=by
 have h1:(x*y).natAbs<=a.natAbs*b.natAbs:=by
  rw[Int.natAbs_mul];exact Nat.mul_le_mul (by omega) (by omega)
 have h2:a*b=((a.natAbs*b.natAbs:Nat):Int):=by
  rw[Int.natCast_mul];have e1:(a.natAbs:Int)=a:=by omega
  have e2:(b.natAbs:Int)=b:=by omega
  rw[e1,e2]
 rw[h2];omega
def mkU (r s:List Int):List Int:=[r.getD 0 0,r.getD 1 0,r.getD 2 0,r.getD 3 0,r.getD 4 0,s.getD 0 0,s.getD 1 0,s.getD 2 0,s.getD 3 0,0]
def jbs (c s:List (List Int)) (k:Nat):List (List Int):=(zm k).map fun i=>mkU (c.getD i []) (s.getD i [])
def jAa (c s:List (List Int)) (k:Nat):jbs c s (k+1)=jbs c s k++[mkU (c.getD k []) (s.getD k [])]:=by simp[jbs,x8]
def jh9 (c s:List (List Int)) (k:Nat):(jbs c s k).length=k:=by simp[jbs]
def jbH:List (List Int)->Int->List (List Int)|[],_=>[]|u::us,x=>jvi u x::jbH us (jfC u x)
def jde:List (List Int)->Int->Int|[],x=>x|u::us,x=>jde us (jfC u x)
def jgI:∀(us:List (List Int)) (x:Int),(jbH us x).length=us.length
 |[],_=>rfl
 |u::us,x=>by simp[jbH,jgI us]
def jqe:∀(us:List (List Int)) (u:List Int) (x:Int),jbH (us++[u]) x=jbH us x++[jvi u (jde us x)]∧jde (us++[u]) x=jfC u (jde us x)
 |[],_,_=>⟨rfl,rfl⟩
 |v::us,u,x=>by
  have:=jqe us u (jfC v x);simp only[qq,jbH,jde,this,and_self]
def jey (u:List Int) (x:Int):-32767<=jfC u x∧jfC u x<=32767:=by unfold jfC;omega
def jia:∀(us:List (List Int)) {x:Int},-32767<=x->x<=32767->-32767<=jde us x∧jde us x<=32767|[],_,h1,h2=>⟨h1,h2⟩|u::us,x,_,_=>jia us (jey u x).1 (jey u x).2
def jjW (k:Int) (u:List Int):Prop:=u.length=10∧(∀j,j<5->-32768<=u.getD j 0∧u.getD j 0<=32768)∧(∀j,5<=j->j<9->-32767<=u.getD j 0∧u.getD j 0<=32767)∧0<=u.getD 9 0∧u.getD 9 0<=k
def jBE {k:Int} {u:List Int} {x:Int} (h:jjW k u) (h1:-32767<=x) (h2:x<=32767):jjW (k+1) (jvi u x):=by
 obtain⟨hl,hc,hs,h0,h9⟩:=h;have hr:=jey u x;refine⟨rfl,fun j hj=>?_,fun j hj hj2=>?_,?_,?_⟩
 ·match j,hj with
  |0,_=>exact hc 0 (by decide)
  |1,_=>exact hc 1 (by decide)
  |2,_=>exact hc 2 (by decide)
  |3,_=>exact hc 3 (by decide)
  |4,_=>exact hc 4 (by decide)
 ·match j,hj,hj2 with
  |5,_,_=>exact⟨h1,h2⟩
  |6,_,_=>exact hs 5 (by decide) (by decide)
  |7,_,_=>exact hr
  |8,_,_=>exact hs 7 (by decide) (by decide)
 ·show 0<=u.getD 9 0+_
  split<;>omega
 ·show u.getD 9 0+_<=k+1
  split<;>omega
def jst:∀{us:List (List Int)} {x:Int} {u:List Int},-32767<=x->x<=32767->u∈jbH us x->∃v∈us,∃y,-32767<=y∧y<=32767∧u=jvi v y
 |[],_,_,_,_,h=>by cases h
 |v::us,x,u,h1,h2,h=>by
  rcases qr.1 h with rfl|h
  ·exact⟨v,zw,x,h1,h2,rfl⟩
  ·obtain⟨v',hv,y,r⟩:=jst (jey v x).1 (jey v x).2 h;exact⟨v',zu _ hv,y,r⟩
def jvj {k:Int} {u:List Int} (h:jjW k u) (hk:k<=1000000000):okFu u:=⟨h.1,h.2.1,h.2.2.1,h.2.2.2.1,Int.le_trans h.2.2.2.2 hk⟩
def jb2:List (List Int)->List Int->List (List Int)|us,[]=>us|us,x::l=>jb2 (jbH us x) l
def jb9:List (List Int)->List Int->List Int|_,[]=>[]|us,x::l=>jde us x::jb9 (jbH us x) l
def jbc:List (List Int)->Int|[]=>0|u::us=>u.getD 9 0+jbc us
def jgJ:∀a b:List (List Int),jbc (a++b)=jbc a+jbc b
 |[],b=>by simp[jbc]
 |u::a,b=>by simp only[qq,jbc,jgJ a b];omega
def jnY:∀(us:List (List Int)) (a b:List Int),jb2 us (a++b)=jb2 (jb2 us a) b|_,[],_=>rfl|us,x::a,b=>jnY (jbH us x) a b
def jl1:∀(us:List (List Int)) (a b:List Int),jb9 us (a++b)=jb9 us a++jb9 (jb2 us a) b
 |_,[],_=>rfl
 |us,x::a,b=>by simp only[qq,jb9,jb2,jl1 (jbH us x) a b]
def jgK:∀(us:List (List Int)) (l:List Int),(jb9 us l).length=l.length
 |_,[]=>rfl
 |us,x::l=>by simp[jb9,jgK (jbH us x) l]
def jdJ:∀(us:List (List Int)) (l:List Int),(jb2 us l).length=us.length
 |_,[]=>rfl
 |us,x::l=>by simp[jb2,jdJ (jbH us x) l,jgI]
def jAb {us:List (List Int)} {l:List Int} {i:Nat} (hi:i<l.length):jb2 us (l.take (i+1))=jbH (jb2 us (l.take i)) (l.getD i 0) ∧
  jb9 us (l.take (i+1))=jb9 us (l.take i)++[jde (jb2 us (l.take i)) (l.getD i 0)]:=by
 rw[jdv hi 0,jnY,jl1];exact⟨rfl,rfl⟩
def jnZ:∀{us:List (List Int)} {l:List Int},(∀x∈l,inR x)->∀y∈jb9 us l,inR y
 |_,[],_,y,hy=>by cases hy
 |us,x::l,h,y,hy=>by
  rcases qr.1 hy with rfl|hy
  ·exact jia us (h x zw).1 (h x zw).2
  ·exact jnZ (fun x hx=>h x (zu _ hx)) y hy
def jmS:∀{us:List (List Int)} {l:List Int} {k:Int},(∀u∈us,jjW k u)->(∀x∈l,inR x)->∀u∈jb2 us l,jjW (k+l.length) u
 |us,[],k,h,_,u,hu=>by simpa using h u hu
 |us,x::l,k,h,hx,u,hu=>by
  have hr:=hx x zw
  have h1:∀v∈jbH us x,jjW (k+1) v:=fun v hv=>by
   obtain⟨w,hw,y,hy1,hy2,rfl⟩:=jst hr.1 hr.2 hv;exact jBE (h w hw) hy1 hy2
  have:=jmS h1 (fun x hx'=>hx x (zu _ hx')) u hu;rw[show k+((x::l).length:Int)=k+1+(l.length:Int) by simp;omega];exact this
def jCN {us:List (List Int)} (hl:us.length<=100000) (h:∀u∈us,0<=u.getD 9 0∧u.getD 9 0<=1000000000):jlP us=some (jbc us):=by
 unfold jlP
 have hb:∀i,i<=us.length->0<=jbc (us.take i)∧jbc (us.take i)<=i*1000000000:=by
  intro i
  induction i with
  |zero=>intro _;simp[jbc]
  |succ i ih =>
   intro hi;have:=ih (by omega);have hu:=h (us.getD i []) (by rw[jan (by omega)];exact zW _);rw[jdv (by omega) [],jgJ];have e:jbc [us.getD i []]=(us.getD i []).getD 9 0:=by simp[jbc]
   rw[e]
   push_cast
   omega
 have hit:jae (jrq us) big (0,0)=some (jbc us):=jat (body:=jrq us) (fun i=>(jbc (us.take i),(i:Int))) (y:=jbc us) (k:=us.length) (fun i hi=>by
  have h1:=hb i (by omega);have hu:=h (us.getD i []) (by rw[jan hi];exact zW hi);unfold jrq;dsimp only;rw[if_pos (by omega),if_pos (by omega),if_pos (by omega),zg,jai (by omega),jai (by omega),jdv hi [],jgJ];have e:jbc [us.getD i []]=(us.getD i []).getD 9 0:=by simp[jbc]
  rw[e];rfl) (by unfold jrq;dsimp only;rw[if_neg (by omega),yk]) (by omega)
 rw[hit];rfl
def stU (u:List Int):List Int:=[u.getD 5 0,u.getD 6 0,u.getD 7 0,u.getD 8 0]
def jAc {us:List (List Int)} (hl:us.length<=100000):y67 us=some (us.map stU):=by
 unfold y67
 rw[je1 us [] stU (body:=juU us) (by omega) (fun i hi o ho=>by
  unfold juU;dsimp only;rw[if_pos (by omega),if_pos (by omega),if_pos (by omega),zg,if_pos (by simp only[zB,qe];omega),jai (by omega)];rfl) (fun o=>by unfold juU;dsimp only;rw[if_neg (by omega)])]
 rfl
def jfD (r:List Int):Bool:=!(decide (inR (r.getD 0 0))&&decide (inR (r.getD 1 0))&&decide (inR (r.getD 2 0))&&decide (inR (r.getD 3 0)))
def csS (c s:List (List Int)):Int × Int:=if s.length≠c.length then(0,10)else match s.findIdx? jfD with|some i=>((i:Int),2)|none=>(0,0)
def jyH (x:Int):(decide ((-32767:Int)<=x)&&decide (x<=(32767:Int)))=decide (inR x):=by
 rw[yV,zk,decide_eq_true_eq,decide_eq_true_eq,decide_eq_true_eq];rfl
end Go.Sh
end

section
namespace Go.Sx06
def jn0 {n b:Int} (hb:0<b):(0<=n->0<=n.tdiv b∧n.tdiv b<=n)∧(n<=0->n<=n.tdiv b∧n.tdiv b<=0):=by
 constructor
 ·intro hn;rw[Int.tdiv_eq_ediv_of_nonneg hn];exact⟨Int.ediv_nonneg hn (by omega),Int.ediv_le_self b hn⟩
 ·intro hn;have h1:n=-(-n):=by omega
  rw[h1,Int.neg_tdiv,Int.tdiv_eq_ediv_of_nonneg (by omega:0<=-n)];have h2:=Int.ediv_nonneg (by omega:0<=-n) (by omega:0<=b);have h3:=Int.ediv_le_self b (by omega:0<=-n);omega
def jn1 {n b:Int} (hb:0<b):-b<n.tmod b∧n.tmod b<b:=by
 refine⟨?_,Int.tmod_lt_of_pos n hb⟩;have h:=Int.tmod_lt_of_pos (-n) hb;rw[Int.neg_tmod]at h;omega
def jsu {n b:Int} (hb:0<b) (h:n.tmod b<0):n.tdiv b-1=n/b:=by
 have h1:=Int.tmod_add_mul_tdiv n b;have h2:=jn1 (n:=n) hb
 have h3:n/b=(n.tdiv b-1):=by
  apply (Int.ediv_eq_iff_of_pos hb).2;rw[Int.mul_comm]at h1;constructor<;>rw[Int.sub_mul]<;>omega
 exact h3.symm
def jsv {n b:Int} (hb:0<b) (h:¬n.tmod b<0):n.tdiv b=n/b:=by
 have h1:=Int.tmod_add_mul_tdiv n b;have h2:=jn1 (n:=n) hb
 have h3:n/b=n.tdiv b:=by
  apply (Int.ediv_eq_iff_of_pos hb).2;rw[Int.mul_comm]at h1;constructor<;>omega
 exact h3.symm
end Go.Sx06
end

section
namespace Go.Sh
open Go Go.Proofs Go.RowKit Go.Sx Go.Sx06 Ieee Go.Fl
open Go.IntKind (wrap)
def jCr (a b:Int):jdB [a,b]=some (if a≠0 then a else b):=by
 unfold jdB
 rw[jaN [a,b] 0 (fun x=>x != 0) (body:=jrb [a,b]) (fun i=>.inl ([a,b].getD i 0)) (.inr ()) (by simp) (fun i hi hp=>by
  unfold jrb;rw[if_pos (by omega),if_pos (by omega),if_pos (by omega),zg,if_pos hp]) (fun i hi hp=>by
  unfold jrb;rw[if_pos (by omega),if_pos (by omega),if_pos (by omega),zg,if_neg (by rw[hp];simp),jai (by simp at hi;omega)]) (by
  unfold jrb;rw[if_neg (by omega)])]
 by_cases ha:a=0
 ·by_cases hb:b=0
  ·simp[ha,hb,xX,jew,jlD]
  ·simp[ha,hb,xX,jew,jgv]
 ·simp[ha,xX,jew,jgv]
def jyI {n b:Int} (hb:0<b) (hb2:b<=1000000) (hn:-4000000000000000000<=n∧n<=4000000000000000000):jgA n b=some ((2*n+b)/(2*b)):=by
 unfold jgA jga;rw[jai (x:=2*n) (by omega),jai (x:=2*n+b) (by omega),jai (x:=2*b) (by omega),if_pos (by omega),if_pos (by omega)];have h0:0<2*b:=by omega
 generalize 2*b=m at *
 have hN:-8000000000001000000<=2*n+b∧2*n+b<=8000000000001000000:=by omega
 generalize 2*n+b=N at *
 have h1:=jn0 (n:=N) h0;rw[jai (x:=N.tdiv m) (by omega)];split
 ·rename_i h;rw[jai (by omega),jaa,jsu h0 h]
 ·rename_i h;rw[jaa,jsv h0 h]
def jvk (r:Int):(if(if r<(32767:Int)then r else(32767:Int))>(-32767:Int)then if r<(32767:Int)then r else(32767:Int)else(-32767:Int))=max (-32767) (min 32767 r):=by omega
def jyJ {us:List (List Int)} {i:Nat} {x:Int} (hi:i<us.length) (hu:okFu (us.getD i [])) (hx:inR x):jlR (i:Int) x us=some (jfC (us.getD i []) x,us.set i (jvi (us.getD i []) x)):=by
 obtain⟨hl,hc,hs,h0,h9⟩:=hu;unfold jlR;simp only[pu1,pu9,pu5,puc,zg,hi,if_true,fg]
 generalize hr:us.getD i []=r at *
 match r,hl with
 |[b0,b1,b2,a0,a1,x1,x2,y1,y2,k],_ =>
  have c0:=hc 0 (by decide);have c1:=hc 1 (by decide);have c2:=hc 2 (by decide);have c3:=hc 3 (by decide);have c4:=hc 4 (by decide);have s5:=hs 5 (by decide) (by decide);have s6:=hs 6 (by decide) (by decide);have s7:=hs 7 (by decide) (by decide);have s8:=hs 8 (by decide) (by decide);simp only[List.getD_cons_zero,List.getD_cons_succ]at c0 c1 c2 c3 c4 s5 s6 s7 s8 h0 h9 ⊢;have m0:=jrx (a:=32768) (b:=32767) (by decide) (by decide) c0 hx;have m1:=jrx (a:=32768) (b:=32767) (by decide) (by decide) c1 s5;have m2:=jrx (a:=32768) (b:=32767) (by decide) (by decide) c2 s6;have m3:=jrx (a:=32768) (b:=32767) (by decide) (by decide) c3 s7;have m4:=jrx (a:=32768) (b:=32767) (by decide) (by decide) c4 s8
  rw[jai (x:=b0*x) (by omega),jai (x:=b1*x1) (by omega),jai (x:=b2*x2) (by omega),jai (x:=a0*y1) (by omega),jai (x:=a1*y2) (by omega),jai (x:=b0*x+b1*x1) (by omega),jai (x:=b0*x+b1*x1+b2*x2) (by omega),jai (x:=b0*x+b1*x1+b2*x2-a0*y1) (by omega),jai (x:=b0*x+b1*x1+b2*x2-a0*y1-a1*y2) (by omega),jyI (by decide) (by decide) (by omega),jaa,jai (x:=k+1) (by omega)]
  have hraw:jvh [b0,b1,b2,a0,a1,x1,x2,y1,y2,k] x=(2*(b0*x+b1*x1+b2*x2-a0*y1-a1*y2)+16384)/(2*16384):=rfl;rw[<-hraw];have hout:max (-32767) (min 32767 (jvh [b0,b1,b2,a0,a1,x1,x2,y1,y2,k] x))=jfC [b0,b1,b2,a0,a1,x1,x2,y1,y2,k] x:=rfl;simp only[jvk,hout];have hg:∀a:List Int,(us.set i a).getD i []=a:=fun a=>by simp[zb,hi]
  simp only[hg,List.set_set]
  by_cases hz:jfC [b0,b1,b2,a0,a1,x1,x2,y1,y2,k] x=jvh [b0,b1,b2,a0,a1,x1,x2,y1,y2,k] x
  ·rw[if_neg (by simpa using hz)]
   congr 3
   show _=[b0,b1,b2,a0,a1,x,x1,_,y1,k+if _ then 0 else 1]
   rw[if_pos hz,Int.add_zero];rfl
  ·rw[if_pos (by simpa using hz)]
   congr 3
   show _=[b0,b1,b2,a0,a1,x,x1,_,y1,k+if _ then 0 else 1]
   rw[if_neg hz];rfl
def jry {us:List (List Int)} {l:List (List Int)} {i:Nat} (hi:i<l.length) (h:us.length=i):(us++l.drop i).getD i []=l.getD i []:=by
 subst h;rw[jan (by simp;omega),jan hi,List.getElem_append_right (zp _)];simp
def jwu {l:List (List Int)} {x:Int} (hl:l.length<1000000) (hu:∀u∈l,okFu u) (hx:inR x):joL x l=some (jde l x,jbH l x):=by
 unfold joL
 have hit:jae (jrs l) big (x,0,l)=some (jde l x,jbH l x):=jat (body:=jrs l) (fun i=>(jde (l.take i) x,(i:Int),jbH (l.take i) x++l.drop i)) (y:=(jde l x,jbH l x)) (k:=l.length) (fun i hi=>by
  have hlen:(jbH (l.take i) x).length=i:=by rw[jgI,List.length_take];omega
  have hmem:l.getD i []∈l:=by rw[jan hi];exact zW hi
  have hg:=jry (us:=jbH (l.take i) x) hi hlen;unfold jrs;dsimp only
  rw[if_pos (by omega),if_pos (by simp only[qc,hlen,xy];omega),zg,jyJ (by simp only[qc,hlen,xy];omega) (by rw[hg];exact hu _ hmem) (jia _ hx.1 hx.2),jaa,jai (by omega),hg]
  obtain⟨e1,e2⟩:=jqe (l.take i) (l.getD i []) x;rw[<-jdv hi]at e1 e2;rw[e1,e2,yT _ _ (by omega),hlen,jl,List.drop_eq_getElem_cons hi,List.set_cons_zero,qF];rfl) (by
  unfold jrs;dsimp only;rw[if_neg (by omega),yk,List.drop_length,List.append_nil]) (by omega)
 rw[hit];rfl
def jwv {c s:List (List Int)} (hc:c.length<=s.length) (hl:c.length<1000000):y96 c s=some (jbs c s c.length):=by
 unfold y96
 have hit:jae (jro c s) big (0,[])=some (jbs c s c.length):=jat (body:=jro c s) (fun i=>((i:Int),jbs c s i)) (y:=jbs c s c.length) (k:=c.length) (fun i hi=>by
  unfold jro;dsimp only;rw[if_pos (by omega),if_pos (by omega),zg,if_pos hi,if_pos (by omega),if_pos (by omega),if_pos (by rw[jh9];simp only[zB,qe];omega),jai (by omega),jAa];rfl) (by unfold jro;dsimp only;rw[if_neg (by omega)]) (by omega)
 rw[hit];rfl
def jvl (n:Int):jc9 n 32767=some (decide (inR n)):=by
 unfold jc9;rw[show wrap qP ((0:Int)-32767)=-32767 from by rw[jai (by omega)];rfl,jnX,<-jyH];rfl
def jAd (s:List (List Int)) (i:Nat):jae (y73 s (i:Int)) big 0=some (if jfD (s.getD i [])=true then .inl ()else .inr ()):=by
 have hit:=jb0 [(s.getD i []).getD 0 0,(s.getD i []).getD 1 0,(s.getD i []).getD 2 0,(s.getD i []).getD 3 0] 0 (fun v=>!decide (inR v)) (body:=y73 s (i:Int)) (.inl ()) (.inr ()) (by simp) (fun j hj hp=>by
  have hj:j<4:=hj;unfold y73;rw[if_pos (by omega),zg,zg,jg,if_pos ⟨by omega,by match j,hj with|0,_=>rfl|1,_=>rfl|2,_=>rfl|3,_=>rfl⟩,jvl,jaa,if_pos hp]) (fun j hj hp=>by
  have hj:j<4:=hj;unfold y73;rw[if_pos (by omega),zg,zg,jg,if_pos ⟨by omega,by match j,hj with|0,_=>rfl|1,_=>rfl|2,_=>rfl|3,_=>rfl⟩,jvl,jaa,if_neg (by rw[hp];simp),jai (by omega)]) (by
  unfold y73;rw[if_neg (by simp)])
 rw[hit]
 congr 2
 unfold jfD;simp only[jK,kI];cases decide (inR ((s.getD i []).getD 0 0))<;>cases decide (inR ((s.getD i []).getD 1 0))<;>cases decide (inR ((s.getD i []).getD 2 0))<;>cases decide (inR ((s.getD i []).getD 3 0))<;>rfl
def jAe (b:Bool) (e:Int):jds b e=some (if b=true then 0 else e):=by
 unfold jds;cases b<;>rfl
def jtl {c s:List (List Int)} (hc:c.length<1000) (hl:s.length<=100000):y74 c s=some (if ja5 c≠0 then(0,ja5 c)else csS c s):=by
 unfold y74 csS;rw[jfg c hc,jaa,jAe,jaa,jCr,jaa]
 have hb:∀i,i<s.length->jrn s (i:Int)=if jfD (s.getD i [])=true then some (.inr (.inl (i:Int)))else some (.inl ((i:Int)+1)):=by
  intro i hi;unfold jrn;rw[if_pos (by omega),if_pos (by omega),zg,if_pos hi,jAd,jaa]
  by_cases h:jfD (s.getD i [])=true
  ·rw[if_pos h,if_pos h];rfl
  ·rw[if_neg h,if_neg h]
   show some (Sum.inl (wrap .i64 ((i:Int)+1)))=_
   rw[jai (by omega)]
 have hit:=jaN s [] jfD (body:=jrn s) (fun i=>.inl (i:Int)) (.inr ()) (by omega) (fun i hi hp=>by rw[hb i hi,if_pos hp]) (fun i hi hp=>by rw[hb i hi,if_neg (by rw[hp];simp)])
  (by unfold jrn;rw[if_neg (by omega)])
 have hx:(if((s.length:Int)==(c.length:Int))=true then(0:Int)else(10:Int))=if s.length≠c.length then 10 else 0:=by
  by_cases h:s.length=c.length
  ·rw[if_pos (by rw[h];exact beq_self_eq_true _),if_neg (by omega)]
  ·rw[if_neg (by rw[beq_iff_eq];omega),if_pos h]
 rw[hx,hit]
 by_cases h1:ja5 c=0
 ·rw[if_neg (show ¬ja5 c≠0 by omega),if_neg (show ¬ja5 c≠0 by omega)]
  by_cases h:s.length=c.length
  ·rw[if_neg (show ¬s.length≠c.length by omega),if_neg (show ¬s.length≠c.length by omega),if_neg (by decide)];cases s.findIdx? jfD<;>rfl
  ·rw[if_pos h,if_pos h,if_pos (by decide)]
 ·rw[if_pos h1,if_pos h1,if_pos (by simpa using h1)]
def jl2 {c s:List (List Int)} (h:(csS c s).2=0):s.length=c.length∧∀k j,k<s.length->j<4->inR ((s.getD k []).getD j 0):=by
 unfold csS at h;split at h
 ·cases h
 ·rename_i hl;refine⟨by omega,fun k j hk hj=>?_⟩;split at h
  ·cases h
  ·rename_i hf;rw[qv]at hf;have:=hf (s.getD k []) (by rw[jan hk];exact zW hk);unfold jfD at this;simp only[jS,zk,decide_eq_true_eq]at this
   match j,hj with
   |0,_=>exact this.1.1.1
   |1,_=>exact this.1.1.2
   |2,_=>exact this.1.2
   |3,_=>exact this.2
def je3 {c:List (List Int)} (h:ja5 c=0):c.length<=6∧∀r∈c,jdb r=true:=by
 unfold ja5 at h;split at h
 ·cases h
 ·split at h
  ·cases h
  ·rename_i h1 h2;refine⟨by omega,fun r hr=>?_⟩;have:=mt qY.2 h2;cases hb:jdb r with
   |true=>rfl
   |false=>exact absurd ⟨r,hr,by rw[hb];rfl⟩ this
def jxo {c s:List (List Int)} (h:ja5 c=0) (hs:(csS c s).2=0):∀u∈jbs c s c.length,jjW 0 u:=by
 obtain⟨hl,hst⟩:=jl2 hs;intro u hu;simp only[jbs,qn,qZ]at hu;obtain⟨i,hi,rfl⟩:=hu;have h0:=(je3 h).2 (c.getD i []) (by rw[jan hi];exact zW hi);unfold jdb Sx09.partB at h0;simp only[List.all_cons,List.all_nil,Bool.and_true,zk,decide_eq_true_eq]at h0;refine⟨rfl,fun j hj=>?_,fun j hj hj2=>?_,yN (0:Int),yN (0:Int)⟩
 ·match j,hj with
  |0,_=>exact h0.1
  |1,_=>exact h0.2.1
  |2,_=>exact h0.2.2.1
  |3,_=>exact h0.2.2.2.1
  |4,_=>exact h0.2.2.2.2
 ·match j,hj,hj2 with
  |5,_,_=>exact hst i 0 (by omega) (by omega)
  |6,_,_=>exact hst i 1 (by omega) (by omega)
  |7,_,_=>exact hst i 2 (by omega) (by omega)
  |8,_,_=>exact hst i 3 (by omega) (by omega)
def Z32:List Nat:=zO
def jBF {e:Nat} {r:List Nat} {j v:Nat} (h:r.length=e):jeE e r j v=r.set j v:=by
 subst h;unfold jeE
 congr 1
 apply x5
 ·simp[jn9]
 ·intro i h1 h2;simp[jn9,h2]
def jvm {A:List Nat} {v:Nat} (h:A.length<32):jeE 32 (A++zh (32-A.length) 0) A.length v=A++[v]++zh (32-(A.length+1)) 0:=by
 have h1:jeE 32 (A++zh (32-A.length) 0) A.length v=(A++zh (32-A.length) 0).set A.length v:=jBF (by simp;omega);have h2:32-A.length=(32-(A.length+1))+1:=by omega
 rw[h1,h2,jb,yT _ _ (zp _),jl,List.set_cons_zero,qF];rfl
def jfh (c s:List (List Int)) (b:List Nat):Int:=if ja5 c≠0 then ja5 c else if ja7 b≠0 then ja7 b else(csS c s).2
def jDZ {c s:List (List Int)} {b:List Nat} (hc:c.length<1000) (hs:s.length<=100000) (hb:b.length=32) :
  jdd c b s=some (if jfh c s b=0 then((jb9 (jbs c s c.length) (b.map fi)).map nf,(jb2 (jbs c s c.length) (b.map fi)).map stU,jbc (jb2 (jbs c s c.length) (b.map fi)),0)else(Z32,[],0,jfh c s b)):=by
 unfold jdd;rw[jfg c hc,jaa,if_pos ⟨hb,by decide⟩,yq,xW (by omega),jiX (by omega),jaa,jCr,jaa]
 by_cases h1:ja5 c=0
 ·rw[if_neg (show ¬ja5 c≠0 by omega)]
  by_cases h2:ja7 b=0
  ·rw[if_pos (by rw[h2];rfl),jtl (by omega) hs,jaa,if_neg (show ¬ja5 c≠0 by omega)];have hE:jfh c s b=(csS c s).2:=by unfold jfh;rw[if_neg (by omega),if_neg (by omega)]
   rw[hE]
   by_cases h3:(csS c s).2=0
   ·rw[if_neg (by rw[h3];decide),if_pos h3];obtain⟨hl,_⟩:=jl2 h3;rw[jwv (by omega) (by omega),jaa];have hok:=jxo h1 h3;have hall:=jss h2
    have hx:∀x∈b.map fi,inR x:=by
     intro x hx;obtain⟨y,hy,rfl⟩:=qn.1 hx;exact(je2 (hall y hy)).2
    have hul:(jbs c s c.length).length=c.length:=jh9 _ _ _
    generalize jbs c s c.length=us at *
    have hit:jae (jcY b) big (0,us,[]++zh (32-0) 0)=some (jb2 us (b.map fi),(jb9 us (b.map fi)).map nf) :=
     jat (body:=jcY b) (fun i=>((i:Int),jb2 us ((b.map fi).take i),(jb9 us ((b.map fi).take i)).map nf++zh (32-i) 0)) (k:=32) (fun i hi=>by
      have hi':i<b.length:=by omega
      have hw:=je2 (hall (b.getD i 0) (by rw[jan hi'];exact zW hi'));have hR:inR (f2i .f32 (b.getD i 0)):=hw.2;obtain⟨t1,t2⟩:=jAb (us:=us) (l:=b.map fi) (i:=i) (by simpa using hi');have hg:(b.map fi).getD i 0=f2i .f32 (b.getD i 0):=by rw[jan (by simpa using hi'),jan hi'];simp[fi]
      rw[hg]at t1 t2;have hlen:((jb9 us ((b.map fi).take i)).map nf).length=i:=by simp[jgK];omega
      have hsf:=jvm (A:=(jb9 us ((b.map fi).take i)).map nf) (v:=nf (jde (jb2 us ((b.map fi).take i)) (f2i .f32 (b.getD i 0)))) (by omega);rw[hlen]at hsf;unfold jcY;dsimp only
      rw[if_pos (by omega),if_pos (by omega),zg,if_pos hw.1,jwu (by rw[jdJ,hul];omega) (fun u hu=>jvj (jmS hok (fun x hx'=>hx x (List.mem_of_mem_take hx')) u hu) (by simp;omega)) hR,jaa,if_pos (by omega),if_pos (by omega),jai (by omega),t1,t2]
      have e0:(0:Nat)+((0:Nat)+i*(1:Nat))=i:=by omega
      rw[e0,show ∀n,qw .f32 n=nf n from fun _=>rfl,hsf,xa];rfl) (by
      unfold jcY;dsimp only;rw[if_neg (by omega),xW (by simp;omega)];simp) (by omega)
    change (jae (jcY b) big (0,us,[]++zh (32-0) 0)).bind _=_
    rw[hit,jaa];unfold jgC;have hend:=jmS hok hx;have hc6:=(je3 h1).1;rw[jAc (by rw[jdJ,hul];omega),jaa,jCN (by rw[jdJ,hul];omega) (fun u hu=>by have:=jvj (hend u hu) (by simp;omega);exact⟨this.2.2.2.1,this.2.2.2.2⟩),jaa]
   ·rw[if_pos (by simpa using h3),if_neg h3];rfl
  ·rw[if_neg (show ¬(ja7 b==0)=true by simpa using h2),if_pos (show(ja7 b != 0)=true by simpa using h2)];have hE:jfh c s b=ja7 b:=by unfold jfh;rw[if_neg (by omega),if_pos h2]
   rw[hE,if_neg h2];rfl
 ·rw[if_pos h1,if_neg (by simpa using h1),if_pos (by simpa using h1)];have hE:jfh c s b=ja5 c:=by unfold jfh;rw[if_pos h1]
  rw[hE,if_neg h1];rfl
def jww {c:List (List Int)} (hc:c.length<1000) (h:ja5 c=0):y26 c=some (zh c.length [0,0,0,0],0):=by
 unfold y26;rw[jfg c hc,jaa,h,if_neg (by decide),if_pos (by omega),zg]
end Go.Sh
end

section
namespace Go.Sh
open Go Go.Proofs Go.RowKit Go.Sx
structure Rg (g:List (List NC)) (l:List Int):Prop where
 fw:Fw g
 ok:∀i,i<g.length->jbg g i=0
 ord:jdF (jbx g) g.length []=some l
variable {g:List (List NC)} {l:List Int}
def Rg.n (h:Rg g l):g.length<1000:=h.fw.n
def Rg.len (h:Rg g l):l.length=g.length:=by
 have:=(jlY (jbx g) g.length [] l h.ord).1;simp at this;omega
def Rg.at (h:Rg g l) {j:Nat} (hj:j<g.length):∃i:Nat,i<g.length∧l.getD j 0=(i:Int)∧jaL (l.take j) i=false∧jdu g (l.take j) i=true:=by
 obtain⟨_,_,h3⟩:=jlY (jbx g) g.length [] l h.ord;obtain⟨i,hx,hi⟩:=h3 j (Nat.zero_le _) (by rw[h.len];exact hj);obtain⟨h1,h2⟩:=jxl hx;unfold jd1 at h2;rw[zk,xB]at h2;exact⟨i,h1,hi,h2.1,h2.2⟩
def jvn {out:List Int} {k:Nat}:jaL out k=true<->∃j,j<out.length∧out.getD j 0=(k:Int):=by
 unfold jaL;rw[qY];constructor
 ·rintro ⟨x,hx,he⟩;obtain⟨j,hj,e⟩:=xx.1 hx;exact⟨j,hj,by simp only[zb,zH hj,z9,e];simpa using he⟩
 ·rintro ⟨j,hj,e⟩;refine⟨out[j],zW hj,?_⟩;simp only[zb,zH hj,z9]at e;simpa using e
def jl3 {α:Type} (l:List α) (d:α) {j k:Nat} (h:j<k):(l.take k).getD j d=l.getD j d:=by
 simp only[zb,jJ h]
def Rg.before (h:Rg g l) {j i u:Nat} (hj:j<g.length) (hi:l.getD j 0=(i:Int)) (hu:u<g.length) (hn:jdP g i u=true):∃j',j'<j∧l.getD j' 0=(u:Int):=by
 obtain⟨i',_,h2,_,h4⟩:=h.at hj;rw[hi]at h2;obtain rfl:i=i':=by omega
 unfold jdu at h4;rw[xB,xC]at h4;have:=h4 u (qZ.2 hu);rw[hn,kC,gj,jS,jvn]at this;obtain⟨j',h5,h6⟩:=this;have hlt:j'<j:=by simp at h5;omega
 exact⟨j',hlt,by rw[jl3 _ _ hlt]at h6;exact h6⟩
def Rg.lt_ne (h:Rg g l) {j j':Nat} (hj:j<g.length) (hl:j'<j):l.getD j' 0≠l.getD j 0:=fun e=>by
 obtain⟨i,_,h2,h3,_⟩:=h.at hj;have:jaL (l.take j) i=true:=jvn.2 ⟨j',by have:=h.len;simp;omega,by rw[jl3 _ _ hl,e,h2]⟩;rw[h3]at this;cases this
def pig:∀(n:Nat) (l:List Nat),l.Nodup->(∀x∈l,x<n)->l.length<=n
 |0,[],_,_=>zp _
 |0,x::l,_,h=>absurd (h x zw) (by omega)
 |n+1,l,hd,h=>by
  have h1:=pig n (l.erase n) (hd.erase n) (fun x hx=>by
   rw[hd.mem_erase_iff]at hx;have:=h x hx.2;omega)
  rw[List.length_erase]at h1;split at h1<;>omega
def Rg.surj (h:Rg g l) {i:Nat} (hi:i<g.length):∃j,j<g.length∧l.getD j 0=(i:Int):=by
 apply Classical.byContradiction;intro hno;have hL:=h.len;have hget:∀j (hj:j<l.length),l[j]=l.getD j 0:=fun j hj=>by simp[zb,hj]
 have hnd:(l.map zf).Nodup:=by
  unfold List.Nodup;rw[List.pairwise_map,List.pairwise_iff_getElem];intro a b ha hb hab e;obtain⟨x,_,hx,_⟩:=h.at (j:=a) (by omega);obtain⟨y,_,hy,_⟩:=h.at (j:=b) (by omega);rw[hget a ha,hget b hb,hx,hy]at e;refine h.lt_ne (j:=b) (by omega) hab ?_;rw[hx,hy];simp only[zg]at e;rw[e]
 have hm:∀x∈l.map zf,∃j,j<g.length∧l.getD j 0=(x:Int)∧x<g.length:=by
  intro x hx;obtain⟨y,hy,rfl⟩:=qn.1 hx;obtain⟨j,hj,e⟩:=xx.1 hy;obtain⟨z,hz,hz2,_⟩:=h.at (j:=j) (by omega);rw[hget j hj,hz2]at e;subst e;exact⟨j,by omega,by rw[hz2];simp,by simpa using hz⟩
 have:=pig g.length (i::l.map zf) (List.nodup_cons.2 ⟨fun hx=>by
  obtain⟨j,h1,h2,_⟩:=hm i hx
  exact hno ⟨j,h1,h2⟩,hnd⟩) (fun x hx=>by
   rcases qr.1 hx with rfl|hx
   ·exact hi
   ·exact(hm x hx).choose_spec.2.2)
 simp at this;omega
def Rg.stand (h:Rg g l) {j i:Nat} (hj:j<g.length) (hi:l.getD j 0=(i:Int)) (hi2:i<g.length):nI g i 7=-1∨∃j' u:Nat,j'<j∧u<g.length∧nI g i 7=(u:Int)∧l.getD j' 0=(u:Int):=by
 rcases(jru (h.ok i hi2)).2 with h1|⟨h1,h2⟩
 ·exact .inl h1
 ·refine .inr ?_;obtain⟨u,hu⟩:∃u:Nat,nI g i 7=(u:Int):=⟨(nI g i 7).toNat,by omega⟩
  obtain⟨j',h3,h4⟩:=h.before (u:=u) hj hi (by omega) (by unfold jdP;simp[hu]);exact⟨j',u,h3,by omega,hu,h4⟩
def Rg.from (h:Rg g l) {j i k:Nat} (hj:j<g.length) (hi:l.getD j 0=(i:Int)) (hi2:i<g.length) (hk:k<(nL g i 2).length):∃j' u:Nat,j'<j∧u<g.length∧(nL g i 2).getD k 0=(u:Int)∧l.getD j' 0=(u:Int):=by
 have hm:(nL g i 2).getD k 0∈nL g i 2:=by simp[zb,hk]
 obtain⟨h1,h2⟩:=(jru (h.ok i hi2)).1 _ hm;obtain⟨u,hu⟩:∃u:Nat,(nL g i 2).getD k 0=(u:Int):=⟨((nL g i 2).getD k 0).toNat,by omega⟩
 obtain⟨j',h3,h4⟩:=h.before (u:=u) hj hi (by omega) (by
  unfold jdP;rw[qU];exact .inl (qY.2 ⟨_,hm,by rw[hu];simp⟩))
 exact⟨j',u,h3,by omega,hu,h4⟩
def stF (st:Nat->Int) (fb:Nat->Bool):Nat->Int->Int|0,u=>u|k+1,u=>if 0<=u∧fb u.toNat=true then stF st fb k (st u.toNat)else u
def jgL (g:List (List NC)) (fb:Nat->Bool) (u:Int):Int:=stF (fun i=>nI g i 7) fb g.length u
def jrz (st:Nat->Int) (fb:Nat->Bool):∀k,stF st fb k (-1)=-1
 |0=>rfl
 |k+1=>by unfold stF;rw[if_neg (by omega)]
def jvo (h:Rg g l) (fb:Nat->Bool):∀j,j<g.length->∀k,j<k->stF (fun i=>nI g i 7) fb k (l.getD j 0)=stF (fun i=>nI g i 7) fb (j+1) (l.getD j 0):=by
 intro j
 induction j using jo with
 |_ j ih =>
  intro hj k hk;obtain⟨i,hi,e,_⟩:=h.at hj;obtain⟨m,rfl⟩:∃m,k=m+1:=⟨k-1,by omega⟩
  rw[e];unfold stF
  by_cases hf:fb i=true
  ·rw[if_pos ⟨by omega,by simpa using hf⟩,if_pos ⟨by omega,by simpa using hf⟩,zg];rcases h.stand hj e hi with h1|⟨j',u,h1,h2,h3,h4⟩
   ·rw[h1,jrz,jrz]
   ·rw[h3,<-h4,ih j' h1 (by omega) m (by omega),ih j' h1 (by omega) j (by omega)]
  ·rw[if_neg (fun hn=>hf (by simpa using hn.2)),if_neg (fun hn=>hf (by simpa using hn.2))]
def jAf (h:Rg g l) (fb:Nat->Bool) {j i:Nat} (hj:j<g.length) (hi:l.getD j 0=(i:Int)) (hi2:i<g.length):jgL g fb (i:Int)=if fb i=true then(if nI g i 7=-1 then -1 else jgL g fb (nI g i 7))else(i:Int):=by
 unfold jgL;obtain⟨m,hm⟩:∃m,g.length=m+1:=⟨g.length-1,by omega⟩
 rw[hm]
 conv=>lhs;unfold stF
 by_cases hf:fb i=true
 ·rw[if_pos ⟨by omega,by simpa using hf⟩,if_pos hf,zg];rcases h.stand hj hi hi2 with h1|⟨j',u,h1,h2,h3,h4⟩
  ·rw[h1,jrz,if_pos rfl]
  ·rw[if_neg (by omega),h3,<-h4,jvo h fb j' (by omega) m (by omega),jvo h fb j' (by omega) (m+1) (by omega)]
 ·rw[if_neg (fun hn=>hf (by simpa using hn.2)),if_neg hf]
def jCO (h:Rg g l) (fb:Nat->Bool):∀j,j<g.length->jgL g fb (l.getD j 0)=-1∨∃j' i:Nat,j'<=j∧i<g.length∧l.getD j' 0=(i:Int)∧jgL g fb (l.getD j 0)=(i:Int)∧fb i=false:=by
 intro j
 induction j using jo with
 |_ j ih =>
  intro hj;obtain⟨i,hi,e,_⟩:=h.at hj;rw[e,jAf h fb hj e hi]
  by_cases hf:fb i=true
  ·rw[if_pos hf];rcases h.stand hj e hi with h1|⟨j',u,h1,h2,h3,h4⟩
   ·rw[if_pos h1];exact .inl rfl
   ·rw[if_neg (by omega),h3,<-h4];rcases ih j' h1 (by omega)with h5|⟨j2,i2,h5,h6⟩
    ·exact .inl h5
    ·exact .inr ⟨j2,i2,by omega,h6⟩
  ·rw[if_neg hf];exact .inr ⟨j,i,zp _,hi,e,rfl,by simpa using hf⟩
def jcy (g:List (List NC)) (fb:Nat->Bool):List Int:=(zm g.length).map fun(i:Nat)=>jgL g fb (i:Int)
def jxp (g:List (List NC)) (fb:Nat->Bool):(jcy g fb).length=g.length:=by simp[jcy]
def jxq (g:List (List NC)) (fb:Nat->Bool) {i:Nat} (hi:i<g.length):(jcy g fb).getD i 0=jgL g fb (i:Int):=by simp[jcy,zb,hi]
def ja9 {α:Type} (l:List α) (i j:Nat) (x d:α) (hi:i<l.length):(l.set i x).getD j d=if i=j then x else l.getD j d:=by
 simp only[zb,List.getElem?_set,hi,if_true];split<;>rfl
def jsw {α:Type} {l:List α} (d:α) {i:Nat} (h:i<l.length):l.getD i d=l[i]:=by simp[zb,h]
def jsx (h:Rg g l) {j j' i i':Nat} (hj:j<g.length) (hl:j'<j) (e:l.getD j 0=(i:Int)) (e':l.getD j' 0=(i':Int)):i≠i':=fun hn=>h.lt_ne hj hl (by rw[e,e',hn])
end Go.Sh
end

section
namespace Go.Sh
open Go Go.Proofs Go.RowKit Go.Sx
variable {g:List (List NC)} {l:List Int}
def jvp (h:Rg g l) (nm:ByteArray) (failed:List Bool) (hf:failed.length=g.length):y30 nm g l failed=some (jcy g fun i=>failed.getD i false):=by
 have hn:=h.n;have hL:=h.len;unfold y30;rw[if_pos (by omega),zg]
 have key:∃y,jae (y35 g l failed) big (0,zh g.length 0)=some y∧y=jcy g fun i=>failed.getD i false:=by
  refine jlm (body:=y35 g l failed)
   (fun x=>∃k:Nat,k<=g.length∧x.1=(k:Int)∧x.2.length=g.length∧∀j,j<k->x.2.getD (l.getD j 0).toNat 0=jgL g (fun i=>failed.getD i false) (l.getD j 0))
   (fun x=>(g.length+1-x.1.toNat)) (fun y=>y=jcy g fun i=>failed.getD i false) (fun x hx=>?_) big (0,zh g.length 0) ⟨0,by omega,rfl,by simp,fun j hj=>absurd hj (by omega)⟩ (by have:big=18446744073709551616:=rfl;simp;omega)
  obtain⟨a,out⟩:=x;obtain⟨k,hk,h1,h2,h3⟩:=hx;obtain rfl:a=(k:Int):=h1;have h2:out.length=g.length:=h2
  by_cases hkn:k<g.length
  ·obtain⟨i,hi,e,_⟩:=h.at hkn;have hs:=jAf h (fun i=>failed.getD i false) hkn e hi
   have hnew:∀v:Int,v=jgL g (fun i=>failed.getD i false) (i:Int)->∀j,j<k+1->(out.set i v).getD (l.getD j 0).toNat 0=jgL g (fun i=>failed.getD i false) (l.getD j 0):=by
    intro v hv j hj;rw[ja9 _ _ _ _ _ (by omega)]
    by_cases hjk:j=k
    ·subst hjk;rw[e,zg,if_pos rfl,hv]
    ·obtain⟨i',_,e',_⟩:=h.at (j:=j) (by omega);have:=jsx h hkn (j':=j) (by omega) e e';rw[e',zg,if_neg this];have:=h3 j (by omega);rw[e',zg]at this;exact this
   left
   have hb:y35 g l failed ((k:Int),out)=some (.inl ((k:Int)+1,out.set i (jgL g (fun i=>failed.getD i false) (i:Int)))):=by
    unfold y35;simp only[zg,e];rw[if_pos (by omega),if_pos (by omega),if_pos (by omega),if_pos (by omega),if_pos hi,if_pos (by omega),if_pos (by omega),jai (by omega),hs];cases hfi:failed.getD i false with
    |false=>rw[if_pos (by simp),if_pos (by omega),if_pos (by omega),if_neg (by simp)]
    |true =>
     rw[if_neg (by simp),if_pos rfl];rcases h.stand hkn e hi with h5|⟨j',u,h5,h6,h7,h8⟩
     ·rw[if_pos (by rw[h5];rfl),if_pos (by omega),if_pos (by omega),if_pos h5]
     ·have hu:=h3 j' (by omega);rw[h8,zg]at hu;rw[if_neg (by rw[h7];simp),h7,if_pos (by omega),zg,if_pos (by omega),if_pos (by omega),if_pos (by omega),if_neg (by omega),hu]
   refine⟨_,hb,⟨k+1,by omega,by simp,by simp[h2],hnew _ rfl⟩,by simp;omega⟩
  ·right;refine⟨out,?_,?_⟩
   ·unfold y35;rw[if_neg (by show ¬(k:Int)<_;omega)]
   ·refine x5 (by rw[h2,jxp]) fun i h5 h6=>?_;have hi:i<g.length:=by omega
    obtain⟨j,hj,e⟩:=h.surj hi;have h7:=h3 j (by omega);rw[e,zg]at h7;have h8:=jxq g (fun i=>failed.getD i false) hi;rw[<-jsw 0 h5,<-jsw 0 h6,h7,h8]
 obtain⟨y,hy,hp⟩:=key;rw[hy,hp];rfl
end Go.Sh
end

section
namespace Go.Sh
open Go Go.Proofs Go.RowKit Go.Sx
abbrev sp_123b:jab->jab:=sp_123_140
def sp_123b_ok {sp:jab} (h:jam Tryz.prog sp):jam Tryz.prog (sp_123b sp):=sp_123_140_ok h
open Go.IntKind (wrap)
set_option maxRecDepth 100000
def jtm:List SV:=[.c (.p [.d,.x (.st zS []),.r (.ints .i64 [])]),.c (.r (.bools []))]
def jiZ (u6:List (List NC)) (u9:List Int) (u27:List Bool) (r0:List Int) (x0:(Int × List Bool)):Option ((Int × List Bool) ⊕ (List Bool)) :=
 if x0.1<(↑u9.length:Int)then if 0<=x0.1∧x0.1<(↑u9.length:Int)then
  if zf x0.1<za u9 then if 0<=zb u9 x0.1.toNat (0:Int)∧zb u9 x0.1.toNat 0<(↑u6.length:Int)then
   if zf (zb u9 x0.1.toNat (0:Int))<za u6 then if 0<=zb u9 x0.1.toNat (0:Int)∧zb u9 x0.1.toNat 0<(↑u27.length:Int)then
    if zf (zb u9 x0.1.toNat (0:Int))<za u27 then if(!zb u27 (zf (zb u9 x0.1.toNat (0:Int))) false)=true then
     if(nI u6 (zf (zb u9 x0.1.toNat (0:Int))) (1:Nat)==0)=true then if 0<=zb u9 x0.1.toNat (0:Int)∧zb u9 x0.1.toNat 0<(↑x0.2.length:Int)then
      if zf (zb u9 x0.1.toNat (0:Int))<za x0.2 then some (.inl ((wrap .i64 (x0.1+1),qz x0.2 (zf (zb u9 x0.1.toNat (0:Int))) true)))
      else none
      else none
     else
      ze (y52 (nL u6 (zf (zb u9 x0.1.toNat (0:Int))) (2:Nat)) r0 x0.2) fun r1 =>
      if 0<=zb u9 x0.1.toNat (0:Int)∧zb u9 x0.1.toNat 0<(↑x0.2.length:Int)then
      if zf (zb u9 x0.1.toNat (0:Int))<za x0.2 then some (.inl ((wrap .i64 (x0.1+1),qz x0.2 (zf (zb u9 x0.1.toNat (0:Int))) r1)))
      else none
      else none
     else
     if 0<=zb u9 x0.1.toNat (0:Int)∧zb u9 x0.1.toNat 0<(↑x0.2.length:Int)then if zf (zb u9 x0.1.toNat (0:Int))<za x0.2 then some (.inl ((wrap .i64 (x0.1+1),qz x0.2 (zf (zb u9 x0.1.toNat (0:Int))) false)))
      else none
     else none
    else none
    else none
   else none
   else none
  else none
  else none
 else some (.inr x0.2)
def ji0 (u3:List Bool):Option (List Bool) :=some u3
def y48 (u10:zY) (u6:List (List NC)) (u9:List Int) (u27:List Bool):Option (List Bool) :=
 ze (y30 u10 u6 u9 u27) fun r0 =>
 if 0<=(↑u6.length:Int)∧(↑u6.length:Int)=(↑u6.length:Int)∧(↑(1:Nat):Int)*(↑u6.length:Int)<=281474976710656∧(↑u6.length:Int)<=9223372036854775807 then ze (jae (jiZ u6 u9 u27 r0) big (((0:Int),zh (zf (↑u6.length:Int)) false))) (ji0)
 else none
def jkn:List Lf->Option GT|[.d (.s u10),.x (.st [.s,.i .i64,.ints .i64,.ints .i64,.ints .i64,.i .i64,.recs 5,.i .i64] u6),.r (.ints .i64 u9),.r (.bools u27)]=>some (.leaf (ok (y48 u10 u6 u9 u27)) [.c (.row 4 (.bools ((val (y48 u10 u6 u9 u27)))))])|_=>none
abbrev sp_96:jab->jab:=jal 96 true (jak jtm jkn)
def sp_96_ok:KO sp_96:=jag (kT (sp_93_ok (sp_140_ok (sp_123b_ok jaf))) Tryz.func96 (by kernel_rfl) fun ls t h ho=>by
 unfold jkn at h;split at h
 ·rename_i u10 u6 u9 u27;cases h;have ho:=jad ho
  generalize val (y48 u10 u6 u9 u27)=r at ho ⊢
  let l0:=lp0 (jiZ u6 u9 u27 (val (y30 u10 u6 u9 u27))) ji0 r fun z=>⟨[(0,.w (.c (.p 2 0 1 0))),(1,.w (.c (.o 3))),(5,.w (.c (.p 4 0 1 0))),(6,.w (.c (.p 5 0 1 0))),(23,.w (.c (.o 1))),(24,.w (.c (.d (.i .i64 ((↑u9.length:Int)))))),(25,.w (.c (.d (.i .i64 z.1.1))))],[(2,.ebox [.d (.s u10),.o 0,.o 1]),(3,.ext (.bools u27)),(4,.box 31 [.o 6]),(5,.box 133 [.o 7]),(1,.ext (.ints .i64 u9)),(0,.xext (XC.st zS u6)),(6,.row 3 (.ints .i64 (val (y30 u10 u6 u9 u27)))),(7,.row 4 (.bools z.1.2))],8⟩
  exact⟨by kernel_rfl,(fun _ id _=>match id with
   |0=>l0.li
   |_=>none),Sk.vd ho (.call (.obT (.ob (.obT (.loop (l0) (fun kk=>(((0:Int),zh (zf (↑u6.length:Int)) false),big)) fun z0 =>
   .br
   (.ob (.ob (.obT (.ob (.ob (.ob (.ob (.brB
   (.brB
   (.ob (.ob (.next)))
   (.call (.ob (.ob (.next)))))
   (.ob (.ob (.next)))))))))))
   (.exit (.obT (.rc)))))))) (by kernel_rfl)⟩
 ·cases h)
def jBG:List SV:=[.a [.d,.x (.st zS [])]]
def jsy (u1:List (List NC)) (x0:Int × List Int) (r2 r3:List Bool) (x1:Int):Option (Int ⊕ (List Int)) :=
 if x1<(↑u1.length:Int)then if 0<=x1∧x1<(↑u1.length:Int)then
  if zf x1<za u1 then if(nI u1 x1.toNat (1:Nat)==4)=true then
   if(x1 != x0.1)=true then if 0<=x1∧x1<(↑r2.length:Int)then
    if zf x1<za r2 then if(zb r2 x1.toNat false)=true then
     if 0<=x1∧x1<(↑r3.length:Int)then if zf x1<za r3 then
      if(!zb r3 x1.toNat false)=true then if(za x0.2+za [x0.1])*8<=140737488355328∧za x0.2+za [x0.1]<=9223372036854775807 then some (.inr (x0.2++[x0.1]))
       else none
      else some (.inl (wrap .i64 (x1+1)))
      else none
     else none
     else
     some (.inl (wrap .i64 (x1+1)))
    else none
    else none
   else some (.inl (wrap .i64 (x1+1)))
   else
   some (.inl (wrap .i64 (x1+1)))
  else none
  else none
 else some (.inr x0.2)
def jsz (x0:Int × List Int) (u7:List Int):Option ((Int × List Int) ⊕ (List Int)) :=some (.inl ((wrap .i64 (x0.1+1),u7)))
def jsA (u5:zY) (u1:List (List NC)) (r1:List Int) (r2:List Bool) (x0:(Int × List Int)):Option ((Int × List Int) ⊕ (List Int)) :=
 if x0.1<(↑u1.length:Int)then if 0<=(↑u1.length:Int)∧(↑u1.length:Int)=(↑u1.length:Int)∧(↑(1:Nat):Int)*(↑u1.length:Int)<=281474976710656∧(↑u1.length:Int)<=9223372036854775807 then
  if 0<=x0.1∧x0.1<(↑(za (zh (zf (↑u1.length:Int)) false)):Int)then if zf x0.1<za (zh (zf (↑u1.length:Int)) false)then
   ze (y48 u5 u1 r1 (qz (zh (zf (↑u1.length:Int)) false) x0.1.toNat true)) fun r3 =>
   ze (jae (jsy u1 x0 r2 r3) big (0:Int)) (jsz x0)
   else none
  else none
  else none
 else some (.inr x0.2)
def jsB (u3:List Int):Option (List Int × Int) :=some ((u3,0))
def jl4 (u5:zY) (u1:List (List NC)):Option (List Int × Int) :=
 if(jdN u5 u1)=true then
  ze (jbq u5 u1) fun r0 =>
  some ([],nzI r0)
 else
  ze (jav u5 u1) fun r1 =>
  if 0<=(↑u1.length:Int)∧(↑u1.length:Int)=(↑u1.length:Int)∧(↑(1:Nat):Int)*(↑u1.length:Int)<=281474976710656∧(↑u1.length:Int)<=9223372036854775807 then
  ze (y48 u5 u1 r1 (zh (zf (↑u1.length:Int)) false)) fun r2 =>
  ze (jae (jsA u5 u1 r1 r2) big (((0:Int),[]))) (jsB)
  else none
def jvq:List Lf->Option GT|[.d (.s u5),.x (.st [.s,.i .i64,.ints .i64,.ints .i64,.ints .i64,.i .i64,.recs 5,.i .i64] u1)]=>some (.leaf (ok (jl4 u5 u1)) [.c (.row 3 (.ints .i64 ((val (jl4 u5 u1)).1))),.c (.d (.i .i64 ((val (jl4 u5 u1)).2)))])|_=>none
abbrev sp_49:jab->jab:=jal 49 true (jak jBG jvq)
def sp_49_ok:KO sp_49:=jag (kT (sp_80_ok (sp_96_ok jaf)) Tryz.func49 (by kernel_rfl) fun ls t h ho=>by
 unfold jvq at h;split at h
 ·rename_i u5 u1;cases h;have ho:=jad ho
  generalize val (jl4 u5 u1)=r at ho ⊢
  let l0:=lp0 (jsA u5 u1 (val (jav u5 u1)) (val (y48 u5 u1 (val (jav u5 u1)) (zh (zf (↑u1.length:Int)) false)))) jsB r fun z=>⟨[(1,.w (.c (.p 1 0 1 0))),(4,.w (.c (.p 2 0 1 0))),(6,.w (.c (.o 3))),(7,.w (.c (.o 4))),(29,.w (.c (.d (.i .i64 ((↑u1.length:Int)))))),(30,.w (.c (.d (.i .i64 z.1.1))))],[(1,.box 24 [.d (.s u5),.o 0]),(2,.box 130 [.d (.s u5),.o 0,.o 5]),(3,.row 4 (.bools (val (y48 u5 u1 (val (jav u5 u1)) (zh (zf (↑u1.length:Int)) false))))),(4,.row 3 (.ints .i64 z.1.2)),(0,.xext (XC.st zS u1)),(5,.row 3 (.ints .i64 (val (jav u5 u1))))],6⟩
  let l1 (m1:Nat):Lp ((Int × List Int) × Nat × Int × Nat) Int (List Int) (((Int × List Int) ⊕ (List Int))) (List Int × Int):=⟨fun z=>z.2.2.1,fun z=>z.2.2.2,fun z x n=>(z.1,z.2.1,x,n),fun z=>jsy u1 z.1 (val (y48 u5 u1 (val (jav u5 u1)) (zh (zf (↑u1.length:Int)) false))) (val (y48 u5 u1 (val (jav u5 u1)) (qz (zh (zf (↑u1.length:Int)) false) z.1.1.toNat true))),fun z=>jsz z.1,fun z=>(l0).cx (z.1,m1),fun z=>z.2.1,fun z=>⟨[(1,.w (.c (.p 1 0 1 0))),(4,.w (.c (.p 2 0 1 0))),(6,.w (.c (.o 3))),(7,.w (.c (.o 4))),(8,.w (.c (.d (.i .i64 (z.1.1))))),(10,.w (.c (.o 5))),(29,.w (.c (.d (.i .i64 ((↑u1.length:Int)))))),(30,.w (.c (.d (.i .i64 (z.1.1))))),(44,.w (.c (.o 0))),(45,.w (.c (.d (.i .i64 ((↑u1.length:Int)))))),(46,.w (.c (.d (.i .i64 z.2.2.1))))],[(1,.box 24 [.d (.s u5),.o 0]),(2,.box 130 [.d (.s u5),.o 0,.o 6]),(3,.row 4 (.bools (val (y48 u5 u1 (val (jav u5 u1)) (zh (zf (↑u1.length:Int)) false))))),(4,.row 3 (.ints .i64 (z.1.2))),(5,.row 4 (.bools (val (y48 u5 u1 (val (jav u5 u1)) (qz (zh (zf (↑u1.length:Int)) false) z.1.1.toNat true))))),(0,.xext (XC.st zS u1)),(6,.row 3 (.ints .i64 (val (jav u5 u1))))],7⟩⟩
  exact⟨by kernel_rfl,(fun gs id _=>match id with
   |0=>l0.li
   |2=>(l1 (gs.getD 0 0)).li
   |_=>none),Sk.vd ho (.brB
   (.call (.obT (.obT (.ret (fun r=>(Ob (za r.1=(0:Nat)) ∧
 (Ob (nzI (val (jbq u5 u1))=r.2) ∧
 True))) ⟨⟨rfl⟩,⟨⟨rfl⟩,trivial⟩⟩))))
   (.call (.ob (.call (.loopQ (l0) [.c fun _=>0,.c fun _=>0,.c fun _=>(↑u1.length:Int),.c fun vv=>vv.1.1,.c fun _=>u5,.c fun _=>u5,.c fun _=>val (y48 u5 u1 (val (jav u5 u1)) (zh (zf (↑u1.length:Int)) false)),.p fun vv=>za vv.1.2=(0:Nat),.c fun _=>u1,.c fun _=>val (jav u5 u1)] (fun kk=>(((0:Int),[]),big)) (fun z0 =>
   .br
   (.ob (.ob (.ob (.call (.loop (l1 z0.2) (fun kk=>(z0.1,kk,0,big)) fun z1 =>
   .br
   (.ob (.ob (.brB
   (.brB
   (.ob (.ob (.brB
   (.ob (.ob (.brB
   (.ob (.exit (.next)))
   (.next))))
   (.next))))
   (.next))
   (.next))))
   (.exit (.next)))))))
   (.exit (.obT (.obT (.rc))))) (fun _=>⟨rfl,trivial⟩)))))) (by kernel_rfl)⟩
 ·cases h)
end Go.Sh
end

section
namespace Go.Sh
open Go Go.Proofs Go.RowKit Go.Sx
variable {g:List (List NC)} {l:List Int}
def joQ (h:Rg g l) {i:Nat} (hi:i<g.length):∀k,k<(nL g i 2).length->∃u:Nat,u<g.length∧(nL g i 2).getD k 0=(u:Int):=fun k hk=>by
 obtain⟨j,hj,e⟩:=h.surj hi;obtain⟨_,u,_,h1,h2,_⟩:=h.from hj e hi hk;exact⟨u,h1,h2⟩
end Go.Sh
end

section
namespace Go.Sh
open Go Go.Proofs Go.RowKit Go.Sx
variable {g:List (List NC)} {l:List Int}
def jxr {i:Nat} (hi:¬i<g.length):(cpU g).getD i []=g.getD i []:=by
 simp only[zb];rw[z7 (by rw[jcu];omega),z7 (by omega)]
def cpI (i:Nat):nI (cpU g) i 1=nI g i 1∧nI (cpU g) i 5=nI g i 5∧nI (cpU g) i 7=nI g i 7:=by
 by_cases hi:i<g.length
 ·exact cp_I hi
 ·unfold nI;rw[jxr hi];exact⟨rfl,rfl,rfl⟩
def cpL (i:Nat):nL (cpU g) i 2=nL g i 2∧nL (cpU g) i 3=nL g i 3∧nL (cpU g) i 4=nL g i 4:=by
 by_cases hi:i<g.length
 ·exact joO hi
 ·unfold nL;rw[jxr hi];exact⟨rfl,rfl,rfl⟩
def jAg (g:List (List NC)):jbx (cpU g)=jbx g:=by
 funext out;unfold jbx
 have:jd1 (cpU g) out=jd1 g out:=by
  funext i;unfold jd1 jdu jdP;rw[jcu,(cpL i).1,(cpI i).2.2]
 rw[jcu,this]
def Rg.cp (h:Rg g l):Rg (cpU g) l:=⟨cp_fw h.fw,fun i hi=>by rw[jcu]at hi;rw[jzY hi];exact h.ok i hi,by rw[jAg,jcu];exact h.ord⟩
def rg_of {nm:ByteArray} (hw:Fw g) (h:(cg nm g).2=0) (ho:jdF (jbx g) g.length []=some l):Rg g l:=⟨hw,jrv h,ho⟩
end Go.Sh
end

section
namespace Go.Sh
open Go Go.Proofs Go.RowKit Go.Sx
abbrev sp_138:jab->jab:=sp_138_139
def sp_138_ok {sp:jab} (h:jam Tryz.prog sp):jam Tryz.prog (sp_138 sp):=sp_138_139_ok h
open Go.IntKind (wrap)
set_option maxRecDepth 100000
def jkG:List SV:=[.c (.p [.d,.x (.st zS []),.r (.ints .i64 [])]),.c (.r (.recs 2 []))]
def y76 (u6:List (List NC)) (l:List (List Int)) (x0:Int):Option (Int ⊕ ((Int × Int) ⊕ Unit)) :=
 if x0<(↑l.length:Int)then if 0<=x0∧x0<(↑l.length:Int)then
  if zf x0<za l then
   ze (y34 (zb (zb l x0.toNat []) 0 (0:Int)) (0:Int) (wrap .i64 ((↑u6.length:Int)-1))) fun r0 =>
   if(!r0)=true then
   some (.inr ((.inl ((x0,6)))))
   else
   if 0<=z8 none (0:Int)∧z8 none 0<=z8 (some x0) (↑l.length:Int)∧z8 (some x0) (↑l.length:Int)<=(↑l.length:Int)then
    ze (y8 (je (zf (z8 (some x0) (↑l.length:Int))-0) (jf (0:Nat) l)) (zb (zb l x0.toNat []) 0 (0:Int)) (zb (zb l x0.toNat []) 1 (0:Int))) fun r1 =>
    if(r1)=true then
    some (.inr ((.inl ((x0,26)))))
    else
    ze (y34 (zb (zb l x0.toNat []) 1 (0:Int)) (0:Int) (16:Int)) fun r2 =>
    if(!r2)=true then some (.inr ((.inl ((x0,2)))))
    else some (.inl (wrap .i64 (x0+1)))
   else none
  else none
  else none
 else some (.inr ((.inr ())))
def jib (u3:Int × Int):Option (Int × Int) :=some (u3.1,u3.2)
def jic (u4:Unit):Option (Int × Int) :=some (((0:Int),0))
def y215:((Int × Int) ⊕ Unit)->Option (Int × Int) :=(qy (jib) (jic))
def y51 (u10:zY) (u6:List (List NC)) (u9:List Int) (l:List (List Int)):Option (Int × Int) :=
 if(↑l.length:Int)>24 then some (((0:Int),8))
 else ze (jae (y76 u6 l) big (0:Int)) (y215)
def y231:List Lf->Option GT|[.d (.s u10),.x (.st [.s,.i .i64,.ints .i64,.ints .i64,.ints .i64,.i .i64,.recs 5,.i .i64] u6),.r (.ints .i64 u9),.r (.recs 2 l)]=>some (.leaf (ok (y51 u10 u6 u9 l)) [.c (.d (.i .i64 ((val (y51 u10 u6 u9 l)).1))),.c (.d (.i .i64 ((val (y51 u10 u6 u9 l)).2)))])|_=>none
abbrev sp_92:jab->jab:=jal 92 true (jak jkG y231)
def sp_92_ok:KO sp_92:=jag (kT (sp_139_ok (sp_138_ok (sp_84_ok jaf))) Tryz.func92 (by kernel_rfl) fun ls t h ho=>by
 unfold y231 at h;split at h
 ·rename_i u10 u6 u9 l;cases h;have ho:=jad ho
  generalize val (y51 u10 u6 u9 l)=r at ho ⊢
  let l0:=lp0 (y76 u6 l) y215 r fun z=>⟨[(0,.w (.c (.p 2 0 1 0))),(1,.w (.c (.o 3))),(11,.w (.c (.o 3))),(12,.w (.c (.d (.i .i64 ((↑l.length:Int)))))),(13,.w (.c (.d (.i .i64 z.1))))],[(2,.ebox [.d (.s u10),.o 0,.o 1]),(3,.ext (.recs 2 l)),(0,.xext (XC.st zS u6)),(1,.ext (.ints .i64 u9))],4⟩
  exact⟨by kernel_rfl,(fun _ id _=>match id with
   |0=>l0.li
   |_=>none),Sk.vd ho (.br
   (.obT (.obT (.rc)))
   (.loop (l0) (fun kk=>((0:Int),big)) fun z0 =>
   .br
   (.ob (.ob (.obT (.call (.brB
   (.exit (.obT (.obT (.rc))))
   (.ob (.call (.brB
   (.exit (.obT (.obT (.rc))))
   (.call (.brB
   (.exit (.obT (.obT (.rc))))
   (.next)))))))))))
   (.exit (.obT (.obT (.rc)))))) (by kernel_rfl)⟩
 ·cases h)
end Go.Sh
end

section
namespace Go.Sh
open Go Go.Proofs Go.RowKit Go.Sx
variable {g:List (List NC)} {l:List Int}
def jid {Y:Type} (n:Nat) (P:Nat->Bool) {body:Int->Option (Int ⊕ Y)} (hit:Nat->Y) (miss:Y) (hlen:n<9223372036854775807)
  (h1:∀i,i<n->P i=true->body (i:Int)=some (.inr (hit i)))
  (h2:∀i,i<n->P i=false->body (i:Int)=some (.inl ((i:Int)+1))) (h3:body (n:Int)=some (.inr miss)) :
  jae body big 0=some (match(zm n).findIdx? P with|some i=>hit i|none=>miss):=by
 have e:∀i,i<n->(zm n).getD i 0=i:=fun i hi=>by simp[zb,hi]
 exact jaN (zm n) 0 P hit miss (by simpa using hlen) (fun i hi hp=>by
  have hi:i<n:=by simpa using hi
  rw[e i hi]at hp;exact h1 i hi hp) (fun i hi hp=>by
  have hi:i<n:=by simpa using hi
  rw[e i hi]at hp;exact h2 i hi hp) (by rw[x7];exact h3)
def fU (l:List (List Int)) (i:Nat):Int:=(l.getD i []).getD 0 0
def fB (l:List (List Int)) (i:Nat):Int:=(l.getD i []).getD 1 0
def jcZ (n:Nat) (l:List (List Int)) (i:Nat):Int :=if(!inB (fU l i) 0 ((n:Int)-1))=true then 6 else if((zm i).any fun k=>fU l k==fU l i)=true then 26 else if(!inB (fB l i) 0 16)=true then 2 else 0
def cf (n:Nat) (l:List (List Int)):Int × Int :=
 if(l.length:Int)>24 then(0,8)else match(zm l.length).findIdx? (fun i=>jcZ n l i != 0)with
  |some i=>((i:Int),jcZ n l i)
  |none=>(0,0)
def jD2 (nm:ByteArray) (f:List (List Int)) (hn:g.length<1000):y71 nm g f=some (cf g.length f):=by
 unfold y71 cf
 by_cases h24:(f.length:Int)>24
 ·rw[if_pos h24,if_pos h24]
 ·rw[if_neg h24,if_neg h24]
  rw[jid (body:=y98 g f) f.length (fun i=>jcZ g.length f i != 0) (fun i=>.inl ((i:Int),jcZ g.length f i)) (.inr ()) (by omega) (fun i hi hp=>?_) (fun i hi hp=>?_) (by
   unfold y98;rw[if_neg (by omega)])]
  ·cases (zm f.length).findIdx? (fun i=>jcZ g.length f i != 0)<;>rfl
  all_goals
   have kin:=jcW (body:=y65 f (i:Int)) i (fun k=>fU f k==fU f i) (.inl ()) (.inr ()) (by omega) (fun k hk hp=>by
    unfold y65;simp only[zg];rw[if_pos (by omega),if_pos (by omega),if_pos (by omega),if_pos (by omega),if_pos hi];exact if_pos hp) (fun k hk hp=>by
    unfold y65;simp only[zg];rw[if_pos (by omega),if_pos (by omega),if_pos (by omega),if_pos (by omega),if_pos hi,jai (by omega)];exact if_neg (by show ¬((fU f k==fU f i)=true);rw[hp];exact qB)) (by
    unfold y65;rw[if_neg (by omega)])
   unfold y98 y188 y211 y212;simp only[zg];rw[if_pos (by omega),if_pos (by omega),if_pos hi,jai (x:=(g.length:Int)-1) (by omega),jaY,jaa,kin,jaa];have e1:(f.getD i []).getD 0 0=fU f i:=rfl;have e2:(f.getD i []).getD 1 0=fB f i:=rfl;simp only[e1,e2];rcases Bool.eq_false_or_eq_true (inB (fU f i) 0 ((g.length:Int)-1))with hA|hA<;>rcases Bool.eq_false_or_eq_true ((zm i).any (fun k=>fU f k==fU f i))with hB|hB<;>rcases Bool.eq_false_or_eq_true (inB (fB f i) 0 16)with hC|hC<;>simp[jcZ,hA,hB,hC,hi,jaY,jai,show(-9223372036854775808<=(i:Int)+1∧(i:Int)+1<=9223372036854775807) by omega]at hp ⊢
def jD3 (s:List (List Int)) (u b:Int) (hs:s.length<1000):y8 s u b=some ((zm s.length).any fun k=>fU s k==u):=by
 unfold y8 y19
 rw[jid (body:=y12 s u b) s.length (fun k=>fU s k==u) (fun i=>.inl (i:Int)) (.inr ()) (by omega) (fun i hi hp=>by
   unfold y12 y57;simp only[zg];rw[if_pos (by omega),if_pos (by omega),if_pos hi,jaa];exact if_pos hp) (fun i hi hp=>by
   unfold y12 y57;simp only[zg];rw[if_pos (by omega),if_pos (by omega),if_pos hi,jaa,jai (by omega)];exact if_neg (by show ¬((fU s i==u)=true);rw[hp];exact qB)) (by
   unfold y12;rw[if_neg (by omega)])]
 rw[<-jh8];cases (zm s.length).findIdx? (fun k=>fU s k==u)with
 |none=>rfl
 |some i =>
  show some (decide ((i:Int)>=0))=some true
  simp
def jAh {n:Nat} {P Q:Nat->Bool} (h:∀k,k<n->P k=Q k):(zm n).any P=(zm n).any Q:=by
 rw[yV,qY,qY];constructor
 ·rintro ⟨k,hk,hp⟩;exact⟨k,hk,by rw[<-h k (qZ.1 hk)];exact hp⟩
 ·rintro ⟨k,hk,hp⟩;exact⟨k,hk,by rw[h k (qZ.1 hk)];exact hp⟩
def jD4 (nm:ByteArray) (od:List Int) (f:List (List Int)) (hn:g.length<1000):y51 nm g od f=some (cf g.length f):=by
 unfold y51 cf
 by_cases h24:(f.length:Int)>24
 ·rw[if_pos h24,if_pos h24]
 ·rw[if_neg h24,if_neg h24]
  rw[jid (body:=y76 g f) f.length (fun i=>jcZ g.length f i != 0) (fun i=>.inl ((i:Int),jcZ g.length f i)) (.inr ()) (by omega) (fun i hi hp=>?_) (fun i hi hp=>?_) (by
   unfold y76;rw[if_neg (by omega)])]
  ·cases (zm f.length).findIdx? (fun i=>jcZ g.length f i != 0)<;>rfl
  all_goals
   have kin:y8 (f.take i) (fU f i) (fB f i)=some ((zm i).any fun k=>fU f k==fU f i):=by
    have hl:(f.take i).length=i:=by simp;omega
    rw[jD3 _ _ _ (by omega),hl]
    congr 1
    exact jAh fun k hk=>by unfold fU;rw[jl3 _ _ hk]
   unfold y76;simp only[z9,jA,zg,jC,yq];rw[if_pos (by omega),if_pos (by omega),if_pos hi,jai (x:=(g.length:Int)-1) (by omega),jbl,jaa];have kin':y8 (f.take i) ((f.getD i []).getD 0 0) ((f.getD i []).getD 1 0)=_:=kin;rw[kin',jaa,jbl,jaa];have e1:(f.getD i []).getD 0 0=fU f i:=rfl;have e2:(f.getD i []).getD 1 0=fB f i:=rfl;simp only[e1,e2];rcases Bool.eq_false_or_eq_true (inB (fU f i) 0 ((g.length:Int)-1))with hA|hA<;>rcases Bool.eq_false_or_eq_true ((zm i).any (fun k=>fU f k==fU f i))with hB|hB<;>rcases Bool.eq_false_or_eq_true (inB (fB f i) 0 16)with hC|hC<;>simp[jcZ,hA,hB,hC,hi,Nat.le_of_lt hi,jai,show(-9223372036854775808<=(i:Int)+1∧(i:Int)+1<=9223372036854775807) by omega]at hp ⊢
def jxs {n:Nat} {f:List (List Int)} (h:(cf n f).2=0):cf n f=(0,0)∧f.length<=24∧∀i,i<f.length->jcZ n f i=0:=by
 unfold cf at h ⊢;split at h
 ·exact absurd (show(8:Int)=0 from h) (by omega)
 ·rename_i h24;rw[if_neg h24];cases hf:(zm f.length).findIdx? (fun i=>jcZ n f i != 0)with
  |none =>
   refine⟨rfl,by omega,fun i hi=>?_⟩;rw[qv]at hf;simpa using hf i (qZ.2 hi)
  |some i =>
   rw[hf]at h;have h:jcZ n f i=0:=h;rw[qm]at hf;obtain⟨hlt,hp,_⟩:=hf;simp only[yS]at hp;rw[h]at hp;exact absurd hp (by decide)
def jl5 {n:Nat} {f:List (List Int)} {i:Nat} (h:jcZ n f i=0):(0<=fU f i∧fU f i<(n:Int))∧∀k,k<i->fU f k≠fU f i:=by
 unfold jcZ at h;split at h
 ·omega
 ·rename_i h1;split at h
  ·omega
  ·rename_i h2;refine⟨?_,fun k hk e=>h2 (qY.2 ⟨k,qZ.2 hk,by simp[e]⟩)⟩;simp[inB]at h1;omega
def jyK (f:List (List Int)) (block:Int) (u:Nat):Bool:=(zm f.length).any fun i=>fU f i==(u:Int)&&decide (fB f i<=block)
def jca (f:List (List Int)) (block:Int) (u m:Nat):List Int:=((zm m).filter fun i=>fU f i==(u:Int)&&decide (fB f i<=block)).map fun _=>(u:Int)
def jaE (f:List (List Int)) (block:Int):Nat->List Int|0=>[]|u+1=>jaE f block u++jca f block u f.length
def jsC (f:List (List Int)) (block:Int) (u m:Nat):(jca f block u m).length<=m:=by
 unfold jca;rw[qh];exact xb (List.length_filter_le _ _) (by simp)
def jl6 (f:List (List Int)) (block:Int):∀u,(jaE f block u).length<=u*f.length
 |0=>by simp[jaE]
 |u+1=>by
  have:=jl6 f block u;have:=jsC f block u f.length;unfold jaE;rw[qc,Nat.succ_mul];omega
def jyL (f:List (List Int)) (block:Int) (u m:Nat):jca f block u (m+1)=if(fU f m==(u:Int)&&decide (fB f m<=block))=true then jca f block u m++[(u:Int)]else jca f block u m:=by
 unfold jca;rw[x8,List.filter_append];cases hw:(fU f m==(u:Int)&&decide (fB f m<=block))<;>simp[hw]
def jAi (f:List (List Int)) (block:Int) (u k:Nat):jaL (jca f block u f.length) k=(decide (k=u)&&jyK f block u):=by
 unfold jaL jca jyK;rw[List.any_map,yV,qY];constructor
 ·rintro ⟨i,hi,e⟩;rw[List.mem_filter]at hi;rw[zk,qY];exact⟨by simp at e;simp;omega,i,hi.1,hi.2⟩
 ·intro hh;rw[zk,qY]at hh;obtain⟨h1,i,h2,h3⟩:=hh;exact⟨i,List.mem_filter.2 ⟨h2,h3⟩,by simp at h1;simp[h1]⟩
def jsD (f:List (List Int)) (block:Int) (k:Nat):∀u,jaL (jaE f block u) k=(decide (k<u)&&jyK f block k)
 |0=>by simp[jaE,jaL]
 |u+1=>by
  have h1:jaL (jaE f block (u+1)) k=(jaL (jaE f block u) k||jaL (jca f block u f.length) k):=by
   unfold jaL
   show List.any (jaE f block u++jca f block u f.length) _=_
   rw[gA]
  rw[h1,jsD f block k u,jAi]
  by_cases hk:k=u
  ·subst hk;simp
  ·by_cases h2:k<u
   ·simp[hk,h2,show k<u+1 by omega]
   ·simp[hk,h2,show ¬k<u+1 by omega]
def jyM (nm:ByteArray) (f:List (List Int)) (block:Int) (hn:g.length<1000) (hf:f.length<=24):y18 nm g f block=some (jaE f block g.length):=by
 unfold y18
 have key:=jat (body:=jrh g f block) (fun u=>((u:Int),jaE f block u)) (y:=jaE f block g.length) (k:=g.length) (fun u hu=>by
   have hL:=jl6 f block u;have hL2:u*f.length<=1000*24:=Nat.mul_le_mul (by omega) hf;unfold jrh;rw[if_pos (by show(u:Int)<_;omega)]
   have kin:=jat (body:=jrg f block ((u:Int),jaE f block u)) (fun m=>((m:Int),jaE f block u++jca f block u m)) (y:=jaE f block (u+1)) (k:=f.length) (fun m hm=>by
     have hI:=jsC f block u m;unfold jrg;simp only[zg];rw[if_pos (by omega),if_pos (by omega),if_pos hm,jai (by omega),jyL];have e1:(f.getD m []).getD 0 0=fU f m:=rfl;have e2:(f.getD m []).getD 1 0=fB f m:=rfl;rw[e1,e2];cases hq:(fU f m==(u:Int))with
     |false=>rw[if_neg (by simp)];rfl
     |true =>
      rw[if_pos rfl,if_pos (by omega),if_pos hm]
      by_cases hb:fB f m<=block
      ·rw[if_pos hb,if_pos (by simp only[qc,zB,qe];omega),if_pos (by simpa using hb),qF];rfl
      ·rw[if_neg hb,if_neg (by simpa using hb)];rfl) (by
     unfold jrg;rw[if_neg (by show ¬(f.length:Int)<_;omega)];rfl) (by omega)
   have kin:jae (jrg f block ((u:Int),jaE f block u)) big ((0:Int),jaE f block u++jca f block u 0)=_:=kin;have e0:jaE f block u++jca f block u 0=jaE f block u:=by simp[jca]
   rw[e0]at kin;rw[kin,jaa];unfold y213;rw[jai (by simp;omega)];rfl) (by
   unfold jrh;rw[if_neg (by show ¬(g.length:Int)<_;omega)]) (by omega)
 have key:jae (jrh g f block) big ((0:Int),[])=_:=key;rw[key];rfl
def jvr (nm:ByteArray) (od:List Int) (f:List (List Int)) (block:Int) (hn:g.length<1000) (hf:f.length<=24) (hz:∀i,i<f.length->jcZ g.length f i=0) :
  ∃y,y46 nm g od f block=some y∧y.length=g.length∧(fun i=>y.getD i false)=jaL (jaE f block g.length):=by
 have key:∃y,jae (y36 f block) big ((0:Int),zh g.length false)=some y∧y.length=g.length∧(fun i=>y.getD i false)=jaL (jaE f block g.length):=by
  refine jlm (body:=y36 f block)
   (fun x=>∃k:Nat,k<=f.length∧x.1=(k:Int)∧x.2.length=g.length∧∀u:Nat,x.2.getD u false=(zm k).any fun i=>fU f i==(u:Int)&&decide (fB f i<=block))
   (fun x=>(f.length+1-x.1.toNat)) (fun y=>y.length=g.length∧(fun i=>y.getD i false)=jaL (jaE f block g.length)) (fun x hx=>?_) big ((0:Int),zh g.length false) ⟨0,by omega,rfl,by simp,fun u=>by
    simp only[zb,List.getElem?_replicate];split<;>rfl⟩ (by have:big=18446744073709551616:=rfl;simp;omega)
  obtain⟨a,out⟩:=x;obtain⟨k,hk,h1,h2,h3⟩:=hx;obtain rfl:a=(k:Int):=h1;have h2:out.length=g.length:=h2
  by_cases hkn:k<f.length
  ·left;obtain⟨hr,hd⟩:=jl5 (hz k hkn);obtain⟨v,hv⟩:∃v:Nat,fU f k=(v:Int):=⟨(fU f k).toNat,by omega⟩
   have e1:(f.getD k []).getD 0 0=(v:Int):=hv
   have hb:y36 f block ((k:Int),out)=some (.inl ((k:Int)+1,out.set v (decide (fB f k<=block)))):=by
    unfold y36;simp only[zg,e1];rw[if_pos (by omega),if_pos (by omega),if_pos hkn,if_pos (by omega),if_pos (by omega),jai (by omega)];rfl
   refine⟨_,hb,⟨k+1,by omega,by simp,by simp[h2],fun u=>?_⟩,by simp;omega⟩;have h3:∀u:Nat,out.getD u false=(zm k).any fun i=>fU f i==(u:Int)&&decide (fB f i<=block):=h3
   show(out.set v (decide (fB f k<=block))).getD u false=_
   rw[ja9 _ _ _ _ _ (by omega),x8,gA,<-h3 u]
   by_cases huv:v=u
   ·subst huv
    have h0:out.getD v false=false:=by
     rw[h3,xC];intro i hi;have:=hd i (qZ.1 hi);rw[hv]at this;simp[this]
    rw[if_pos rfl,h0];simp[hv]
   ·rw[if_neg huv];have:(fU f k==(u:Int))=false:=by rw[hv,beq_eq_false_iff_ne];omega
    simp[this]
  ·right;refine⟨out,?_,h2,?_⟩
   ·unfold y36;rw[if_neg (by show ¬(k:Int)<_;omega)]
   ·obtain rfl:k=f.length:=by omega
    funext u;rw[jsD]
    by_cases hu:u<g.length
    ·rw[decide_eq_true hu,kC];exact h3 u
    ·rw[decide_eq_false hu,Bool.false_and];simp only[zb];rw[z7 (by omega)];rfl
 obtain⟨y,hy,hl,hp⟩:=key;refine⟨y,?_,hl,hp⟩;unfold y46;rw[if_pos (by omega),zg,hy];rfl
end Go.Sh
end

section
namespace Go.Sh
open Go Go.Proofs Go.RowKit Go.Sx Go.Sx06
variable {g:List (List NC)} {l:List Int}
structure Uk (g:List (List NC)) (i:Nat):Prop where
 kd:0<=nI g i 1∧nI g i 1<=4
 one:nI g i 1≠0->0<(nL g i 2).length
 al:(nL g i 3).length=(nL g i 2).length
 ga:nI g i 1=1->(nL g i 4).length=(nL g i 2).length
 six:(nL g i 2).length<=6
 alr:∀k,k<(nL g i 3).length->0<=(nL g i 3).getD k 0∧(nL g i 3).getD k 0<=64
 gar:∀k,k<(nL g i 4).length->-4000<=(nL g i 4).getD k 0∧(nL g i 4).getD k 0<=4000
 de:0<=nI g i 5∧nI g i 5<=64
 ca:ja5 (nR g i 6)=0
 de0:nI g i 1≠2->nI g i 5=0
def jxt {l:List Int} {P:Int->Bool} (h:(l.any fun x=>!P x)=false):∀k,k<l.length->P (l.getD k 0)=true:=fun k hk=>by
 rw[xC]at h;have:=h (l.getD k 0) (by rw[jan hk];exact zW hk);simpa using this
def jdE {n a b:Int}:inB n a b=true<->a<=n∧n<=b:=by
 unfold inB;rw[zk,decide_eq_true_eq,decide_eq_true_eq]
def Rg.unit (h:Rg g l) {i:Nat} (hi:i<g.length):Uk g i:=by
 have h:=h.ok i hi;unfold jbg at h;split at h
 ·exact absurd h (by decide)
 split at h
 ·exact absurd h (by decide)
 split at h
 ·exact absurd h (by decide)
 split at h
 ·exact absurd h (by decide)
 rename_i _ _ _ hk;split at h
 ·exact absurd h (by decide)
 rename_i hs;split at h
 ·exact absurd h (by decide)
 split at h
 ·exact absurd h (by decide)
 split at h
 ·exact absurd h (by decide)
 split at h
 ·exact absurd h (by decide)
 rename_i _ _ _ hr;have hk:inB (nI g i 1) 0 4=true:=by simpa using hk
 have hs:jd0 (nI g i 1) (nL g i 2).length (nL g i 3).length (nL g i 4).length=true:=by simpa using hs
 have hr:jct (nI g i 1) (nL g i 3) (nL g i 4) (nI g i 5)=true:=by simpa using hr
 rw[jdE]at hk;unfold jct at hr;simp only[zk,xB,qU,beq_iff_eq]at hr;obtain⟨⟨⟨r1,r2⟩,r3⟩,r4⟩:=hr
 have hshape:(nI g i 1≠0->0<(nL g i 2).length)∧(nL g i 3).length=(nL g i 2).length∧(nI g i 1=1->(nL g i 4).length=(nL g i 2).length)∧(nL g i 2).length<=6:=by
  unfold jd0 at hs;split at hs
  ·rename_i e;simp only[zk,beq_iff_eq,jdE]at hs e;refine⟨fun hc=>absurd e hc,by omega,fun hc=>by omega,by omega⟩
  ·split at hs
   ·simp only[zk,beq_iff_eq,jdE]at hs;exact⟨fun _=>by omega,by omega,fun _=>by omega,by omega⟩
   ·rename_i e1 e2;simp only[zk,beq_iff_eq,jdE]at hs e1 e2;exact⟨fun _=>by omega,by omega,fun hc=>absurd hc e2,by omega⟩
 refine⟨hk,hshape.1,hshape.2.1,hshape.2.2.1,hshape.2.2.2,fun k hk=>jdE.1 (jxt r1 k hk),fun k hk=>jdE.1 (jxt r2 k hk),jdE.1 r3,?_,fun hc=>r4.resolve_left hc⟩;split at h
 ·exact h
 ·split at h
  ·rename_i e
   have e:(nR g i 6)=[]:=by
    simp only[beq_iff_eq]at e;exact z5 (by omega)
   rw[e];rfl
  ·exact absurd h (by decide)
def atI (P:List (List Nat)) (G:List (List Int)) (u k:Int):Int :=if k<0 then fi ((P.getD u.toNat []).getD (128+k).toNat 0)else(G.getD u.toNat []).getD k.toNat 0
def PR (n:Nat) (P:List (List Nat)):Prop:=P.length=n∧∀i,i<n->(P.getD i []).length=128∧∀j,j<128->se ((P.getD i []).getD j 0)=0
def GR (n:Nat) (G:List (List Int)):Prop:=G.length=n∧∀i,i<n->(G.getD i []).length=32∧∀j,j<32->inR ((G.getD i []).getD j 0)
def gw (G:List (List Int)):List (List Nat):=G.map fun r=>r.map nf
def jl7 (G:List (List Int)):(gw G).length=G.length:=by simp[gw]
def jvs {G:List (List Int)} {i:Nat} (h:i<G.length):(gw G).getD i []=(G.getD i []).map nf:=by
 rw[jan (by rw[jl7];exact h),jan h];simp[gw]
def jrA {α U:Type} (f:α->U) {r:List α} {j:Nat} {d:U} (e:α) (h:j<r.length):(r.map f).getD j d=f (r.getD j e):=by
 rw[jan (by simpa using h),jan h];simp
def jl8 (G:List (List Int)) (i:Nat) (r:List Int):(gw G).set i (r.map nf)=gw (G.set i r):=by
 unfold gw;rw[List.map_set]
def jl9 {n:Nat} {P:List (List Nat)} {G:List (List Int)} (hP:PR n P) (hG:GR n G) {u:Nat} {k:Int} (hu:u<n) (hk:-128<=k∧k<32):inR (atI P G (u:Int) k):=by
 unfold atI;rw[zg];split
 ·exact(je2 ((hP.2 u hu).2 _ (by omega))).2
 ·exact(hG.2 u hu).2 _ (by omega)
def jqf {x:Int} (h:inR x):-16777216<x∧x<16777216:=by unfold inR at h;omega
def jCs {n:Nat} {P:List (List Nat)} {G:List (List Int)} (hP:PR n P) (hG:GR n G) {u:Nat} {k:Int} (hu:u<n) (hk:-128<=k∧k<32) (hn:n<1000):jlr P (gw G) (u:Int) k=some (atI P G (u:Int) k):=by
 obtain⟨p1,p2⟩:=hP.2 u hu;obtain⟨g1,g2⟩:=hG.2 u hu;have hPl:=hP.1;have hGl:=hG.1;unfold jlr atI;split
 ·have h2:=p2 (128+k).toNat (by omega);rw[if_pos (by omega),zg,if_pos (by omega),jai (by omega),if_pos (by omega),if_pos (by omega),if_pos (je2 h2).1];rfl
 ·have e:(gw G).getD u []=(G.getD u []).map nf:=jvs (by omega);have hr:=g2 k.toNat (by omega);have hv:((gw G).getD u []).getD k.toNat 0=nf ((G.getD u []).getD k.toNat 0):=by rw[e,jrA nf 0 (by omega)]
  rw[if_pos (by rw[jl7];omega),if_pos (by omega),zg,if_pos (by rw[jl7];omega),jg,Nat.zero_add,hv,if_pos (show jbR .f32 .i64 (nf _)=true from (jvd (jqf hr)).2)];exact congrArg some (jCq (jqf hr))
def jb3 (P:List (List Nat)) (G:List (List Int)) (u d:Int):List Int:=(zm 32).map fun x:Nat=>atI P G u ((x:Int)-d)
def jbP {α:Type} (f:Nat->α) {n k:Nat} {d:α} (h:k<n):((zm n).map f).getD k d=f k:=by
 rw[jan (by simpa using h)];simp
def joR {e:Nat} {r:List Int} (h:r.length=e):jeH e r=r:=by
 subst h;apply x5
 ·simp[jeH]
 ·intro i h1 h2;simp[jeH,h2]
def jvt {f:Nat->Int} {i:Nat} (h:i<32) {A:List Int} (hA:A=(zm i).map f++zh (32-i) 0):(jeH 32 A).set i (f i)=(zm (i+1)).map f++zh (32-(i+1)) 0:=by
 have h2:32-i=(32-(i+1))+1:=by omega
 have hl:((zm i).map f).length=i:=by simp
 rw[hA,joR (by simp;omega),h2,jb,yT _ _ (by omega),hl,jl,List.set_cons_zero,x8,xa,qF];rfl
def jvu {n:Nat} {P:List (List Nat)} {G:List (List Int)} (hP:PR n P) (hG:GR n G) (hn:n<1000) {fr al:List Int} {f u:Nat} {later:Int} (hf:f<fr.length) (ha:f<al.length) (hl:fr.length<1000) (hl2:al.length<1000)
  (hu:u<n) (he:fr.getD f 0=(u:Int)) (h1:0<=al.getD f 0∧al.getD f 0<=64) (h2:0<=later∧later<=64) :
  y27 P (gw G) fr al (f:Int) later=some (jb3 P G (u:Int) (al.getD f 0+later)):=by
 have hit:jae (y62 P (gw G) fr al (f:Int) later) big (0,[]++zh (32-0) 0)=some (jb3 P G (u:Int) (al.getD f 0+later)) :=
  jat (body:=y62 P (gw G) fr al (f:Int) later) (fun i=>((i:Int),(zm i).map (fun x:Nat=>atI P G (u:Int) ((x:Int)-(al.getD f 0+later)))++zh (32-i) 0)) (k:=32) (fun i hi=>by
   unfold y62;dsimp only;rw[if_pos (by omega),if_pos (by omega),zg,if_pos hf,if_pos (by omega),if_pos ha,he,jai (x:=(i:Int)-al.getD f 0) (by omega),jai (by omega),jCs hP hG hu (by omega) hn,jaa,if_pos (by omega),zg,if_pos (by omega),jai (by omega)];have e0:(0:Nat)+((0:Nat)+i*(1:Nat))=i:=by omega
   rw[e0,show(i:Int)-al.getD f 0-later=(i:Int)-(al.getD f 0+later) by omega,jvt (f:=fun x:Nat=>atI P G (u:Int) ((x:Int)-(al.getD f 0+later))) hi rfl];rfl) (by
   unfold y62;dsimp only;rw[if_neg (by omega),jl];simp[jb3]) (by omega)
 unfold y27
 change (jae (y62 P (gw G) fr al (f:Int) later) big (0,[]++zh (32-0) 0)).bind _=_
 rw[hit];rfl
def jhx (P:List (List Nat)) (G:List (List Int)) (u d:Int):(jb3 P G u d).length=32:=by simp[jb3]
def jsE {P:List (List Nat)} {G:List (List Int)} {u d:Int} {k:Nat} (h:k<32):(jb3 P G u d).getD k 0=atI P G u ((k:Int)-d):=jbP _ h
def jie {n:Nat} {P:List (List Nat)} {G:List (List Int)} (hP:PR n P) (hG:GR n G) {u:Nat} {d:Int} (hu:u<n) (hd:0<=d∧d<=128):∀k,k<32->inR ((jb3 P G (u:Int) d).getD k 0):=fun k hk=>by
 rw[jsE hk];exact jl9 hP hG hu (by omega)
def jf0 {r:List Int} (h:r.length=32):y80 r=some (r.map nf):=by
 have hit:jae (jos r) big (0,[]++zh (32-0) 0)=some (r.map nf) :=
  jat (body:=jos r) (fun i=>((i:Int),(r.take i).map nf++zh (32-i) 0)) (k:=32) (fun i hi=>by
   unfold jos;dsimp only;have hlen:((r.take i).map nf).length=i:=by simp;omega
   have hs:=jvm (A:=(r.take i).map nf) (v:=nf (r.getD i 0)) (by omega);rw[hlen]at hs;rw[if_pos (by omega),if_pos (by omega),if_pos (by omega),zg,if_pos (by omega),jai (by omega)];have e0:(0:Nat)+((0:Nat)+i*(1:Nat))=i:=by omega
   rw[e0,show qw .f32 (r.getD i 0)=nf (r.getD i 0)from rfl,hs,jdv (by omega) 0,xa];rfl) (by
   unfold jos;dsimp only;rw[if_neg (by omega),<-h,yk,jl];simp) (by omega)
 unfold y80;have hz:([]:List Nat)++zh (32-0) 0=Z32:=rfl;rw[hz]at hit
 change (jae (jos r) big (0,Z32)).bind _=_
 rw[hit];rfl
end Go.Sh
end

section
namespace Go.Sh
open Go Go.Proofs Go.RowKit Go.Sx Go.Sx06
open Go.IntKind (wrap)
def jbQ (P:List (List Nat)) (G:List (List Int)) (fr al ga:List Int):Nat->Nat->Int|0,_=>0|m+1,x=>jbQ P G fr al ga m x+ga.getD m 0*atI P G (fr.getD m 0) ((x:Int)-al.getD m 0)
def rnI (n:Int):Int:=(2*n+1000)/2000
def clI (n:Int):Int:=max (-32767) (min 32767 n)
def jd2 (f:Nat->Int):Nat->Int|0=>0|i+1=>jd2 f i+if clI (rnI (f i))=rnI (f i)then 0 else 1
def jqg (P:List (List Nat)) (G:List (List Int)) (fr al ga:List Int):List Int:=(zm 32).map fun x=>clI (rnI (jbQ P G fr al ga ga.length x))
def jjX (f:Nat->Int):∀i:Nat,0<=jd2 f i∧jd2 f i<=i
 |0=>⟨yN _,yN _⟩
 |i+1=>by
  have:=jjX f i;unfold jd2;split<;>omega
def jBH (n:Int):inR (clI n):=by unfold inR clI;omega
def jhy {α:Type} (f:Nat->α) {n i:Nat} (v:α):((zm n).map f).set i v=(zm n).map fun x=>if x=i then v else f x:=by
 apply x5
 ·simp
 ·intro j h1 h2;simp only[f8,gm,yS]
  by_cases h:i=j
  ·subst h;simp
  ·rw[if_neg h,if_neg (fun e=>h e.symm)]
def jbt {α:Type} {f f':Nat->α} {n:Nat} (h:∀x,x<n->f x=f' x):(zm n).map f=(zm n).map f' :=qx fun x hx=>h x (qZ.1 hx)
def jwx {n:Int} (hn:-4000000000000000000<=n∧n<=4000000000000000000):jdo n 1000=some (rnI n):=by
 unfold jdo rnI;rw[jai (x:=2*n) (by omega),jai (x:=2*n+1000) (by omega),show wrap qP ((2:Int)*1000)=2000 from by rw[jai (by omega)];rfl,if_pos (by omega),if_pos (by omega)];have h0:(0:Int)<2000:=by omega
 have hN:-8000000000001000000<=2*n+1000∧2*n+1000<=8000000000001000000:=by omega
 generalize 2*n+1000=N at *
 have h1:=jn0 (n:=N) h0;rw[jai (x:=N.tdiv 2000) (by omega)];split
 ·rename_i h;rw[jai (by omega),jsu h0 h]
 ·rename_i h;rw[jsv h0 h]
section
variable {n:Nat} {P:List (List Nat)} {G:List (List Int)} {fr al ga:List Int}
structure Sk6 (n:Nat) (fr al ga:List Int):Prop where
 lal:al.length=fr.length
 lga:ga.length=fr.length
 six:fr.length<=6
 rfr:∀k,k<fr.length->∃u:Nat,u<n∧fr.getD k 0=(u:Int)
 alr:∀k,k<al.length->0<=al.getD k 0∧al.getD k 0<=64
 gar:∀k,k<ga.length->-4000<=ga.getD k 0∧ga.getD k 0<=4000
def jqh (hP:PR n P) (hG:GR n G) (hs:Sk6 n fr al ga) {m x:Nat} (hm:m<ga.length) (hx:x<32):-131068000<=ga.getD m 0*atI P G (fr.getD m 0) ((x:Int)-al.getD m 0)∧ga.getD m 0*atI P G (fr.getD m 0) ((x:Int)-al.getD m 0)<=131068000:=by
 have h1:=hs.lga;have h2:=hs.lal;obtain⟨u,hu,he⟩:=hs.rfr m (by omega);have h3:=hs.alr m (by omega);have h4:=hs.gar m hm;rw[he];have h5:=jl9 hP hG hu (k:=(x:Int)-al.getD m 0) (by omega);have:=jrx (a:=4000) (b:=32767) (by decide) (by decide) h4 h5;omega
def jf1 (hP:PR n P) (hG:GR n G) (hs:Sk6 n fr al ga) {x:Nat} (hx:x<32):∀m,m<=ga.length->-(m*131068000:Int)<=jbQ P G fr al ga m x∧jbQ P G fr al ga m x<=m*131068000
 |0,_=>⟨by simp[jbQ],by simp[jbQ]⟩
 |m+1,hm=>by
  have h1:=jf1 hP hG hs hx m (by omega);have h2:=jqh hP hG hs (m:=m) (x:=x) (by omega) hx;unfold jbQ
  push_cast
  omega
def jCP (hP:PR n P) (hG:GR n G) (hs:Sk6 n fr al ga) {m:Nat} (hm:m<ga.length) {u:Nat} (hu:u<n) (he:fr.getD m 0=(u:Int)) (y:List Int) :
  jae (jqQ ga ((m:Int),y) (jb3 P G (u:Int) (al.getD m 0+0))) big (0,(zm 32).map fun x=>jbQ P G fr al ga m x)=some ((zm 32).map fun x=>jbQ P G fr al ga (m+1) x):=by
 have h1:=hs.lga;have h6:=hs.six;have e0:((zm 32).map fun x=>jbQ P G fr al ga m x)=(zm 32).map fun x=>if x<0 then jbQ P G fr al ga (m+1) x else jbQ P G fr al ga m x:=jbt fun x _=>by rw[if_neg (by omega)]
 rw[e0]
 exact jat (body:=jqQ ga ((m:Int),y) (jb3 P G (u:Int) (al.getD m 0+0))) (fun i=>((i:Int),(zm 32).map fun x=>if x<i then jbQ P G fr al ga (m+1) x else jbQ P G fr al ga m x)) (k:=32) (fun i hi=>by
  unfold jqQ;have ei:(0:Nat)+((0:Nat)+i*(1:Nat))=i:=by omega
  have ht:=jqh hP hG hs hm hi;have hr:=jf1 hP hG hs hi m (by omega);have hr2:=jf1 hP hG hs hi (m+1) (by omega);dsimp only;rw[if_pos (by omega),if_pos (by omega),if_pos (by omega),zg,ei,if_pos hi,if_pos (by omega),if_pos hi,zg,jai (x:=(i:Int)+1) (by omega),joR (by simp),jbP _ hi,if_neg (by omega),jsE hi,Int.add_zero];rw[he]at ht;rw[jai (x:=ga.getD m 0*_) (by omega)];have es:jbQ P G fr al ga m i+ga.getD m 0*atI P G (u:Int) ((i:Int)-al.getD m 0)=jbQ P G fr al ga (m+1) i:=by rw[<-he];rfl
  rw[es,jai (by push_cast at hr2;omega),jhy]
  congr 3
  refine jbt fun x hx=>?_
  by_cases hxi:x=i
  ·subst hxi;rw[if_pos rfl,if_pos (by omega)]
  ·rw[if_neg hxi]
   by_cases hlt:x<i
   ·rw[if_pos hlt,if_pos (by omega)]
   ·rw[if_neg hlt,if_neg (by omega)]) (by
  unfold jqQ;dsimp only;rw[if_neg (by omega)];rfl) (by omega)
def jCQ {f:Nat->Int} (hf:∀x,x<32->-4000000000000000000<=f x∧f x<=4000000000000000000) :
  jae (y81 ((zm 32).map f)) big (0,0,(zm 32).map f)=some (jd2 f 32,(zm 32).map fun x=>clI (rnI (f x))):=by
 have e0:((zm 32).map f)=(zm 32).map fun x=>if x<0 then clI (rnI (f x))else f x:=jbt fun x _=>by rw[if_neg (by omega)]
 have key:∀i,i<32->y81 ((zm 32).map f) (jd2 f i,(i:Int),(zm 32).map fun x=>if x<i then clI (rnI (f x))else f x)=some (.inl (jd2 f (i+1),((i+1:Nat):Int),(zm 32).map fun x=>if x<i+1 then clI (rnI (f x))else f x)):=fun i hi=>by
  unfold y81;have ei:(0:Nat)+((0:Nat)+i*(1:Nat))=i:=by omega
  have hc:=jjX f i;dsimp only;rw[if_pos (by omega),if_pos (by omega),zg,jbP _ hi,jwx (hf i hi),jaa,if_pos (by omega),ei,if_pos hi,if_pos (by omega),if_pos hi,joR (by simp),jvk,jhy,jbP _ hi,if_pos rfl,jai (x:=(i:Int)+1) (by omega),jai (x:=jd2 f i+1) (by omega)]
  have er:((zm 32).map fun x=>if x=i then max (-32767) (min 32767 (rnI (f i)))else if x<i then clI (rnI (f x))else f x)=(zm 32).map fun x=>if x<i+1 then clI (rnI (f x))else f x:=jbt fun x hx=>by
   by_cases hxi:x=i
   ·subst hxi;rw[if_pos rfl,if_pos (by omega)];rfl
   ·rw[if_neg hxi]
    by_cases hlt:x<i
    ·rw[if_pos hlt,if_pos (by omega)]
    ·rw[if_neg hlt,if_neg (by omega)]
  rw[er]
  show(if(clI (rnI (f i))!=rnI (f i))=true then _ else _)=_
  rw[show jd2 f (i+1)=jd2 f i+if clI (rnI (f i))=rnI (f i)then 0 else 1 from rfl]
  by_cases hz:clI (rnI (f i))=rnI (f i)
  ·rw[if_neg (by simpa using hz),if_pos hz,Int.add_zero];rfl
  ·rw[if_pos (by simpa using hz),if_neg hz];rfl
 have hit:=jat (body:=y81 ((zm 32).map f)) (fun i=>(jd2 f i,(i:Int),(zm 32).map fun x=>if x<i then clI (rnI (f x))else f x)) (y:=(jd2 f 32,(zm 32).map fun x=>clI (rnI (f x)))) (k:=32) (fun i hi=>key i hi) (by
  unfold y81;dsimp only;rw[if_neg (by omega)];rfl) (by omega)
 have e1:((0:Int),(0:Int),(zm 32).map f)=(jd2 f 0,((0:Nat):Int),(zm 32).map fun x=>if x<0 then clI (rnI (f x))else f x):=by rw[<-e0];rfl
 rw[e1];exact hit
def jD5 (hP:PR n P) (hG:GR n G) (hn:n<1000) (hs:Sk6 n fr al ga) :
  jlt P (gw G) fr al ga=some ((jqg P G fr al ga).map nf,jd2 (fun x=>jbQ P G fr al ga ga.length x) 32):=by
 have h1:=hs.lga;have h2:=hs.lal;have h6:=hs.six
 have key:∀m,m<ga.length->y64 P (gw G) fr al ga ((m:Int),(zm 32).map fun x=>jbQ P G fr al ga m x)=some (.inl (((m+1:Nat):Int),(zm 32).map fun x=>jbQ P G fr al ga (m+1) x)):=fun m hm=>by
  obtain⟨u,hu,he⟩:=hs.rfr m (by omega);have h3:=hs.alr m (by omega);unfold y64;dsimp only;rw[if_pos (by omega),if_pos (by omega),zg,if_pos hm,jvu hP hG hn (by omega) (by omega) (by omega) (by omega) hu he h3 ⟨yN 0,by omega⟩,jaa,jCP hP hG hs hm hu he,jaa];unfold jeQ;dsimp only;rw[jai (by omega)];rfl
 have hit:=jat (body:=y64 P (gw G) fr al ga) (fun m=>((m:Int),(zm 32).map fun x=>jbQ P G fr al ga m x)) (y:=(zm 32).map fun x=>jbQ P G fr al ga ga.length x) (k:=ga.length) key (by
  unfold y64;dsimp only;rw[if_neg (by omega)]) (by omega)
 have hit2:=jCQ (f:=fun x=>jbQ P G fr al ga ga.length x) (fun x hx=>by
  have:=jf1 hP hG hs hx ga.length (zp _);omega)
 have hz:((zm 32).map fun x=>jbQ P G fr al ga 0 x)=zh 32 0:=rfl;unfold jlt;have hit':jae (y64 P (gw G) fr al ga) big (0,zh 32 0)=some ((zm 32).map fun x=>jbQ P G fr al ga ga.length x):=hit
 change (jae (y64 P (gw G) fr al ga) big (0,zh 32 0)).bind _=_
 rw[hit',jaa];unfold jeS;rw[hit2,jaa];unfold jeR;rw[jf0 (by simp),jaa];rfl
end
end Go.Sh
end

section
namespace Go.Sh
open Go Go.Proofs Go.RowKit Go.Sx Go.Sx06
variable {g:List (List NC)} {l:List Int}
def jgM (g:List (List NC)) (kind:Int) (m:Nat):List Int:=((zm m).filter fun i=>nI g i 1==kind).map fun(i:Nat)=>(i:Int)
def jaJ (g:List (List NC)) (kind:Int):List Int:=jgM g kind g.length
def jAj (g:List (List NC)) (kind:Int) (m:Nat):jgM g kind (m+1)=if(nI g m 1==kind)=true then jgM g kind m++[(m:Int)]else jgM g kind m:=by
 unfold jgM;rw[x8,List.filter_append];cases hw:nI g m 1==kind<;>simp[hw]
def jdw (g:List (List NC)) (kind:Int) (m:Nat):(jgM g kind m).length<=m:=by
 unfold jgM;rw[qh];exact xb (List.length_filter_le _ _) (by simp)
def jgb (hn:g.length<1000) (kind:Int):y6 g kind=some (jaJ g kind):=by
 have hit:jae (y58 g kind) big (0,[])=some (jaJ g kind):=jat (body:=y58 g kind) (fun i=>((i:Int),jgM g kind i)) (k:=g.length) (fun i hi=>by
  have hl:=jdw g kind i;unfold y58;dsimp only;rw[if_pos (by omega),if_pos (by omega),zg,if_pos hi,jAj]
  by_cases h:(nI g i 1==kind)=true
  ·rw[if_pos h,if_pos h,if_pos (by simp only[zB,qe];omega),jai (by omega)];rfl
  ·rw[if_neg h,if_neg h,jai (by omega)];rfl) (by
  unfold y58;dsimp only;rw[if_neg (by omega)];rfl) (by omega)
 unfold y6;rw[hit];rfl
def jxu {kind x:Int} (h:x∈jaJ g kind):∃u:Nat,u<g.length∧x=(u:Int)∧nI g u 1=kind:=by
 unfold jaJ jgM at h;obtain⟨u,hu,rfl⟩:=qn.1 h;rw[List.mem_filter,qZ,beq_iff_eq]at hu;exact⟨u,hu.1,rfl,hu.2⟩
def jCR {u:Nat} (h:u<g.length):(u:Int)∈jaJ g (nI g u 1):=by
 unfold jaJ jgM;refine qn.2 ⟨u,?_,rfl⟩;rw[List.mem_filter,qZ,beq_iff_eq];exact⟨h,rfl⟩
def jCS {kind:Int} {k:Nat} (h:k<(jaJ g kind).length):∃u:Nat,u<g.length∧(jaJ g kind).getD k 0=(u:Int)∧nI g u 1=kind:=by
 rw[jan h];exact jxu (zW h)
def idxE (s:List Int) (v:Int) (hl:s.length<1000):y44 s v=some (match s.findIdx? (fun x=>v==x)with|some j=>(j:Int)|none=>-1):=by
 unfold y44
 rw[jaN (body:=y20 s v) s 0 (fun x=>v==x) (fun i=>.inl (i:Int)) (.inr ()) (by omega) (fun i hi hp=>?_) (fun i hi hp=>?_) (by
  unfold y20;rw[if_neg (by omega)])]
 ·cases s.findIdx? (fun x=>v==x)<;>rfl
 ·unfold y20;simp only[zg];rw[if_pos (by omega),if_pos (by omega),if_pos hi,if_pos hp]
 ·unfold y20;simp only[zg];rw[if_pos (by omega),if_pos (by omega),if_pos hi,if_neg (by rw[hp];exact qB),jai (by omega)]
def chI (g:List (List NC)) (i:Nat):Nat:=((jaJ g (nI g i 1)).findIdx? fun x=>(i:Int)==x).getD 0
def jqi (hn:g.length<1000) {i:Nat} (hi:i<g.length):y40 g (i:Int)=some (chI g i:Int)∧chI g i<(jaJ g (nI g i 1)).length:=by
 have hl:=jdw g (nI g i 1) g.length;have hlen:(jaJ g (nI g i 1)).length<1000:=by unfold jaJ;omega
 unfold y40 chI;rw[if_pos (by omega),zg,if_pos hi,jgb hn,jaa,idxE _ _ hlen,jaa];have hm:=jCR hi;cases hf:(jaJ g (nI g i 1)).findIdx? fun x=>(i:Int)==x with
 |none =>
  rw[qv]at hf;have:=hf _ hm;simp at this
 |some j =>
  rw[qm]at hf;exact⟨rfl,hf.1⟩
def BR (g:List (List NC)) (B:List (List Nat)):Prop:=B.length=(jaJ g 0).length∧∀c,c<B.length->(B.getD c []).length=32∧∀j,j<32->se ((B.getD c []).getD j 0)=0
def FR (g:List (List NC)) (fs:List (List (List Int))):Prop:=fs.length=g.length∧∀i,i<g.length->(csS (nR g i 6) (fs.getD i [])).2=0
def jvv {α U:Type} (f:α->U) {r:List α} {n:Nat} (d:α) (h:r.length=n):r.map f=(zm n).map fun j=>f (r.getD j d):=by
 subst h;apply x5
 ·simp
 ·intro j a b;have a':j<r.length:=by simpa using a
  simp only[gm,yS];rw[jan a']
def jBI {g:List (List NC)} {B:List (List Nat)} (hB:BR g B) {c:Nat} (hc:c<B.length):jae (y75 B (c:Int)) big (0,[]++zh (32-0) 0)=some ((B.getD c []).map fi):=by
 obtain⟨h1,h2⟩:=hB.2 c hc;have e0:((B.getD c []).map fi)=(zm 32).map fun j=>fi ((B.getD c []).getD j 0):=jvv fi 0 h1;rw[e0]
 exact jat (body:=y75 B (c:Int)) (fun i=>((i:Int),(zm i).map (fun j=>fi ((B.getD c []).getD j 0))++zh (32-i) 0)) (k:=32) (fun i hi=>by
  unfold y75;dsimp only;rw[if_pos (by omega),if_pos (by omega),zg,zg,if_pos (je2 (h2 i hi)).1,if_pos (by omega),if_pos (by omega),jai (by omega)];have ei:(0:Nat)+((0:Nat)+i*(1:Nat))=i:=by omega
  rw[ei,show f2i .f32 ((B.getD c []).getD i 0)=(fun j=>fi ((B.getD c []).getD j 0)) i from rfl,jvt hi rfl];rfl) (by
  unfold y75;dsimp only;rw[if_neg (by omega),jl];simp) (by omega)
def jAk {c s:List (List Int)} (hl:s.length=c.length) (h:∀r∈s,jfD r=false):(csS c s).2=0:=by
 unfold csS;rw[if_neg (by omega)]
 have:s.findIdx? jfD=none:=by
  rw[qv];exact h
 rw[this]
def jif (g:List (List NC)) (P:List (List Nat)) (fs:List (List (List Int))) (B:List (List Nat)) (G:List (List Int)) (i:Nat):List Int × List (List Int) × Int :=if nI g i 1=0 then((B.getD (chI g i) []).map fi,fs.getD i [],0)
 else if nI g i 1=1 then(jqg P G (nL g i 2) (nL g i 3) (nL g i 4),fs.getD i [],jd2 (fun x=>jbQ P G (nL g i 2) (nL g i 3) (nL g i 4) (nL g i 4).length x) 32)
 else if nI g i 1=3 then
  (jb9 (jbs (nR g i 6) (fs.getD i []) (nR g i 6).length) (jb3 P G ((nL g i 2).getD 0 0) ((nL g i 3).getD 0 0)),(jb2 (jbs (nR g i 6) (fs.getD i []) (nR g i 6).length) (jb3 P G ((nL g i 2).getD 0 0) ((nL g i 3).getD 0 0))).map stU,jbc (jb2 (jbs (nR g i 6) (fs.getD i []) (nR g i 6).length) (jb3 P G ((nL g i 2).getD 0 0) ((nL g i 3).getD 0 0))))
 else(jb3 P G ((nL g i 2).getD 0 0) ((nL g i 3).getD 0 0+nI g i 5),fs.getD i [],0)
def jc0 (g:List (List NC)) (P:List (List Nat)) (fs:List (List (List Int))) (B:List (List Nat)) (who:List Int) (i:Nat) (G:List (List Int)) (A:List (List (List Int))) (C:List Int):List (List Int) × List (List (List Int)) × List Int :=if who.getD i 0=-1 then(G,A.set i (fs.getD i []),C)
 else if who.getD i 0≠(i:Int)then(G.set i (G.getD (who.getD i 0).toNat []),A.set i (fs.getD i []),C)
 else(G.set i (jif g P fs B G i).1,A.set i (jif g P fs B G i).2.1,if nI g i 1=1∨nI g i 1=3 then C.set i (jif g P fs B G i).2.2 else C)
def jn2 {k:Int}:∀us:List (List Int),(∀u∈us,jjW k u)->0<=jbc us∧jbc us<=us.length*k
 |[],_=>by simp[jbc]
 |u::us,h=>by
  have h1:=jn2 us fun v hv=>h v (zu _ hv);obtain⟨_,_,_,h0,h9⟩:=h u zw;unfold jbc
  have e:((u::us).length:Int)*k=us.length*k+k:=by
   rw[zB,Int.natCast_add,Int.add_mul];omega
  rw[e];omega
def Rg.six (h:Rg g l) {i:Nat} (hi:i<g.length) (h1:nI g i 1=1):Sk6 g.length (nL g i 2) (nL g i 3) (nL g i 4) :=have hu:=h.unit hi
 ⟨hu.al,hu.ga h1,hu.six,joQ h hi,hu.alr,hu.gar⟩
def jCT {k:Int} {u:List Int} (h:jjW k u):jfD (stU u)=false:=by
 obtain⟨_,_,hs,_⟩:=h;unfold jfD stU;simp only[List.getD_cons_zero,List.getD_cons_succ];rw[decide_eq_true (show inR (u.getD 5 0)from hs 5 (by decide) (by decide)),decide_eq_true (show inR (u.getD 6 0)from hs 6 (by decide) (by decide)),decide_eq_true (show inR (u.getD 7 0)from hs 7 (by decide) (by decide)),decide_eq_true (show inR (u.getD 8 0)from hs 8 (by decide) (by decide))];rfl
def jCU {c s:List (List Int)} (hc:ja5 c=0) (hs:(csS c s).2=0) {x:List Int} (hl:x.length=32) (hx:∀y∈x,inR y) :
  ((jb9 (jbs c s c.length) x).length=32∧∀y∈jb9 (jbs c s c.length) x,inR y)∧(csS c ((jb2 (jbs c s c.length) x).map stU)).2=0∧0<=jbc (jb2 (jbs c s c.length) x)∧jbc (jb2 (jbs c s c.length) x)<=200:=by
 have hok:=jxo hc hs;have hul:(jbs c s c.length).length=c.length:=jh9 _ _ _;have h6:=(je3 hc).1
 generalize jbs c s c.length=us at *
 have hend:=jmS hok hx;have hr:=jn2 _ hend;have hel:(jb2 us x).length=c.length:=by rw[jdJ,hul]
 refine⟨⟨by rw[jgK,hl],jnZ hx⟩,jAk (by rw[qh,hel]) fun r hr=>?_,?_⟩
 ·obtain⟨u,hu,rfl⟩:=qn.1 hr;exact jCT (hend u hu)
 ·rw[hel,hl]at hr;refine⟨hr.1,Int.le_trans hr.2 ?_⟩;have:((32:Nat):Int)=32:=rfl;rw[this,Int.zero_add];omega
def jqj {x:List Int} {n:Nat} (hl:x.length=n) (h:∀k,k<n->inR (x.getD k 0)):∀y∈x,inR y:=fun y hy=>by
 obtain⟨k,hk,rfl⟩:=xx.1 hy;rw[<-jan (d:=0) hk];exact h k (by omega)
def jyN {x:List Int} {n:Nat} (hl:x.length=n) (h:∀y∈x,inR y):∀k,k<n->inR (x.getD k 0):=fun k hk=>by
 rw[jan (by omega)];exact h _ (zW _)
def jD6 (h:Rg g l) {P:List (List Nat)} {fs:List (List (List Int))} {B:List (List Nat)} {G:List (List Int)} (hP:PR g.length P) (hF:FR g fs) (hB:BR g B) (hG:GR g.length G) {i:Nat} (hi:i<g.length) :
  ((jif g P fs B G i).1.length=32∧∀j,j<32->inR ((jif g P fs B G i).1.getD j 0))∧(csS (nR g i 6) (jif g P fs B G i).2.1).2=0∧0<=(jif g P fs B G i).2.2∧(jif g P fs B G i).2.2<=200:=by
 have hu:=h.unit hi;have hfi:=hF.2 i hi;unfold jif;split
 ·rename_i h0;obtain⟨_,hc⟩:=jqi h.n hi;rw[h0]at hc;obtain⟨b1,b2⟩:=hB.2 (chI g i) (by rw[hB.1];exact hc);refine⟨⟨by simpa using b1,fun j hj=>?_⟩,hfi,yN 0,(by decide:(0:Int)<=200)⟩;rw[jrA fi 0 (by omega)];exact(je2 (b2 j hj)).2
 ·rename_i h0;have hone:=hu.one h0;have hal:=hu.al;obtain⟨v,hv,he⟩:=joQ h hi 0 hone;have ha0:=hu.alr 0 (by omega);split
  ·rename_i h1;refine⟨⟨by simp[jqg],fun j hj=>?_⟩,hfi,?_⟩
   ·unfold jqg;rw[jbP _ hj];exact jBH _
   ·have:=jjX (fun x=>jbQ P G (nL g i 2) (nL g i 3) (nL g i 4) (nL g i 4).length x) 32;dsimp only;omega
  ·split
   ·rename_i h1 h3;rw[he];have hr:=jie hP hG hv (d:=(nL g i 3).getD 0 0) (by omega);have hl:=jhx P G (v:Int) ((nL g i 3).getD 0 0)
    generalize jb3 P G (v:Int) ((nL g i 3).getD 0 0)=x at *
    obtain⟨⟨f1,f2⟩,f3,f4⟩:=jCU hu.ca hfi hl (jqj hl hr);exact⟨⟨f1,jyN f1 f2⟩,f3,f4⟩
   ·rename_i h1 h3;have hd:=hu.de;rw[he];exact⟨⟨jhx _ _ _ _,jie hP hG hv (by omega)⟩,hfi,yN 0,(by decide:(0:Int)<=200)⟩
end Go.Sh
end

section
namespace Go.Sh
open Go Go.Proofs Go.RowKit Go.Sx
open Go.IntKind (wrap)
set_option maxRecDepth 100000
def jAl:List SV:=[.c (.p [.p [.d,.x (.st zS []),.r (.ints .i64 [])],.d,.x (.ff .f32 []),.x (.rr 4 []),.r (.frs .f32 32 []),.r (.ints .i64 []),.m,.m,.m]),.c (.p [.p [.d,.x (.st zS []),.r (.ints .i64 [])]])]
def jez (u23:List (List NC)) (u14:List (List Nat)) (u50:List (List (List Int))) (u31:List (List Nat)) (u51:List Int) (u60:List Int) (x0:(Int × List (List Nat) × List (List (List Int)) × List Int)):Option ((Int × List (List Nat) × List (List (List Int)) × List Int) ⊕ (List (List Nat) × List (List (List Int)) × List Int)) :=
 if x0.1<(↑u60.length:Int)then if 0<=x0.1∧x0.1<(↑u60.length:Int)then
  if zf x0.1<za u60 then
   ze (y60 u23 u14 u50 u31 u51 (zb u60 x0.1.toNat (0:Int)) x0.2.1 x0.2.2.1 x0.2.2.2) fun r0 =>
   some (.inl ((wrap .i64 (x0.1+1),r0.1,r0.2.1,r0.2.2)))
  else none
  else none
 else some (.inr (x0.2.1,x0.2.2.1,x0.2.2.2))
def jjY (u3:List (List Nat) × List (List (List Int)) × List Int):Option (List (List Nat) × List (List (List Int)) × List Int) :=some (u3.1,u3.2.1,u3.2.2)
def jcJ (u23:List (List NC)) (u14:List (List Nat)) (u50:List (List (List Int))) (u31:List (List Nat)) (u51:List Int) (u60:List Int) (u13:List (List Nat)) (u49:List (List (List Int))) (u29:List Int):Option (List (List Nat) × List (List (List Int)) × List Int) :=ze (jae (jez u23 u14 u50 u31 u51 u60) big (((0:Int),u13,u49,u29))) (jjY)
def jsF:List Lf->List Lf->Option GM|[.d (.s r_graphEngineGraphName),.x (.st [.s,.i .i64,.ints .i64,.ints .i64,.ints .i64,.i .i64,.recs 5,.i .i64] u23),.r (.ints .i64 r_graphorder),.d (.i .i64 u59),.x (.ff .f32 u14),.x (.rr 4 u50),.r (.frs .f32 32 u31),.r (.ints .i64 u51),.d (.s v0_EngineGraphName),.x (.st [.s,.i .i64,.ints .i64,.ints .i64,.ints .i64,.i .i64,.recs 5,.i .i64] v0_EngineGraphUnits),.r (.ints .i64 u60)],[.r (.frs .f32 32 u13),.x (.rr 4 u49),.r (.ints .i64 u29)]=>some (.leaf (ok (jcJ u23 u14 u50 u31 u51 u60 u13 u49 u29)) [.r (.frs .f32 32 ((val (jcJ u23 u14 u50 u31 u51 u60 u13 u49 u29)).1)),.x (.rr 4 ((val (jcJ u23 u14 u50 u31 u51 u60 u13 u49 u29)).2.1)),.r (.ints .i64 ((val (jcJ u23 u14 u50 u31 u51 u60 u13 u49 u29)).2.2))] [])|_,_=>none
abbrev sp_118:jab->jab:=jal 118 false (jhu jAl [(7,110),(8,158),(9,3)] jsF)
def sp_118_ok:KO sp_118:=jag (kM (sp_103_ok jaf) Tryz.func118 (by kernel_rfl) fun ls ms t h ho=>by
 unfold jsF at h;split at h
 ·rename_i r_graphEngineGraphName u23 r_graphorder u59 u14 u50 u31 u51 v0_EngineGraphName v0_EngineGraphUnits u60 u13 u49 u29;cases h;have ho:=jad ho
  generalize val (jcJ u23 u14 u50 u31 u51 u60 u13 u49 u29)=r at ho ⊢
  let l0:=lp0 (jez u23 u14 u50 u31 u51 u60) jjY r fun z=>⟨[(0,.w (.c (.p 10 0 1 0))),(8,.w (.c (.o 12))),(9,.w (.c (.d (.i .i64 ((↑u60.length:Int)))))),(10,.w (.c (.d (.i .i64 z.1.1))))],[(7,.row 110 (.frs .f32 32 z.1.2.1)),(8,.xrow 158 (XC.rr (4:Nat) z.1.2.2.1)),(9,.row 3 (.ints .i64 z.1.2.2.2)),(10,.ebox [.p 2 0 1 0,.d (.i .i64 u59),.o 3,.o 4,.o 5,.o 6,.o 7,.o 8,.o 9]),(12,.ext (.ints .i64 u60)),(2,.ebox [.d (.s r_graphEngineGraphName),.o 0,.o 1]),(3,.xext (XC.ff .f32 u14)),(4,.xext (XC.rr (4:Nat) u50)),(5,.ext (.frs .f32 32 u31)),(6,.ext (.ints .i64 u51)),(0,.xext (XC.st zS u23)),(1,.ext (.ints .i64 r_graphorder))],15⟩
  exact⟨by kernel_rfl,(fun _ id _=>match id with
   |0=>l0.li
   |_=>none),Sk.vd ho (.obT (.obT (.loop (l0) (fun kk=>(((0:Int),u13,u49,u29),big)) fun z0 =>
   .br
   (.ob (.ob (.call (.next))))
   (.exit (.rc))))) (by kernel_rfl)⟩
 ·cases h)
attribute [irreducible] jcJ
end Go.Sh
end

section
namespace Go.Sh
open Go Go.Proofs Go.RowKit Go.Sx Go.Sx06
variable {g:List (List NC)} {l:List Int}
def jBJ {s:List (List Int)} (h:s.length<1000):jbr s=some s:=by
 unfold jbr;rw[if_pos (by omega)]
def WR (n:Nat) (who:List Int):Prop:=who.length=n∧∀i,i<n->who.getD i 0=-1∨∃u:Nat,u<n∧who.getD i 0=(u:Int)
def jAm (h:Rg g l) {fs:List (List (List Int))} (hF:FR g fs) {i:Nat} (hi:i<g.length):(fs.getD i []).length<1000:=by
 have h1:=(jl2 (hF.2 i hi)).1;have h2:=(je3 (h.unit hi).ca).1;omega
def jCV {r:List Int} (h:∀y∈r,inR y):ja7 (r.map nf)=0:=jrw fun b hb=>by
 obtain⟨y,hy,rfl⟩:=qn.1 hb;rw[jyG (jqf (h y hy)),if_pos (h y hy)]
def jAn {r:List Int} (h:∀y∈r,inR y):(r.map nf).map fi=r:=by
 rw[xV]
 conv=>rhs;rw[<-List.map_id r]
 exact qx fun y hy=>jCq (jqf (h y hy))
def jqk {c s:List (List Int)} (hc:ja5 c=0) (hs:(csS c s).2=0) {x:List Int} (hl:x.length=32) (hx:∀y∈x,inR y) :
  jdd c (x.map nf) s=some ((jb9 (jbs c s c.length) x).map nf,(jb2 (jbs c s c.length) x).map stU,jbc (jb2 (jbs c s c.length) x),0):=by
 have h6:=(je3 hc).1;have hsl:=(jl2 hs).1
 have he:jfh c s (x.map nf)=0:=by
  unfold jfh;rw[if_neg (by omega),jCV hx,if_neg (by omega),hs]
 rw[jDZ (by omega) (by omega) (by simpa using hl),he,if_pos rfl,jAn hx]
section
variable {P:List (List Nat)} {fs:List (List (List Int))} {B:List (List Nat)} {who:List Int} {G:List (List Int)} {A:List (List (List Int))} {C:List Int}
def jCW (h:Rg g l) (hP:PR g.length P) (hF:FR g fs) (hB:BR g B) (hG:GR g.length G) (hw:WR g.length who) (hA:A.length=g.length) (hC:C.length=g.length) {i:Nat} (hi:i<g.length) :
  y60 g P fs B who (i:Int) (gw G) A C=some (gw (jc0 g P fs B who i G A C).1,(jc0 g P fs B who i G A C).2.1,(jc0 g P fs B who i G A C).2.2):=by
 have hn:=h.n;have hu:=h.unit hi;have hfl:=jAm h hF hi;have hF1:=hF.1;have hGl:=hG.1;have hw1:=hw.1;have hgl:=jl7 G;have hrec:∀x:List (List Int),NC.toRecs (zA [NC.r (Cont.recs 4 x)] (NC.d (D.v zJ)))=x:=fun x=>rfl;unfold y60;simp only[zg,hrec];rw[if_pos (by omega),if_pos hi,if_pos (by omega),if_pos (by omega),jBJ hfl,jaa,if_pos (by omega),if_pos (by omega),if_pos (by omega),if_pos (by omega)];unfold jc0
 by_cases w1:who.getD i 0=-1
 ·rw[if_pos (by rw[w1];rfl),if_pos w1]
 ·rw[if_neg (by simpa using w1),if_neg w1];obtain⟨u,hu2,hue⟩:=(hw.2 i hi).resolve_left w1
  by_cases w2:who.getD i 0=(i:Int)
  ·rw[if_neg (by rw[w2];simp),if_neg (show ¬(who.getD i 0≠(i:Int))from fun h=>h w2)];unfold jif
   by_cases k0:nI g i 1=0
   ·obtain⟨c1,c2⟩:=jqi hn hi;rw[k0]at c2;rw[if_pos (by rw[k0];rfl),if_pos k0,c1,jaa,if_pos (by rw[hB.1];omega),zg,if_pos (by rw[hB.1];omega)];have hit:=jBI hB (c:=chI g i) (by rw[hB.1];exact c2)
    change (jae (y75 B (chI g i:Int)) big (0,[]++zh (32-0) 0)).bind _=_
    rw[hit,jaa];have b1:=(hB.2 (chI g i) (by rw[hB.1];exact c2)).1;unfold y214;rw[jf0 (by simpa using b1),jaa,if_pos (by omega),zg,if_pos (by omega),jl8,hrec,if_neg (by omega)]
   ·rw[if_neg (by simpa using k0),if_neg k0];have hone:=hu.one k0;have hal:=hu.al;have h6:=hu.six;obtain⟨v,hv,he⟩:=joQ h hi 0 hone;have ha0:=hu.alr 0 (by omega);have hde:=hu.de;have htk:∀d:Int,0<=d∧d<=64->y27 P (gw G) (nL g i 2) (nL g i 3) 0 d=some (jb3 P G (v:Int) ((nL g i 3).getD 0 0+d)):=fun d hd=>jvu (f:=0) hP hG hn hone (by omega) (by omega) (by omega) hv he ha0 hd
    by_cases k1:nI g i 1=1
    ·rw[if_pos (by rw[k1];rfl),if_pos k1,jD5 hP hG hn (h.six hi k1),jaa,if_pos (by omega),if_pos (by omega),if_pos (by omega),if_pos (by omega),jl8,if_pos (Or.inl k1)]
    ·rw[if_neg (by simpa using k1),if_neg k1]
     by_cases k3:nI g i 1=3
     ·rw[if_pos (by rw[k3];rfl),if_pos k3,htk 0 (by decide),jaa,Int.add_zero];rw[he];have hr:=jie hP hG hv (d:=(nL g i 3).getD 0 0) (by omega);have hl:=jhx P G (v:Int) ((nL g i 3).getD 0 0)
      generalize jb3 P G (v:Int) ((nL g i 3).getD 0 0)=x at *
      rw[jf0 hl,jaa,if_pos (by omega),if_pos (by omega),jqk hu.ca (hF.2 i hi) hl (jqj hl hr),jaa,if_pos (by omega),if_pos (by omega),if_pos (by rw[fg];omega),if_pos (by rw[fg];omega),if_pos (by omega),if_pos (by omega),List.set_set,jl8,if_pos (Or.inr k3)]
     ·rw[if_neg (by simpa using k3),if_neg k3,htk _ hde,jaa];rw[he,jf0 (jhx _ _ _ _),jaa,if_pos (by omega),if_pos (by omega),jl8,if_neg (by omega)]
  ·rw[if_pos (by simpa using w2),if_pos w2,hue,zg,if_pos (by omega),if_pos (by omega),if_pos (by omega),if_pos (by omega),jvs (by omega),jl8]
structure RI (g:List (List NC)) (G:List (List Int)) (A:List (List (List Int))) (C:List Int):Prop where
 gr:GR g.length G
 al:A.length=g.length
 cl:C.length=g.length
 cr:∀i,i<g.length->0<=C.getD i 0∧C.getD i 0<=200
def jAo {n:Nat} {G:List (List Int)} (hG:GR n G) {i:Nat} (hi:i<n) {r:List Int} (h1:r.length=32) (h2:∀j,j<32->inR (r.getD j 0)):GR n (G.set i r):=by
 have hl:=hG.1;refine⟨by simpa using hl,fun k hk=>?_⟩;rw[ja9 _ _ _ _ _ (by omega)];split
 ·exact⟨h1,h2⟩
 ·exact hG.2 k hk
def jCX (h:Rg g l) (hP:PR g.length P) (hF:FR g fs) (hB:BR g B) (hw:WR g.length who) (hR:RI g G A C) {i:Nat} (hi:i<g.length) :
  RI g (jc0 g P fs B who i G A C).1 (jc0 g P fs B who i G A C).2.1 (jc0 g P fs B who i G A C).2.2 ∧
  (csS (nR g i 6) ((jc0 g P fs B who i G A C).2.1.getD i [])).2=0∧∀k,k≠i->(jc0 g P fs B who i G A C).2.1.getD k []=A.getD k []:=by
 obtain⟨hG,hA,hC,hCr⟩:=hR;obtain⟨o1,o2,o3⟩:=jD6 h hP hF hB hG hi;have hGl:=hG.1
 have hset:∀s:List (List Int),(A.set i s).getD i []=s∧∀k,k≠i->(A.set i s).getD k []=A.getD k []:=fun s =>
  ⟨by rw[ja9 _ _ _ _ _ (by omega),if_pos rfl],fun k hk=>by rw[ja9 _ _ _ _ _ (by omega),if_neg (fun e=>hk e.symm)]⟩
 unfold jc0;split
 ·exact⟨⟨hG,by simpa using hA,hC,hCr⟩,by rw[(hset _).1];exact hF.2 i hi,(hset _).2⟩
 ·rename_i w1;split
  ·obtain⟨u,hu,hue⟩:=(hw.2 i hi).resolve_left w1;rw[hue,zg];obtain⟨r1,r2⟩:=hG.2 u hu;exact⟨⟨jAo hG hi r1 r2,by simpa using hA,hC,hCr⟩,by rw[(hset _).1];exact hF.2 i hi,(hset _).2⟩
  ·refine⟨⟨jAo hG hi o1.1 o1.2,by simpa using hA,?_,fun k hk=>?_⟩,by rw[(hset _).1];exact o2,(hset _).2⟩
   ·split
    ·simpa using hC
    ·exact hC
   ·split
    ·rw[ja9 _ _ _ _ _ (by omega)];split
     ·exact o3
     ·exact hCr k hk
    ·exact hCr k hk
def jaM (g:List (List NC)) (P:List (List Nat)) (fs:List (List (List Int))) (B:List (List Nat)) (who l:List Int):Nat->List (List Int) × List (List (List Int)) × List Int|0=>(zh g.length (zh 32 0),zh g.length [],zh g.length 0)|k+1=>jc0 g P fs B who (l.getD k 0).toNat (jaM g P fs B who l k).1 (jaM g P fs B who l k).2.1 (jaM g P fs B who l k).2.2
def jd3 {α:Type} {n i:Nat} {x d:α} (h:i<n):(zh n x).getD i d=x:=by
 rw[jan (by simpa using h)];simp
def je4 (h:Rg g l) (hP:PR g.length P) (hF:FR g fs) (hB:BR g B) (hw:WR g.length who):∀k,k<=g.length -> RI g (jaM g P fs B who l k).1 (jaM g P fs B who l k).2.1 (jaM g P fs B who l k).2.2 ∧ ∀j,j<k->(csS (nR g (l.getD j 0).toNat 6) ((jaM g P fs B who l k).2.1.getD (l.getD j 0).toNat [])).2=0
 |0,_=>⟨⟨⟨by simp[jaM],fun i hi=>⟨by rw[show(jaM g P fs B who l 0).1=zh g.length (zh 32 0)from rfl,jd3 hi];simp,fun j hj=>by
   rw[show(jaM g P fs B who l 0).1=zh g.length (zh 32 0)from rfl,jd3 hi,jd3 hj];decide⟩⟩,by simp[jaM],by simp[jaM],fun i hi=>by
   rw[show(jaM g P fs B who l 0).2.2=zh g.length 0 from rfl,jd3 hi];decide⟩,fun j hj=>absurd hj (by omega)⟩
 |k+1,hk=>by
  obtain⟨hR,ha⟩:=je4 h hP hF hB hw k (by omega);obtain⟨i,hi,e,_⟩:=h.at (j:=k) (by omega);obtain⟨w1,w2,w3⟩:=jCX h hP hF hB hw hR hi
  have hs:jaM g P fs B who l (k+1)=jc0 g P fs B who i (jaM g P fs B who l k).1 (jaM g P fs B who l k).2.1 (jaM g P fs B who l k).2.2:=by
   show jc0 g P fs B who (l.getD k 0).toNat _ _ _=_
   rw[e,zg]
  rw[hs];refine⟨w1,fun j hj=>?_⟩
  by_cases hjk:j=k
  ·subst hjk;rw[e,zg];exact w2
  ·obtain⟨i',hi',e',_⟩:=h.at (j:=j) (by omega);have hne:=jsx h (j:=k) (j':=j) (by omega) (by omega) e e';have:=ha j (by omega);rw[e',zg]at this ⊢;rw[w3 i' (fun e=>hne e.symm)];exact this
def jCY (h:Rg g l) (hP:PR g.length P) (hF:FR g fs) (hB:BR g B) (hw:WR g.length who):FR g (jaM g P fs B who l g.length).2.1:=by
 obtain⟨hR,ha⟩:=je4 h hP hF hB hw g.length (zp _);refine⟨hR.al,fun i hi=>?_⟩;obtain⟨j,hj,e⟩:=h.surj hi;have:=ha j hj;rw[e,zg]at this;exact this
def jxv (h:Rg g l) (hP:PR g.length P) (hF:FR g fs) (hB:BR g B) (hw:WR g.length who) :
  jcJ g P fs B who l (zh g.length Z32) (zh g.length []) (zh g.length 0) =
  some (gw (jaM g P fs B who l g.length).1,(jaM g P fs B who l g.length).2.1,(jaM g P fs B who l g.length).2.2):=by
 have hn:=h.n;have hL:=h.len
 have hit:=jat (body:=jez g P fs B who l) (fun k=>((k:Int),gw (jaM g P fs B who l k).1,(jaM g P fs B who l k).2.1,(jaM g P fs B who l k).2.2))
  (y:=(gw (jaM g P fs B who l g.length).1,(jaM g P fs B who l g.length).2.1,(jaM g P fs B who l g.length).2.2)) (k:=g.length) (fun k hk=>by
   obtain⟨hR,_⟩:=je4 h hP hF hB hw k (by omega);obtain⟨i,hi,e,_⟩:=h.at hk
   have hs:jaM g P fs B who l (k+1)=jc0 g P fs B who i (jaM g P fs B who l k).1 (jaM g P fs B who l k).2.1 (jaM g P fs B who l k).2.2:=by
    show jc0 g P fs B who (l.getD k 0).toNat _ _ _=_
    rw[e,zg]
   unfold jez;dsimp only;rw[if_pos (by omega),if_pos (by omega),zg,if_pos (by omega),e,jCW h hP hF hB hR.gr hw hR.al hR.cl hi,jaa,jai (by omega),hs];rfl) (by
   unfold jez;dsimp only;rw[if_neg (by omega)]) (by omega)
 have hz:gw (zh g.length (zh 32 0))=zh g.length Z32:=by
  unfold gw;rw[List.map_replicate];rfl
 have e0:(((0:Nat):Int),gw (jaM g P fs B who l 0).1,(jaM g P fs B who l 0).2.1,(jaM g P fs B who l 0).2.2)=(0,zh g.length Z32,zh g.length [],zh g.length 0):=by
  rw[show(jaM g P fs B who l 0).1=zh g.length (zh 32 0)from rfl,hz];rfl
 rw[e0]at hit;unfold jcJ;rw[hit];rfl
end
end Go.Sh
end

section
namespace Go.Sh
open Go Go.Proofs Go.RowKit Go.Sx
open Go.IntKind (wrap)
set_option maxRecDepth 100000
def jql:List SV:=[.c (.p [.d,.x (.st zS []),.r (.ints .i64 [])])]
def y86 (u6:List (List NC)) (x0:(Int × List (List Nat) × List (List (List Int)))):Option ((Int × List (List Nat) × List (List (List Int))) ⊕ (List (List Nat) × List (List (List Int)))) :=
 if x0.1<(↑u6.length:Int)then if 0<=x0.1∧x0.1<(↑u6.length:Int)then
  if zf x0.1<za u6 then
   ze (y26 (nR u6 x0.1.toNat (6:Nat))) fun r0 =>
   if(za x0.2.1+za (qt (fun r=>NC.toFlts (zA r (NC.d (D.v zJ)))) [[NC.r (Cont.floats .f32 (zh (128:Nat) (0:Nat)))]]))*24<=140737488355328∧za x0.2.1+za (qt (fun r=>NC.toFlts (zA r (NC.d (D.v zJ)))) [[NC.r (Cont.floats .f32 (zh (128:Nat) (0:Nat)))]])<=9223372036854775807 then
   if(za x0.2.2+za (qt (fun r=>NC.toRecs (zA r (NC.d (D.v zJ)))) [[NC.r (Cont.recs (4:Nat) r0.1)]]))*24<=140737488355328∧za x0.2.2+za (qt (fun r=>NC.toRecs (zA r (NC.d (D.v zJ)))) [[NC.r (Cont.recs (4:Nat) r0.1)]])<=9223372036854775807 then some (.inl ((wrap .i64 (x0.1+1),x0.2.1++qt (fun r=>NC.toFlts (zA r (NC.d (D.v zJ)))) [[NC.r (Cont.floats .f32 (zh (128:Nat) (0:Nat)))]],x0.2.2++qt (fun r=>NC.toRecs (zA r (NC.d (D.v zJ)))) [[NC.r (Cont.recs (4:Nat) r0.1)]])))
   else none
   else none
  else none
  else none
 else some (.inr (x0.2.1,x0.2.2))
def jgN (u3:List (List Nat) × List (List (List Int))):Option (Int × List (List Nat) × List (List (List Int))) :=some (((0:Int),u3.1,u3.2))
def y16 (u6:List (List NC)):Option (Int × List (List Nat) × List (List (List Int))) :=ze (jae (y86 u6) big (((0:Int),[],[]))) (jgN)
def jhz:List Lf->Option GT|[.d (.s u10),.x (.st [.s,.i .i64,.ints .i64,.ints .i64,.ints .i64,.i .i64,.recs 5,.i .i64] u6),.r (.ints .i64 u9)]=>some (.leaf (ok (y16 u6)) [.s [.d (.i .i64 ((val (y16 u6)).1)),.x 157 (.ff .f32 ((val (y16 u6)).2.1)),.x 158 (.rr 4 ((val (y16 u6)).2.2))]])|_=>none
abbrev sp_120:jab->jab:=jal 120 true (jak jql jhz)
def st_s0 (u6:List (List NC)) (z0:(Int × List (List Nat) × List (List (List Int))) × Nat):St :=⟨[(2,.w (.c (.p 3 0 1 0))),(3,.w (.c (.p 4 0 1 0))),(6,.w (.c (.o 12))),(12,.w (.c (.o 0))),(13,.w (.c (.d (.i .i64 ((↑u6.length:Int)))))),(14,.w (.c (.d (.i .i64 z0.1.1))))],[(0,.xext (XC.st zS u6)),(12,.row 174 (.recs 4 ((val (y26 (nR u6 z0.1.1.toNat (6:Nat)))).1))),(4,.box 78 [.d (.i .i64 0),.o 5,.o 6]),(3,.box 78 [.d (.i .i64 0),.d (.v (zx none (0:Nat) (0:Nat))),.d (.v (zx none (0:Nat) (0:Nat)))]),(6,.xrow 158 (XC.rr (4:Nat) z0.1.2.2)),(5,.xrow 157 (XC.ff .f32 z0.1.2.1))],13⟩
def st_s1 (u6:List (List NC)) (z0:(Int × List (List Nat) × List (List (List Int))) × Nat):St :=⟨[(2,.w (.c (.p 3 0 1 0))),(3,.w (.c (.p 4 0 1 0))),(12,.w (.c (.o 0))),(13,.w (.c (.d (.i .i64 ((↑u6.length:Int)))))),(14,.w (.c (.d (.i .i64 z0.1.1))))],[(0,.xext (XC.st zS u6)),(4,.box 78 [.d (.i .i64 0),.o 15,.o 17]),(3,.box 78 [.d (.i .i64 0),.d (.v (zx none (0:Nat) (0:Nat))),.d (.v (zx none (0:Nat) (0:Nat)))]),(17,.xrow 158 (XC.rr (4:Nat) (z0.1.2.2++qt (fun r=>NC.toRecs (zA r (NC.d (D.v zJ)))) [[NC.r (Cont.recs (4:Nat) (val (y26 (nR u6 z0.1.1.toNat (6:Nat)))).1)]]))),(15,.xrow 157 (XC.ff .f32 (z0.1.2.1++qt (fun r=>NC.toFlts (zA r (NC.d (D.v zJ)))) [[NC.r (Cont.floats .f32 (zh (128:Nat) (0:Nat)))]])))],18⟩
def jAp (u6:List (List NC)) (z0:(Int × List (List Nat) × List (List (List Int))) × Nat):Prop:=joH Tryz.prog (sp_130 sp0) 38 3 [0,5,7] ((jeZ (bodyOf Tryz.f120)).getD #[]) (st_s0 u6 z0) (st_s1 u6 z0) ((((za z0.1.2.2+za (qt (fun r=>NC.toRecs (zA r (NC.d (D.v zJ)))) [[NC.r (Cont.recs (4:Nat) (val (y26 (nR u6 z0.1.1.toNat (6:Nat)))).1)]]))*24<=140737488355328∧za z0.1.2.2+za (qt (fun r=>NC.toRecs (zA r (NC.d (D.v zJ)))) [[NC.r (Cont.recs (4:Nat) (val (y26 (nR u6 z0.1.1.toNat (6:Nat)))).1)]])<=9223372036854775807)∧((za z0.1.2.1+za (qt (fun r=>NC.toFlts (zA r (NC.d (D.v zJ)))) [[NC.r (Cont.floats .f32 (zh (128:Nat) (0:Nat)))]]))*24<=140737488355328∧za z0.1.2.1+za (qt (fun r=>NC.toFlts (zA r (NC.d (D.v zJ)))) [[NC.r (Cont.floats .f32 (zh (128:Nat) (0:Nat)))]])<=9223372036854775807)∧((0:Int)<=128∧(128:Int)=(128:Int)∧(↑(4:Nat):Int)*128<=281474976710656∧(128:Int)<=9223372036854775807)∧True))
def jAq (u6:List (List NC)) (z0:(Int × List (List Nat) × List (List (List Int))) × Nat):jAp u6 z0:=fun h =>
 have t:=trivial;have e:Ob True:=⟨trivial⟩
 have q3:=oR ((0:Nat));have q4:=oR ((↑u6.length:Int));have q5:=oR (z0.1.1);have q6:=oR (u6);have q7:=oR ((0:Int));have q8:=oR (zx none (0:Nat) (0:Nat));have q9:=oR (z0.1.2.2++qt (fun r=>NC.toRecs (zA r (NC.d (D.v zJ)))) [[NC.r (Cont.recs (4:Nat) (val (y26 (nR u6 z0.1.1.toNat (6:Nat)))).1)]]);have q10:=oR (z0.1.2.1++qt (fun r=>NC.toFlts (zA r (NC.d (D.v zJ)))) [[NC.r (Cont.floats .f32 (zh (128:Nat) (0:Nat)))]]);have q0:Ob _:=⟨h.2.2.1⟩
 have q1:Ob _:=⟨h.2.1⟩
 have q2:Ob _:=⟨h.1⟩
 have s0:=ai (ai e (ai (ai e (ai (ai e (ai q3 (ai q3 (ai q4 (ai q5 (ai q6 (ai q7 (ai q7 (ai q8 (ai q8 (ai q9 (ai q10 t)))))))))))) t)) t)) t;have s1:=ai (ai e (ai (ai q2 s0) t)) t;have s2:=ai (ai q2 (ai (ai e s0) t)) s1;have s3:=ai e s2;have s4:=ai s3 (ai (ai e s1) t);have s5:=ai s3 t;have s6:=ai (ai e (ai (ai q1 s2) t)) t;have s7:=ai e (ai (ai q1 s4) s6);have s8:=ai e (ai (ai q1 s5) s6);have s9:=ai e s6;have s10:=ai s9 t;have s11:=ai s7 s10;have s12:=ai e s11;have s13:=ai s8 s10;have s14:=ai e s13;have s15:=ai (ai e (ai (ai q1 (ai (ai e s4) (ai (ai e s5) t))) (ai s7 (ai s8 t)))) (ai s12 (ai s14 t));have s16:=ai e (ai (ai q0 s6) t);have s17:=ai s16 t;have s18:=ai e (ai (ai q0 s11) s17);have s19:=ai e (ai (ai q0 s13) s17);have s20:=ai e s15;have s21:=ai s9 s10;have s22:=ai (ai e s21) t;have s23:=ai s12 (ai s12 s22);have s24:=ai s14 (ai s14 s22);have s25:=ai (ai e (ai s16 (ai (ai q0 s21) t))) t;have s26:=ai e (ai (ai e (ai (ai q0 s15) (ai s18 (ai s19 t)))) (ai (ai q0 (ai s20 (ai s20 (ai (ai e s23) (ai (ai e s24) t))))) (ai (ai e (ai s18 (ai (ai q0 s23) s25))) (ai (ai e (ai s19 (ai (ai q0 s24) s25))) t))));have s27:=ai e (ai e s26)
 @js _ _ (by kernel_rfl) s27
def sp_120_ok:KO sp_120:=jag (kA 14 [2,3,6,12,13,14] [2,3,12,13,14] [0,5,7] (sp_130_ok jaf) Tryz.func120 (by kernel_rfl) fun ls t h ho=>by
 unfold jhz at h;split at h
 ·rename_i u10 u6 u9;cases h;have ho:=jad ho
  generalize val (y16 u6)=r at ho ⊢
  let l0:=lp0 (y86 u6) jgN r fun z=>⟨[(2,.w (.c (.p 3 0 1 0))),(3,.w (.c (.p 4 0 1 0))),(12,.w (.c (.o 0))),(13,.w (.c (.d (.i .i64 ((↑u6.length:Int)))))),(14,.w (.c (.d (.i .i64 z.1.1))))],[(3,.box 78 [.d (.i .i64 0),.d (.v (zx none (0:Nat) (0:Nat))),.d (.v (zx none (0:Nat) (0:Nat)))]),(4,.box 78 [.d (.i .i64 0),.o 5,.o 6]),(0,.xext (XC.st zS u6)),(5,.xrow 157 (XC.ff .f32 z.1.2.1)),(6,.xrow 158 (XC.rr (4:Nat) z.1.2.2))],7⟩
  exact⟨by kernel_rfl,(fun _ id _=>match id with
   |0=>l0.li
   |_=>none),Sk.vd ho (.obT (.loopQ (l0) [.c fun _=>0,.c fun _=>0,.c fun _=>(↑u6.length:Int),.c fun vv=>vv.1.1,.c fun _=>(0:Int),.c fun _=>zx none (0:Nat) (0:Nat),.c fun _=>zx none (0:Nat) (0:Nat),.c fun _=>(0:Int),.c fun _=>u6,.p fun vv=>za vv.1.2.1=(0:Nat),.p fun vv=>za vv.1.2.2=(0:Nat)] (fun kk=>(((0:Int),[],[]),big)) (fun z0 =>
   .br
   (.ob (.ob (.call (.obC ((0:Int)<=128∧(128:Int)=(128:Int)∧(512:Int)<=281474976710656∧(128:Int)<=9223372036854775807) (by decide) (.ob (.ob (.obC (jAp u6 z0) (jAq u6 z0) (.next))))))))
   (.exit (.obT (.rc)))) (fun _=>⟨rfl,⟨rfl,trivial⟩⟩))) (by kernel_rfl)⟩
 ·cases h)
attribute [irreducible] y16
end Go.Sh
end

section
namespace Go.Sh
open Go Go.Proofs Go.RowKit Go.Sx Go.Sx06
open Go.IntKind (wrap)
variable {g:List (List NC)} {l:List Int}
def jmT (P:List (List Nat)) (G:List (List Int)) (n:Nat):List (List Nat):=(zm n).map fun u:Nat=>(zm 128).map fun k:Nat=>nf (atI P G (u:Int) ((k:Int)-96))
def jCZ {n:Nat} {P:List (List Nat)} {G:List (List Int)} (hP:PR n P) (hG:GR n G):PR n (jmT P G n) :=
 ⟨by simp[jmT],fun i hi=>by
  unfold jmT;rw[jbP _ hi];refine⟨by simp,fun j hj=>?_⟩;have hr:=jl9 hP hG hi (k:=(j:Int)-96) (by omega);rw[jbP _ hj,jyG (jqf hr),if_pos hr]⟩
def jyO {n:Nat} {P:List (List Nat)} {G:List (List Int)} (hP:PR n P) (hG:GR n G) (hn:n<1000) {u:Nat} (hu:u<n) (y:List (List Nat)) :
  jae (y84 P (gw G) ((u:Int),y)) big (-96,[])=some ((zm 128).map fun k:Nat=>nf (atI P G (u:Int) ((k:Int)-96))) :=
 jat (body:=y84 P (gw G) ((u:Int),y)) (fun i=>((i:Int)-96,(zm i).map fun k:Nat=>nf (atI P G (u:Int) ((k:Int)-96)))) (k:=128) (fun i hi=>by
  unfold y84;dsimp only;rw[if_pos (by omega),jCs hP hG hu (by omega) hn,jaa,if_pos (by simp only[qh,x7,zB,qe];omega),jai (by omega),x8,xa];have e:(i:Int)-96+1=((i+1:Nat):Int)-96:=by omega
  rw[e];rfl) (by
  unfold y84;dsimp only;rw[if_neg (by omega)]) (by omega)
def jsG {P:List (List Nat)} {G:List (List Int)} (hP:PR g.length P) (hG:GR g.length G) (hn:g.length<1000) (b:Int) :
  y61 g b P (gw G)=some (wrap .i64 (b+1),jmT P G g.length):=by
 have hrec:∀x:List Nat,qt (fun r=>NC.toFlts (zA r (NC.d (D.v zJ)))) [[NC.r (Cont.floats FloatKind.f32 x)]]=[x]:=fun x=>rfl
 have hit:jae (y85 g P (gw G)) big (0,[])=some (jmT P G g.length):=jat (body:=y85 g P (gw G)) (fun i=>((i:Int),(zm i).map fun u:Nat=>(zm 128).map fun k:Nat=>nf (atI P G (u:Int) ((k:Int)-96)))) (k:=g.length) (fun i hi=>by
  unfold y85;dsimp only;rw[if_pos (by omega),jyO hP hG hn hi,jaa];unfold y203;simp only[hrec];rw[if_pos (by simp only[qh,x7,zB,qe];omega),jai (by omega),@x8 i,xa];rfl) (by
  unfold y85;dsimp only;rw[if_neg (by omega)];rfl) (by omega)
 unfold y61;rw[hit];rfl
def csN (C:List Int):Nat->Int|0=>0|m+1=>csN C m+C.getD m 0
def jhA {n:Nat} {C:List Int} (h:∀i,i<n->0<=C.getD i 0∧C.getD i 0<=200):∀m,m<=n->0<=csN C m∧csN C m<=m*200
 |0,_=>by simp[csN]
 |m+1,hm=>by
  have h1:=jhA h m (by omega);have h2:=h m (by omega);unfold csN
  push_cast
  omega
def jqm {n:Nat} {C:List Int} (hn:n<1000) (hl:C.length=n) (h:∀i,i<n->0<=C.getD i 0∧C.getD i 0<=200):y53 C=some (csN C n):=by
 have hit:jae (y66 C) big (0,0)=some (csN C n):=jat (body:=y66 C) (fun i=>(csN C i,(i:Int))) (k:=n) (fun i hi=>by
  have h1:=jhA h i (by omega);have h2:=h i hi;unfold y66;dsimp only;rw[if_pos (by omega),if_pos (by omega),if_pos (by omega),zg,jai (by omega),jai (by omega)];rfl) (by
  unfold y66;dsimp only;rw[if_neg (by omega)]) (by omega)
 unfold y53;rw[hit];rfl
def jmU (g:List (List NC)) (G:List (List Int)):List (List Nat):=(jaJ g 4).map fun u=>(gw G).getD u.toNat []
def jvw {G:List (List Int)} (hG:GR g.length G) (hn:g.length<1000):y10 g (gw G)=some (jmU g G):=by
 have hl:=jdw g 4 g.length;have hlen:(jaJ g 4).length<1000:=by unfold jaJ;omega
 have hgl:=jl7 G;have hG1:=hG.1;unfold y10
 rw[jgb hn,jaa,je1 (body:=y99 (gw G) (jaJ g 4)) (jaJ g 4) 0 (fun u=>(gw G).getD u.toNat []) (by omega) (fun i hi o ho=>by
  obtain⟨u,hu,he,_⟩:=jCS hi;unfold y99;dsimp only;rw[if_pos (by omega),if_pos (by omega),zg,if_pos hi,he,zg,if_pos (by omega),if_pos (by omega),if_pos (by simp only[zB,qe];omega),jai (by omega)]) (fun o=>by
  unfold y99;dsimp only;rw[if_neg (by omega)])]
 rfl
def jn3 (h:Rg g l) (nm:ByteArray) (b:Int) {failed:List Bool} (hf:failed.length=g.length) :
  y7 nm g l b failed=some (b,jcy g (fun i=>failed.getD i false),zh g.length Z32,zh g.length [],zh g.length 0):=by
 have hn:=h.n;unfold y7;rw[jvp h nm failed hf,jaa,if_pos (by omega),if_pos (by omega),if_pos (by omega),zg];rfl
def jqn (h:Rg g l) (fb:Nat->Bool):WR g.length (jcy g fb) :=
 ⟨jxp g fb,fun i hi=>by
  rw[jxq g fb hi];obtain⟨j,hj,e⟩:=h.surj hi;rw[<-e];rcases jCO h fb j hj with r|⟨_,u,_,hu,_,r,_⟩
  ·exact Or.inl r
  ·exact Or.inr ⟨u,hu,r⟩⟩
def fs0 (g:List (List NC)):List (List (List Int)):=(zm g.length).map fun i=>zh (nR g i 6).length [0,0,0,0]
def P0 (n:Nat):List (List Nat):=zh n (zh 128 0)
def jC0:se 0=0:=by
 have e:(0:Nat)=nf 0:=by decide
 rw[e,jyG (by omega),if_pos (by decide)]
def jyP (n:Nat):PR n (P0 n):=⟨by simp[P0],fun i hi=>by
 unfold P0;rw[jd3 hi];exact⟨by simp,fun j hj=>by rw[jd3 hj];exact jC0⟩⟩
def jvx (g:List (List NC)):FR g (fs0 g):=⟨by simp[fs0],fun i hi=>by
 unfold fs0;rw[jbP _ hi];refine jAk (by simp) fun r hr=>?_;rw[List.eq_of_mem_replicate hr];decide⟩
def jvy (h:Rg g l):y16 g=some (0,P0 g.length,fs0 g):=by
 have hn:=h.n;have hrec:∀x:List Nat,qt (fun r=>NC.toFlts (zA r (NC.d (D.v zJ)))) [[NC.r (Cont.floats FloatKind.f32 x)]]=[x]:=fun x=>rfl;have hrec2:∀x:List (List Int),qt (fun r=>NC.toRecs (zA r (NC.d (D.v zJ)))) [[NC.r (Cont.recs 4 x)]]=[x]:=fun x=>rfl
 have hit:jae (y86 g) big (0,[],[])=some (P0 g.length,fs0 g):=jat (body:=y86 g) (fun i=>((i:Int),zh i (zh 128 0),(zm i).map fun i=>zh (nR g i 6).length [0,0,0,0])) (k:=g.length) (fun i hi=>by
  have hc:=(h.unit hi).ca;have h6:=(je3 hc).1;unfold y86;simp only[hrec,hrec2];rw[if_pos (by omega),if_pos (by omega),zg,if_pos hi,jww (by omega) hc,jaa,if_pos (by simp only[List.length_replicate,zB,qe];omega),if_pos (by simp only[qh,x7,zB,qe];omega),jai (by omega),@x8 i,xa,List.replicate_succ' (n:=i)];rfl) (by
  unfold y86;dsimp only;rw[if_neg (by omega)];rfl) (by omega)
 unfold y16;rw[hit];rfl
def jbE (g:List (List NC)) (l:List Int) (fb:Nat->Bool) (P:List (List Nat)) (fs:List (List (List Int))) (B:List (List Nat)):List (List Nat) × Int × List (List Nat) × List (List (List Int)) :=(jmU g (jaM g P fs B (jcy g fb) l g.length).1,csN (jaM g P fs B (jcy g fb) l g.length).2.2 g.length,jmT P (jaM g P fs B (jcy g fb) l g.length).1 g.length,(jaM g P fs B (jcy g fb) l g.length).2.1)
def jvz (h:Rg g l) (fb:Nat->Bool) {P:List (List Nat)} {fs:List (List (List Int))} {B:List (List Nat)} (hP:PR g.length P) (hF:FR g fs) (hB:BR g B) :
  PR g.length (jbE g l fb P fs B).2.2.1∧FR g (jbE g l fb P fs B).2.2.2∧(jbE g l fb P fs B).1.length=(jaJ g 4).length∧0<=(jbE g l fb P fs B).2.1∧(jbE g l fb P fs B).2.1<=200000:=by
 have hn:=h.n;have hw:=jqn h fb;obtain⟨hR,_⟩:=je4 h hP hF hB hw g.length (zp _);have hc:=jhA hR.cr g.length (zp _);exact⟨jCZ hP hR.gr,jCY h hP hF hB hw,by simp[jbE,jmU],hc.1,by unfold jbE;dsimp only;omega⟩
end Go.Sh
end

section
namespace Go.Sh
open Go Go.Proofs Go.RowKit Go.Sx
abbrev sp_152:jab->jab:=jal 152 true (jx4 .f32 .u32)
def sp_152_ok {sp:jab} (h:jam Tryz.prog sp):jam Tryz.prog (sp_152 sp) :=jch (jCG (fn:=Tryz.f152) (g:=Extern.MathFloatBits.float32bits) Tryz.func152 (by kernel_rfl) (by kernel_rfl) (by kernel_rfl) (by kernel_rfl) fun _=>rfl) h
open Go.IntKind (wrap)
set_option maxRecDepth 100000
def jfi:List SV:=[.c (.d)]
def jig (f:Nat):Option Bool :=
 if(qo (FloatKind.format .f64) f f != some Ordering.eq)=true then some false
 else if(Option.isSome (gv.sub (FloatKind.format .f64) f f))=true then
  if(qo (FloatKind.format .f64) (z8 (gv.sub (FloatKind.format .f64) f f) (0:Nat)) (0:Nat)!=some Ordering.eq)=true then some false
  else if(qo (FloatKind.format .f64) f (14069741636278059008:Nat)==some Ordering.gt||qo (FloatKind.format .f64) f (14069741636278059008:Nat)==some Ordering.eq)=true then
   if(!(qo (FloatKind.format .f64) f (4846369599423283200:Nat)==some Ordering.lt||qo (FloatKind.format .f64) f (4846369599423283200:Nat)==some Ordering.eq))=true then some true
   else if jbR .f64 .i64 f=true then some (qo (FloatKind.format .f64) (qw .f64 (f2i .f64 f)) f==some Ordering.eq)
    else none
   else
   some true
  else
  some false
def jvA:Option Bool :=some false
def jih:List Lf->Option GT|[.d (.f .f64 f)]=>some (.leaf (ok (jig f)) [.c (.d (.b ((val (jig f)))))])|[.n .f64]=>some (.leaf (ok (jvA)) [.c (.d (.b ((val (jvA)))))])|_=>none
abbrev sp_173:jab->jab:=jal 173 true (jak jfi jih)
def jwy (f:Nat) (r:Bool):Sk (top r) (jig f) :=.brB
 (.obT (.rc))
 (.brB
 (.obT (.brB
 (.obT (.rc))
 (.brB
 (.brB
 (.obT (.rc))
 (.ob (.obT (.obT (.rc)))))
 (.obT (.rc)))))
 (.obT (.obT (.rc))))
def jvB (f:Nat) (r:Bool) (h:ze (jig f) some=some r):jqP Tryz.f173 (sp0) (fun _ _ _=>none) (jdV jfi [.d (.f .f64 f)]) [.c (.d (.b r))] :=Sk.vc (jwy f r) (by kernel_rfl) h
def jtn (r:Bool):Sk (top r) (jvA) :=.obT (.rc)
def jrB (r:Bool) (h:ze (jvA) some=some r):jqP Tryz.f173 (sp0) (fun _ _ _=>none) (jdV jfi [.n .f64]) [.c (.d (.b r))] :=Sk.vc (jtn r) (by kernel_rfl) h
def jvC:jaF Tryz.prog 173 true (jak jfi jih):=by
 refine jjP (sp:=sp0) (fn:=Tryz.f173) (body:=bodyOf Tryz.f173) mixed jaf Tryz.func173 (by kernel_rfl) (by kernel_rfl) fun ls t h ho b hb=>?_;unfold jih at h;split at h
 ·rename_i f;cases h;obtain rfl:=jeu hb;exact⟨zQ (by kernel_rfl),_,_,jvB f _ (jad ho)⟩
 ·cases h;obtain rfl:=jeu hb;exact⟨zQ (by kernel_rfl),_,_,jrB _ (jad ho)⟩
 ·cases h
def sp_173_ok {sp:jab} (h:jam Tryz.prog sp):jam Tryz.prog (sp_173 sp):=jch jvC h
attribute [irreducible] jig
def jqo:List (Option Cont):=[none]
def joS (x_:Nat):Option Int :=
 if(jmH x_)=true then some (27:Int)
 else
  ze (jig (jeg x_)) fun r0 =>
  if(!r0)=true then
  some (27:Int)
  else
  if(qo (FloatKind.format .f64) (jeg x_) (13898108175187443712:Nat)==some Ordering.lt)=true then some (2:Int)
  else if(qo (FloatKind.format .f64) (jeg x_) (4674736138332667904:Nat)==some Ordering.gt)=true then some (2:Int)
   else
   some (0:Int)
def jhB:List A->Option (Prop × List RV)|[.d (.f .f32 x_)]=>some (ok (joS x_),[.d (.i .i64 ((val (joS x_))))])|_=>none
abbrev sp_150:jab->jab:=jal 150 true (jaK jqo jhB)
def sp_150_ok:KO sp_150:=jag (kK (sp_173_ok jaf) Tryz.func150 (by kernel_rfl) fun as_ ob rs h ho=>by
 unfold jhB at h;split at h
 ·rename_i x_;cases h;have ho:=jad ho
  generalize val (joS x_)=r at ho ⊢
  exact⟨by kernel_rfl,fun _ _ _=>none,Sk.vd ho (.brB
   (.obT (.obC (ok jvA) (by decide) (.obT (.rc))))
   (.obT (.call (.brB
   (.obT (.rc))
   (.brB
   (.obT (.rc))
   (.brB
   (.obT (.rc))
   (.obT (.rc)))))))) (by kernel_rfl)⟩
 ·cases h)
attribute [irreducible] joS
def joT:List (Option Cont):=[some (.floats .f32 [])]
def y79 (l:List Nat) (x0:Int):Option (Int ⊕ (Int ⊕ Unit)) :=
 if x0<(↑l.length:Int)then if 0<=x0∧x0<(↑l.length:Int)then
  if zf x0<za l then
   ze (joS (zb l x0.toNat (0:Nat))) fun r0 =>
   if(r0 != 0)=true then
   some (.inr (.inl r0))
   else
   some (.inl (wrap .i64 (x0+1)))
  else none
  else none
 else some (.inr ((.inr ())))
def jkH (u3:Int):Option Int :=some u3
def jkI (u4:Unit):Option Int :=some (0:Int)
def jfM:(Int ⊕ Unit)->Option Int :=(qy (jkH) (jkI))
def y87 (l:List Nat):Option Int :=ze (jae (y79 l) big (0:Int)) (jfM)
def jgO:List A->Option (Prop × List RV)|[.r (.floats .f32 l)]=>some (ok (y87 l),[.d (.i .i64 ((val (y87 l))))])|_=>none
abbrev sp_107:jab->jab:=jal 107 true (jaK joT jgO)
def sp_107_ok:KO sp_107:=jag (kK (sp_150_ok jaf) Tryz.func107 (by kernel_rfl) fun as_ ob rs h ho=>by
 unfold jgO at h;split at h
 ·rename_i l;cases h;have ho:=jad ho
  generalize val (y87 l)=r at ho ⊢
  let l0:=lp0 (y79 l) jfM r fun z=>⟨[(0,.w (.c (.o 0))),(3,.w (.c (.d (.i .i64 z.1))))],[(0,.ext (.floats .f32 l))],1⟩
  exact⟨by kernel_rfl,(fun _ id _=>match id with
   |0=>l0.li
   |_=>none),Sk.vd ho (.loop (l0) (fun kk=>((0:Int),big)) fun z0 =>
   .br
   (.ob (.ob (.call (.brB
   (.exit (.obT (.rc)))
   (.next)))))
   (.exit (.obT (.rc)))) (by kernel_rfl)⟩
 ·cases h)
attribute [irreducible] y87
def jqp:List SV:=[.c (.r (.frs .f32 32 []))]
def y88 (l:List (List Nat)) (x0:Int):Option (Int ⊕ (Int ⊕ Unit)) :=
 if x0<(↑l.length:Int)then if 0<=x0∧x0<(↑l.length:Int)then
  if zf x0<za l∧za (zb l x0.toNat [])=(32:Nat)∧0<=z8 none (0:Int)∧z8 none 0<=z8 none (↑(32:Nat):Int)∧z8 none (↑(32:Nat):Int)<=(↑(32:Nat):Int)then
   ze (y87 (je (32:Nat) (jf (0:Nat) (zb l x0.toNat [])))) fun r0 =>
   if(r0 != 0)=true then
   some (.inr (.inl r0))
   else
   some (.inl (wrap .i64 (x0+1)))
  else none
  else none
 else some (.inr ((.inr ())))
def jma (u3:Int):Option Int :=some u3
def jmb (u4:Unit):Option Int :=some (0:Int)
def jgP:(Int ⊕ Unit)->Option Int :=(qy (jma) (jmb))
def joU (l:List (List Nat)):Option Int :=ze (jae (y88 l) big (0:Int)) (jgP)
def jhC:List Lf->Option GT|[.r (.frs .f32 32 l)]=>some (.leaf (ok (joU l)) [.c (.d (.i .i64 ((val (joU l)))))])|_=>none
abbrev sp_109:jab->jab:=jal 109 true (jak jqp jhC)
def sp_109_ok:KO sp_109:=jag (kT (sp_107_ok jaf) Tryz.func109 (by kernel_rfl) fun ls t h ho=>by
 unfold jhC at h;split at h
 ·rename_i l;cases h;have ho:=jad ho
  generalize val (joU l)=r at ho ⊢
  let l0:=lp0 (y88 l) jgP r fun z=>⟨[(0,.w (.c (.o 0))),(3,.w (.c (.d (.i .i64 z.1))))],[(0,.ext (.frs .f32 32 l))],1⟩
  exact⟨by kernel_rfl,(fun _ id _=>match id with
   |0=>l0.li
   |_=>none),Sk.vd ho (.loop (l0) (fun kk=>((0:Int),big)) fun z0 =>
   .br
   (.ob (.ob (.call (.brB
   (.exit (.obT (.rc)))
   (.next)))))
   (.exit (.obT (.rc)))) (by kernel_rfl)⟩
 ·cases h)
attribute [irreducible] joU
def jvD:List SV:=[.a [.d,.x (.st zS [])],.c (.d)]
def jko (u1:List (List NC)) (u30:Int) (x0:(Int × List Int)):Option ((Int × List Int) ⊕ (List Int)) :=
 if x0.1<(↑u1.length:Int)then if 0<=x0.1∧x0.1<(↑u1.length:Int)then
  if zf x0.1<za u1 then if(nI u1 x0.1.toNat (1:Nat)==u30)=true then
   if(za x0.2+za [x0.1])*8<=140737488355328∧za x0.2+za [x0.1]<=9223372036854775807 then some (.inl ((wrap .i64 (x0.1+1),x0.2++[x0.1])))
   else none
   else
   some (.inl ((wrap .i64 (x0.1+1),x0.2)))
  else none
  else none
 else some (.inr x0.2)
def jkp (u3:List Int):Option (List Int) :=some u3
def jmc (u1:List (List NC)) (u30:Int):Option (List Int) :=ze (jae (jko u1 u30) big (((0:Int),[]))) (jkp)
def jmd:List Lf->Option GT|[.d (.s u5),.x (.st [.s,.i .i64,.ints .i64,.ints .i64,.ints .i64,.i .i64,.recs 5,.i .i64] u1),.d (.i .i64 u30)]=>some (.leaf (ok (jmc u1 u30)) [.c (.row 3 (.ints .i64 ((val (jmc u1 u30)))))])|_=>none
abbrev sp_121:jab->jab:=jal 121 true (jak jvD jmd)
def sp_121_ok:KO sp_121:=jag (kT jaf Tryz.func121 (by kernel_rfl) fun ls t h ho=>by
 unfold jmd at h;split at h
 ·rename_i u5 u1 u30;cases h;have ho:=jad ho
  generalize val (jmc u1 u30)=r at ho ⊢
  let l0:=lp0 (jko u1 u30) jkp r fun z=>⟨[(1,.w (.c (.d (.i .i64 u30)))),(2,.w (.c (.p 1 0 1 0))),(5,.w (.c (.o 2))),(6,.w (.c (.d (.i .i64 z.1.1))))],[(1,.box 24 [.d (.s u5),.o 0]),(2,.row 3 (.ints .i64 z.1.2)),(0,.xext (XC.st zS u1))],3⟩
  exact⟨by kernel_rfl,(fun _ id _=>match id with
   |0=>l0.li
   |_=>none),Sk.vd ho ((.loopQ (l0) [.c fun _=>u30,.c fun _=>0,.c fun vv=>vv.1.1,.c fun _=>u5,.p fun vv=>za vv.1.2=(0:Nat),.c fun _=>u1] (fun kk=>(((0:Int),[]),big)) (fun z0 =>
   .br
   (.ob (.ob (.brB
   (.ob (.next))
   (.next))))
   (.exit (.obT (.rc)))) (fun _=>⟨rfl,trivial⟩))) (by kernel_rfl)⟩
 ·cases h)
attribute [irreducible] jmc
def jvE:List SV:=[.a [.d,.x (.st zS [])]]
def jrC (u1:List (List NC)):Option (List Int) :=
 ze (jmc u1 (0:Int)) fun r0 =>
 some r0
def jme:List Lf->Option GT|[.d (.s u5),.x (.st [.s,.i .i64,.ints .i64,.ints .i64,.ints .i64,.i .i64,.recs 5,.i .i64] u1)]=>some (.leaf (ok (jrC u1)) [.c (.row 3 (.ints .i64 ((val (jrC u1)))))])|_=>none
abbrev sp_73:jab->jab:=jal 73 true (jak jvE jme)
def sp_73_ok:KO sp_73:=jag (kT (sp_121_ok jaf) Tryz.func73 (by kernel_rfl) fun ls t h ho=>by
 unfold jme at h;split at h
 ·rename_i u5 u1;cases h;have ho:=jad ho
  generalize val (jrC u1)=r at ho ⊢
  exact⟨by kernel_rfl,fun _ _ _=>none,Sk.vd ho (.call (.obT (.rc))) (by kernel_rfl)⟩
 ·cases h)
attribute [irreducible] jrC
def jto:List SV:=[.a [.d,.x (.st zS [])],.c (.x (.bb .f32 32 []))]
def jvF (in_:List (List (List Nat))) (x0:Int):Option (Int ⊕ (Unit ⊕ Unit)) :=
 if x0<(↑in_.length:Int)then if 0<=x0∧x0<(↑in_.length:Int)then
  if zf x0<za in_ then if(0:Int)<=0∧0<(↑in_.length:Int)then
   if 0<za in_ then if((↑(za (zb in_ x0.toNat [])):Int)!=(↑(za (zb in_ 0 [])):Int))=true then some (.inr ((.inl ())))
    else
    some (.inl (wrap .i64 (x0+1)))
   else none
   else none
  else none
  else none
 else some (.inr ((.inr ())))
def joV (in_:List (List (List Nat))) (u3:Unit):Option Int :=some (10:Int)
def jrD (in_:List (List (List Nat))) (x1:Int):Option (Int ⊕ (Unit ⊕ Unit)) :=
 if x1<(↑in_.length:Int)then if 0<=x1∧x1<(↑in_.length:Int)then
  if zf x1<za in_ then if(↑(za (zb in_ x1.toNat [])):Int)>16 then some (.inr ((.inl ())))
   else
   some (.inl (wrap .i64 (x1+1)))
  else none
  else none
 else some (.inr ((.inr ())))
def joW (in_:List (List (List Nat))) (u7:Unit):Option Int :=some (8:Int)
def jrE (in_:List (List (List Nat))) (x2:Int):Option (Int ⊕ (Int ⊕ Unit)) :=
 if x2<(↑in_.length:Int)then if 0<=x2∧x2<(↑in_.length:Int)then
  if zf x2<za in_ then
   ze (joU (zb in_ x2.toNat [])) fun r1 =>
   if(r1 != 0)=true then
   some (.inr (.inl r1))
   else
   some (.inl (wrap .i64 (x2+1)))
  else none
  else none
 else some (.inr ((.inr ())))
def joX (u22:Int):Option Int :=some u22
def joY (u26:Unit):Option Int :=some (0:Int)
def ji1:(Int ⊕ Unit)->Option Int :=(qy (joX) (joY))
def y204 (in_:List (List (List Nat))) (u20:Unit):Option Int :=ze (jae (jrE in_) big (0:Int)) (ji1)
def ji2 (in_:List (List (List Nat))):(Unit ⊕ Unit)->Option Int :=(qy (joW in_) (y204 in_))
def y205 (in_:List (List (List Nat))) (u4:Unit):Option Int :=ze (jae (jrD in_) big (0:Int)) (ji2 in_)
def ji3 (in_:List (List (List Nat))):(Unit ⊕ Unit)->Option Int :=(qy (joV in_) (y205 in_))
def joZ (u1:List (List NC)) (in_:List (List (List Nat))):Option Int :=
 ze (jrC u1) fun r0 =>
 if((↑in_.length:Int)!=(↑r0.length:Int))=true then some (10:Int)
 else ze (jae (jvF in_) big (0:Int)) (ji3 in_)
def jkq:List Lf->Option GT|[.d (.s u5),.x (.st [.s,.i .i64,.ints .i64,.ints .i64,.ints .i64,.i .i64,.recs 5,.i .i64] u1),.x (.bb .f32 32 in_)]=>some (.leaf (ok (joZ u1 in_)) [.c (.d (.i .i64 ((val (joZ u1 in_)))))])|_=>none
abbrev sp_119:jab->jab:=jal 119 true (jak jto jkq)
def sp_119_ok:KO sp_119:=jag (kT (sp_73_ok (sp_109_ok jaf)) Tryz.func119 (by kernel_rfl) fun ls t h ho=>by
 unfold jkq at h;split at h
 ·rename_i u5 u1 in_;cases h;have ho:=jad ho
  generalize val (joZ u1 in_)=r at ho ⊢
  let l0:=lp0 (jvF in_) (ji3 in_) r fun z=>⟨[(1,.w (.c (.o 1))),(5,.w (.c (.d (.i .i64 z.1))))],[(1,.xext (XC.bb .f32 (32:Nat) in_))],2⟩
  let l1:Lp (Unit × Int × Nat) Int (Unit ⊕ Unit) Int Int:=⟨fun z=>z.2.1,fun z=>z.2.2,fun z x n=>((),x,n),fun z=>jrD in_,fun z=>ji2 in_,fun z=>top r,fun z=>0,fun z=>⟨[(1,.w (.c (.o 1))),(6,.w (.c (.d (.i .i64 z.2.1))))],[(1,.xext (XC.bb .f32 (32:Nat) in_))],2⟩⟩
  let l2:Lp (Unit × Unit × Int × Nat) Int (Int ⊕ Unit) Int Int:=⟨fun z=>z.2.2.1,fun z=>z.2.2.2,fun z x n=>((),(),x,n),fun z=>jrE in_,fun z=>ji1,fun z=>top r,fun z=>0,fun z=>⟨[(1,.w (.c (.o 1))),(7,.w (.c (.d (.i .i64 z.2.2.1))))],[(1,.xext (XC.bb .f32 (32:Nat) in_))],2⟩⟩
  exact⟨by kernel_rfl,(fun _ id _=>match id with
   |0=>l0.li
   |2=>l1.li
   |4=>l2.li
   |_=>none),Sk.vd ho (.call (.brB
   (.obT (.rc))
   (.loop (l0) (fun kk=>((0:Int),big)) fun z0 =>
   .br
   (.ob (.ob (.ob (.ob (.brB
   (.exit (.obT (.rc)))
   (.next))))))
   (.exit (.loop (l1) (fun kk=>((),0,big)) fun z0 =>
   .br
   (.ob (.ob (.br
   (.exit (.obT (.rc)))
   (.next))))
   (.exit (.loop (l2) (fun kk=>((),(),0,big)) fun z0 =>
   .br
   (.ob (.ob (.call (.brB
   (.exit (.obT (.rc)))
   (.next)))))
   (.exit (.obT (.rc)))))))))) (by kernel_rfl)⟩
 ·cases h)
attribute [irreducible] joZ
def jtp:List SV:=[.a [.d,.x (.st zS [])],.c (.x (.bb .f32 32 [])),.c (.r (.recs 2 []))]
def jrF (u5:zY) (u1:List (List NC)) (in_:List (List (List Nat))) (l:List (List Int)):Option Int :=
 ze (jq3 u5 u1) fun r0 =>
 if(r0 != 0)=true then some r0
 else
  ze (joZ u1 in_) fun r1 =>
  if(r1 != 0)=true then
  some r1
  else
  ze (y71 u5 u1 l) fun r2 =>
  some r2.2
def jkr:List Lf->Option GT|[.d (.s u5),.x (.st [.s,.i .i64,.ints .i64,.ints .i64,.ints .i64,.i .i64,.recs 5,.i .i64] u1),.x (.bb .f32 32 in_),.r (.recs 2 l)]=>some (.leaf (ok (jrF u5 u1 in_ l)) [.c (.d (.i .i64 ((val (jrF u5 u1 in_ l)))))])|_=>none
abbrev sp_65:jab->jab:=jal 65 true (jak jtp jkr)
def sp_65_ok:KO sp_65:=jag (kT (sp_22_ok (sp_119_ok (sp_44_ok jaf))) Tryz.func65 (by kernel_rfl) fun ls t h ho=>by
 unfold jkr at h;split at h
 ·rename_i u5 u1 in_ l;cases h;have ho:=jad ho
  generalize val (jrF u5 u1 in_ l)=r at ho ⊢
  exact⟨by kernel_rfl,fun _ _ _=>none,Sk.vd ho (.call (.brB
   (.obT (.rc))
   (.call (.brB
   (.obT (.rc))
   (.call (.obT (.rc))))))) (by kernel_rfl)⟩
 ·cases h)
attribute [irreducible] jrF
def jrG:List (Option Cont):=[some (.floats .f32 []),some (.floats .f32 [])]
def jrH (a b:List Nat) (x0:Int):Option (Int ⊕ (Unit ⊕ Unit)) :=
 if x0<(↑a.length:Int)then if 0<=x0∧x0<(↑a.length:Int)then
  if zf x0<za a then if 0<=x0∧x0<(↑b.length:Int)then
   if zf x0<za b then if((↑(zb a x0.toNat (0:Nat)):Int)!=(↑(zb b x0.toNat (0:Nat)):Int))=true then some (.inr ((.inl ())))
    else
    some (.inl (wrap .i64 (x0+1)))
   else none
   else none
  else none
  else none
 else some (.inr ((.inr ())))
def jnd (u3:Unit):Option Bool :=some false
def jne (u4:Unit):Option Bool :=some true
def jhD:(Unit ⊕ Unit)->Option Bool :=(qy (jnd) (jne))
def jmf (a b:List Nat):Option Bool :=
 if((↑a.length:Int)!=(↑b.length:Int))=true then some false
 else ze (jae (jrH a b) big (0:Int)) (jhD)
def ji4:List A->Option (Prop × List RV)|[.r (.floats .f32 a),.r (.floats .f32 b)]=>some (ok (jmf a b),[.d (.b ((val (jmf a b))))])|_=>none
abbrev sp_110:jab->jab:=jal 110 true (jaK jrG ji4)
def sp_110_ok:KO sp_110:=jag (kK (sp_152_ok jaf) Tryz.func110 (by kernel_rfl) fun as_ ob rs h ho=>by
 unfold ji4 at h;split at h
 ·rename_i a b;cases h;have ho:=jad ho
  generalize val (jmf a b)=r at ho ⊢
  let l0:=lp0 (jrH a b) jhD r fun z=>⟨[(0,.w (.c (.o 0))),(1,.w (.c (.o 1))),(5,.w (.c (.d (.i .i64 z.1))))],[(0,.ext (.floats .f32 a)),(1,.ext (.floats .f32 b))],2⟩
  exact⟨by kernel_rfl,(fun _ id _=>match id with
   |0=>l0.li
   |_=>none),Sk.vd ho (.brB
   (.obT (.rc))
   (.loop (l0) (fun kk=>((0:Int),big)) fun z0 =>
   .br
   (.ob (.ob (.obT (.ob (.ob (.obT (.brB
   (.exit (.obT (.rc)))
   (.next))))))))
   (.exit (.obT (.rc))))) (by kernel_rfl)⟩
 ·cases h)
attribute [irreducible] jmf
def jtq:List SV:=[.b (.f .f32 []) 32,.b (.f .f32 []) 32]
def jmg (a b:List Nat):Option Bool :=
 if za a=(32:Nat)∧0<=z8 none (0:Int)∧z8 none 0<=z8 none (↑(32:Nat):Int)∧z8 none (↑(32:Nat):Int)<=(↑(32:Nat):Int)then if za b=(32:Nat)∧0<=z8 none (0:Int)∧z8 none 0<=z8 none (↑(32:Nat):Int)∧z8 none (↑(32:Nat):Int)<=(↑(32:Nat):Int)then
  ze (jmf (je (32:Nat) (jf (0:Nat) a)) (je (32:Nat) (jf (0:Nat) b))) fun r0 =>
  some r0
  else none
 else none
def jks:List Lf->Option GT|[.b 32 (.f .f32 a),.b 32 (.f .f32 b)]=>some (.leaf (ok (jmg a b)) [.c (.d (.b ((val (jmg a b)))))])|_=>none
abbrev sp_68:jab->jab:=jal 68 true (jak jtq jks)
def sp_68_ok:KO sp_68:=jag (kT (sp_110_ok jaf) Tryz.func68 (by kernel_rfl) fun ls t h ho=>by
 unfold jks at h;split at h
 ·rename_i a b;cases h;have ho:=jad ho
  generalize val (jmg a b)=r at ho ⊢
  exact⟨by kernel_rfl,fun _ _ _=>none,Sk.vd ho (.ob (.ob (.call (.obT (.rc))))) (by kernel_rfl)⟩
 ·cases h)
attribute [irreducible] jmg
def jvG (a b:List (List Nat)) (x0:Int):Option (Int ⊕ (Unit ⊕ Unit)) :=
 if x0<(↑a.length:Int)then if 0<=x0∧x0<(↑a.length:Int)then
  if zf x0<za a then if 0<=x0∧x0<(↑b.length:Int)then
   if zf x0<za b then
    ze (jmg (zb a x0.toNat []) (zb b x0.toNat [])) fun r0 =>
    if(!r0)=true then
    some (.inr ((.inl ())))
    else
    some (.inl (wrap .i64 (x0+1)))
   else none
   else none
  else none
  else none
 else some (.inr ((.inr ())))
def jnf (u3:Unit):Option Bool :=some false
def jng (u4:Unit):Option Bool :=some true
def jqq:(Unit ⊕ Unit)->Option Bool :=(qy (jnf) (jng))
def jgQ (a b:List (List Nat)):Option Bool :=
 if((↑a.length:Int)!=(↑b.length:Int))=true then some false
 else ze (jae (jvG a b) big (0:Int)) (jqq)
attribute [irreducible] jgQ
def jwz:List SV:=[.c (.x (.bb .f32 32 []))]
def jrI (in_:List (List (List Nat))) (x0:Int):Option (Int ⊕ (Unit ⊕ Unit)) :=
 if x0<(↑in_.length:Int)then if 0<=x0∧x0<(↑in_.length:Int)then
  if zf x0<za in_ then if(↑(za (zb in_ x0.toNat [])):Int)>4 then
   if 0<=x0∧x0<(↑in_.length:Int)then if zf x0<za in_ then
    if(↑(za (zb in_ x0.toNat [])):Int)<=16 then some (.inr ((.inl ())))
    else if 0<=x0∧x0<(↑in_.length:Int)then
     if zf x0<za in_ then if(↑(za (zb in_ x0.toNat [])):Int)>18 then some (.inr ((.inl ())))
      else
      some (.inl (wrap .i64 (x0+1)))
     else none
     else none
    else none
   else none
   else
   some (.inl (wrap .i64 (x0+1)))
  else none
  else none
 else some (.inr ((.inr ())))
def jrJ (u3:Unit):Option Bool :=some false
def jrK (u4:Unit):Option Bool :=some true
def jmh:(Unit ⊕ Unit)->Option Bool :=(qy (jrJ) (jrK))
def jmi (in_:List (List (List Nat))):Option Bool :=
 if(↑in_.length:Int)>10 then some false
 else ze (jae (jrI in_) big (0:Int)) (jmh)
def jn4:List Lf->Option GT|[.x (.bb .f32 32 in_)]=>some (.leaf (ok (jmi in_)) [.c (.d (.b ((val (jmi in_)))))])|_=>none
abbrev sp_62:jab->jab:=jal 62 true (jak jwz jn4)
def sp_62_ok:KO sp_62:=jag (kT jaf Tryz.func62 (by kernel_rfl) fun ls t h ho=>by
 unfold jn4 at h;split at h
 ·rename_i in_;cases h;have ho:=jad ho
  generalize val (jmi in_)=r at ho ⊢
  let l0:=lp0 (jrI in_) jmh r fun z=>⟨[(0,.w (.c (.o 0))),(3,.w (.c (.d (.i .i64 z.1))))],[(0,.xext (XC.bb .f32 (32:Nat) in_))],1⟩
  exact⟨by kernel_rfl,(fun _ id _=>match id with
   |0=>l0.li
   |_=>none),Sk.vd ho (.br
   (.obT (.rc))
   (.loop (l0) (fun kk=>((0:Int),big)) fun z0 =>
   .br
   (.ob (.ob (.br
   (.ob (.ob (.br
   (.exit (.obT (.rc)))
   (.ob (.ob (.br
   (.exit (.obT (.rc)))
   (.next)))))))
   (.next))))
   (.exit (.obT (.rc))))) (by kernel_rfl)⟩
 ·cases h)
attribute [irreducible] jmi
def jrL:List SV:=[.c (.x (.bb .f32 32 []))]
def jrM (in_:List (List (List Nat))) (x0:(Int × List (List (List Nat)))):Option ((Int × List (List (List Nat))) ⊕ (List (List (List Nat)))) :=
 if x0.1<(↑in_.length:Int)then if 0<=x0.1∧x0.1<(↑in_.length:Int)then
  if zf x0.1<za in_ then if(0+za (zb in_ x0.1.toNat []))*128<=140737488355328∧0+za (zb in_ x0.1.toNat [])<=9223372036854775807 then
   if(za x0.2+za (qt (fun r=>NC.toFrs (zA r (NC.d (D.v zJ)))) [[NC.r (Cont.frs .f32 (za zD) ([]++zb in_ x0.1.toNat []))]]))*24<=140737488355328∧za x0.2+za (qt (fun r=>NC.toFrs (zA r (NC.d (D.v zJ)))) [[NC.r (Cont.frs .f32 (za zD) ([]++zb in_ x0.1.toNat []))]])<=9223372036854775807 then some (.inl ((wrap .i64 (x0.1+1),x0.2++qt (fun r=>NC.toFrs (zA r (NC.d (D.v zJ)))) [[NC.r (Cont.frs .f32 (za zD) ([]++zb in_ x0.1.toNat []))]])))
   else none
   else none
  else none
  else none
 else some (.inr x0.2)
def jhE (u3:List (List (List Nat))):Option (List (List (List Nat))) :=some u3
def y13 (in_:List (List (List Nat))):Option (List (List (List Nat))) :=ze (jae (jrM in_) big (((0:Int),[]))) (jhE)
def ji5:List Lf->Option GT|[.x (.bb .f32 32 in_)]=>some (.leaf (ok (y13 in_)) [.c (.m 79 [(110:Nat)] (.bb .f32 32 ((val (y13 in_)))))])|_=>none
abbrev sp_64:jab->jab:=jal 64 true (jak jrL ji5)
def sp_64_ok:KO sp_64:=jag (kT jaf Tryz.func64 (by kernel_rfl) fun ls t h ho=>by
 unfold ji5 at h;split at h
 ·rename_i in_;cases h;have ho:=jad ho
  generalize val (y13 in_)=r at ho ⊢
  let l0:=lp0 (jrM in_) jhE r fun z=>⟨[(0,.w (.c (.o 0))),(3,.w (.c (.o 1))),(4,.w (.c (.d (.i .i64 z.1.1))))],[(0,.xext (XC.bb .f32 (32:Nat) in_)),(1,.mrow 79 [(110:Nat)] (XC.bb .f32 (32:Nat) z.1.2) none)],2⟩
  exact⟨by kernel_rfl,(fun _ id _=>match id with
   |0=>l0.li
   |_=>none),Sk.vd ho ((.loopQ (l0) [.c fun vv=>vv.1.1,.c fun _=>in_,.p fun vv=>za vv.1.2=(0:Nat)] (fun kk=>(((0:Int),[]),big)) (fun z0 =>
   .br
   (.ob (.ob (.ob (.ob (.next)))))
   (.exit (.obT (.rc)))) (fun _=>⟨rfl,trivial⟩))) (by kernel_rfl)⟩
 ·cases h)
attribute [irreducible] y13
end Go.Sh
end

section
namespace Go.Sh
open Go Go.Proofs Go.RowKit Go.Sx
open Go.IntKind (wrap)
set_option maxRecDepth 100000
def jnh:List SV:=[.c (.p [.d,.x (.st zS []),.r (.ints .i64 [])]),.c (.x (.bb .f32 32 [])),.c (.r (.recs 2 []))]
def jvH (in_:List (List (List Nat))) (x0:Int):Option (Int ⊕ (Unit ⊕ Unit)) :=
 if x0<(↑in_.length:Int)then if 0<=x0∧x0<(↑in_.length:Int)then
  if zf x0<za in_ then if(0:Int)<=0∧0<(↑in_.length:Int)then
   if 0<za in_ then if((↑(za (zb in_ x0.toNat [])):Int)!=(↑(za (zb in_ 0 [])):Int))=true then some (.inr ((.inl ())))
    else
    some (.inl (wrap .i64 (x0+1)))
   else none
   else none
  else none
  else none
 else some (.inr ((.inr ())))
def jjZ (u10:zY) (u6:List (List NC)) (u9:List Int) (in_:List (List (List Nat))) (l:List (List Int)) (u3:Unit):Option Int :=some (10:Int)
def y24 (in_:List (List (List Nat))) (x1:Int):Option (Int ⊕ (Int ⊕ Unit)) :=
 if x1<(↑in_.length:Int)then if 0<=x1∧x1<(↑in_.length:Int)then
  if zf x1<za in_ then
   ze (y95 (zb in_ x1.toNat [])) fun r1 =>
   if(r1 != 0)=true then
   some (.inr (.inl r1))
   else
   some (.inl (wrap .i64 (x1+1)))
  else none
  else none
 else some (.inr ((.inr ())))
def jj0 (u10:zY) (u6:List (List NC)) (u9:List Int) (l:List (List Int)) (u7:Int):Option Int :=some u7
def y167 (u10:zY) (u6:List (List NC)) (u9:List Int) (l:List (List Int)) (u20:Unit):Option Int :=
 ze (y51 u10 u6 u9 l) fun r2 =>
 some r2.2
def jvI (u10:zY) (u6:List (List NC)) (u9:List Int) (l:List (List Int)):(Int ⊕ Unit)->Option Int :=(qy (jj0 u10 u6 u9 l) (y167 u10 u6 u9 l))
def y168 (u10:zY) (u6:List (List NC)) (u9:List Int) (in_:List (List (List Nat))) (l:List (List Int)) (u4:Unit):Option Int :=
 if(↑in_.length:Int)>0 then if(0:Int)<=0∧0<(↑in_.length:Int)then
  if 0<za in_ then if(↑(za (zb in_ 0 [])):Int)>16 then some (8:Int)
   else
   ze (jae (y24 in_) big (0:Int)) (jvI u10 u6 u9 l)
  else none
  else none
 else ze (jae (y24 in_) big (0:Int)) (jvI u10 u6 u9 l)
def y244 (u10:zY) (u6:List (List NC)) (u9:List Int) (in_:List (List (List Nat))) (l:List (List Int)):(Unit ⊕ Unit)->Option Int :=(qy (jjZ u10 u6 u9 in_ l) (y168 u10 u6 u9 in_ l))
def y41 (u10:zY) (u6:List (List NC)) (u9:List Int) (in_:List (List (List Nat))) (l:List (List Int)):Option Int :=
 ze (y6 u6 (0:Int)) fun r0 =>
 if((↑in_.length:Int)!=(↑r0.length:Int))=true then some (10:Int)
 else ze (jae (jvH in_) big (0:Int)) (y244 u10 u6 u9 in_ l)
def jfN:List Lf->Option GT|[.d (.s u10),.x (.st [.s,.i .i64,.ints .i64,.ints .i64,.ints .i64,.i .i64,.recs 5,.i .i64] u6),.r (.ints .i64 u9),.x (.bb .f32 32 in_),.r (.recs 2 l)]=>some (.leaf (ok (y41 u10 u6 u9 in_ l)) [.c (.d (.i .i64 ((val (y41 u10 u6 u9 in_ l)))))])|_=>none
abbrev sp_116:jab->jab:=jal 116 true (jak jnh jfN)
def sp_116_ok:KO sp_116:=jag (kT (sp_99_ok (sp_100_ok (sp_92_ok jaf))) Tryz.func116 (by kernel_rfl) fun ls t h ho=>by
 unfold jfN at h;split at h
 ·rename_i u10 u6 u9 in_ l;cases h;have ho:=jad ho
  generalize val (y41 u10 u6 u9 in_ l)=r at ho ⊢
  let l0:=lp0 (jvH in_) (y244 u10 u6 u9 in_ l) r fun z=>⟨[(0,.w (.c (.p 2 0 1 0))),(1,.w (.c (.o 3))),(2,.w (.c (.o 4))),(20,.w (.c (.o 3))),(21,.w (.c (.d (.i .i64 ((↑in_.length:Int)))))),(22,.w (.c (.d (.i .i64 z.1))))],[(2,.ebox [.d (.s u10),.o 0,.o 1]),(3,.xext (XC.bb .f32 (32:Nat) in_)),(4,.ext (.recs 2 l)),(0,.xext (XC.st zS u6)),(1,.ext (.ints .i64 u9))],5⟩
  let l1:Lp (Unit × Int × Nat) Int (Int ⊕ Unit) Int Int:=⟨fun z=>z.2.1,fun z=>z.2.2,fun z x n=>((),x,n),fun z=>y24 in_,fun z=>jvI u10 u6 u9 l,fun z=>top r,fun z=>0,fun z=>⟨[(0,.w (.c (.p 2 0 1 0))),(2,.w (.c (.o 4))),(44,.w (.c (.o 3))),(45,.w (.c (.d (.i .i64 ((↑in_.length:Int)))))),(46,.w (.c (.d (.i .i64 z.2.1))))],[(2,.ebox [.d (.s u10),.o 0,.o 1]),(4,.ext (.recs 2 l)),(3,.xext (XC.bb .f32 (32:Nat) in_)),(0,.xext (XC.st zS u6)),(1,.ext (.ints .i64 u9))],5⟩⟩
  let p0:Sk (top r) (ze (jae (y24 in_) big (0:Int)) (jvI u10 u6 u9 l)):=.loop (l1) (fun kk=>((),0,big)) fun z0 =>
   .br
   (.ob (.ob (.call (.brB
   (.exit (.obT (.rc)))
   (.next)))))
   (.exit (.call (.obT (.rc))))
  exact⟨by kernel_rfl,(fun _ id _=>match id with
   |0=>l0.li
   |2=>l1.li
   |_=>none),Sk.vd ho (.call (.brB
   (.obT (.rc))
   (.loop (l0) (fun kk=>((0:Int),big)) fun z0 =>
   .br
   (.ob (.ob (.ob (.ob (.brB
   (.exit (.obT (.rc)))
   (.next))))))
   (.exit (.br
   (.ob (.ob (.br
   (.obT (.rc))
   (p0))))
   (p0)))))) (by kernel_rfl)⟩
 ·cases h)
attribute [irreducible] y41
end Go.Sh
end

section
namespace Go.Sh
open Go Go.Proofs Go.RowKit Go.Sx Ieee Go.Fl
def dbl {b:Nat} {s:Bool} {m:Nat} {e:Int} (h:single.read b=.number s m e) (hm:m<16777216) (he1:-149<=e) (he2:e<=104) :
  ∃m' e',double.read (jeg b)=.number s m' e'∧mg KK m' e'=mg KK m e∧-1074<=e'∧m'<9007199254740992:=by
 have e0:jeg b=double.write (.number s m e):=by
  unfold jeg jw qM;simp only[show FloatKind.format .f32=single from rfl,show FloatKind.format .f64=double from rfl,h]
 rw[e0]
 by_cases h0:m=0
 ·subst h0;exact⟨0,-1074,jud s e,by simp[mg],by omega,by omega⟩
 ·obtain⟨h1,h2⟩:=jqJ (s:=s) h0 (by omega) (show -1000<=e by omega) (show e<=900 by omega);have hw:=jwY (s:=s) h0 (by omega) (show -1000<=e by omega) (show e<=900 by omega);refine⟨_,_,h1,?_,by omega,hw.2.2.2⟩;unfold mg;rw[ym,<-yO]
  congr 2
  unfold KK;omega
def jBO {s:Bool} {n:Nat} (h2:n%2=0) (hn:2<=n):Toward.cut .even s n 1=n/2:=by
 have hg:(1 <<< min 1 (n.log2+2))=2:=by rw[yv (by omega)];rfl
 simp[Toward.cut,hg,h2]
def jD8 {n:Int} (hn:n.natAbs<18014398509481984) (he:9007199254740992<=n.natAbs->n.natAbs%2=0) :
  ∃m e,double.read (qw .f64 n)=.number (decide (n<0)) m e∧mg KK m e=n.natAbs*PP∧-1074<=e:=by
 have e0:qw .f64 n=double.write (.number (decide (n<0)) n.natAbs 0):=rfl;rw[e0]
 generalize decide (n<0)=s
 generalize n.natAbs=a at *
 by_cases h0:a=0
 ·subst h0;exact⟨0,-1074,jud s 0,by simp[mg],by omega⟩
 ·by_cases hs:a<9007199254740992
  ·obtain⟨h1,h2⟩:=jqJ (s:=s) h0 hs (show(-1000:Int)<=0 by omega) (show(0:Int)<=900 by omega);refine⟨_,_,h1,?_,by omega⟩;rw[jqd];unfold mg;rw[ym,<-yO]
   congr 2
   unfold KK;omega
  ·have hev:=he (by omega)
   have hl:a.log2=53:=by
    have h1:=(fv h0 (k:=54)).2 (by omega);have h2:¬a.log2<53:=fun h=>by have:=(fv h0 (k:=53)).1 h;omega
    omega
   have e2:double.binade=4503599627370496:=rfl;have e3:double.infRung=9218868437227405312:=rfl;have e4:double.leastPlace=-1074:=rfl;have e5:double.fractionBits=52:=rfl
   have hw:double.write (.number s a 0)=double.word s (1075*4503599627370496+a/2):=by
    simp only[Format.write,Format.nearest,if_neg h0,e2,e3,e4,e5,hl];have hlast:max ((0:Int)+((53:Nat):Int)-((52:Nat):Int)) (-1074)=1:=by omega
    rw[hlast];have ha:((0:Int)-1).toNat=0:=by omega
    have hb:((1:Int)-0).toNat=1:=by omega
    rw[ha,hb,Nat.shiftLeft_zero,jBO hev (by omega)];have hc:((1:Int) - -1074).toNat=1075:=by omega
    rw[hc,yv (by omega)]
   rw[hw,jnz (by omega) (by omega)];refine⟨_,_,rfl,?_,by omega⟩;have hb:(1075*4503599627370496+a/2)/4503599627370496-1=1075:=by omega
   have ha:4503599627370496+(1075*4503599627370496+a/2)%4503599627370496=a/2:=by omega
   rw[ha,hb];have hc:(-1074:Int)+((1075:Nat):Int)=((1:Nat):Int):=by omega
   rw[hc,jqc]
   congr 1
   omega
def jyQ {f:Nat} {s:Bool} {m:Nat} {e:Int} (h:double.read f=.number s m e) (he:-1074<=e) (hm:m<9007199254740992) :
  jig f=some (decide (10000000000000000*PP<mg KK m e∨mg KK m e/PP*PP=mg KK m e)):=by
 have hz:Format.order double 0 0=some .eq:=by decide
 have h1:double.order f f=some .eq:=by
  unfold Format.order;rw[h,jcx KK (by unfold KK;omega) (by unfold KK;omega),Int.compare_eq_eq.2 rfl]
 have hA:double.order f 14069741636278059008=some (compare (sg s (mg KK m e)) (-((10000000000000000*PP:Nat):Int))):=by
  unfold Format.order;have hc:double.read 14069741636278059008=.number true 5000000000000000 1:=by decide
  rw[h,hc,jcx KK (by unfold KK;omega) (by unfold KK;omega)];rw[jCp]
  first|rw[jgH]|rw[jjV]
 have hB:double.order f 4846369599423283200=some (compare (sg s (mg KK m e)) ((10000000000000000*PP:Nat):Int)):=by
  unfold Format.order;have hc:double.read 4846369599423283200=.number false 5000000000000000 1:=by decide
  rw[h,hc,jcx KK (by unfold KK;omega) (by unfold KK;omega)];rw[jCp]
  first|rw[jgH]|rw[jjV]
 have hT:Datum.toInt .zero (qM .f64 f)=some (sg s (mg KK m e/PP)):=by
  unfold qM;simp only[show FloatKind.format .f64=double from rfl];rw[h,jvg (by unfold KK;omega)]
 have hq:f2i .f64 f=sg s (mg KK m e/PP):=by unfold f2i;rw[hT];rfl
 have hev:9007199254740992<=mg KK m e/PP->mg KK m e/PP%2=0:=by
  intro hge
  by_cases hp:0<=e
  ·obtain⟨d,rfl⟩:∃d:Nat,e=d:=⟨e.toNat,by omega⟩
   rw[jqc,Nat.mul_div_cancel _ jfu]at hge ⊢;cases d with
   |zero=>simp at hge;omega
   |succ d=>rw[fS,<-ym];exact Nat.mul_mod_left _ _
  ·have hlt:mg KK m e/PP<9007199254740992:=by
    rw[Nat.div_lt_iff_lt_mul jfu];rw[jqd];unfold mg;have h2:2^(e+KK).toNat<=2^KK:=Nat.pow_le_pow_right (by omega) (by omega)
    calc m*2^(e+KK).toNat<=m*2^KK:=Nat.mul_le_mul_left _ h2
     _<9007199254740992*2^KK:=yM hm (yy _)
   omega
 unfold jig;simp only[show FloatKind.format .f64=double from rfl];rw[h1,sub_self double h,hA,hB];simp only[Option.isSome_some,z9,hz,if_true,bne_self_eq_false,z3,if_false,jvf,jqb,jve]
 generalize hg:mg KK m e=A at *
 have hP:=jfu;have hdm:=yu A PP;rw[xI]at hdm;have hml:=ya A hP
 by_cases hbig:10000000000000000*PP<A
 ·rw[decide_eq_true (show _∨_ from .inl hbig)];cases s
  ·rw[if_pos,if_pos]
   ·simp only[sg,z3,if_false,xB,yG,decide_eq_false_iff_not];omega
   ·simp only[sg,z3,if_false,qU,decide_eq_true_eq];omega
  ·rw[if_neg];simp only[sg,if_true,qU,decide_eq_true_eq];omega
 ·have hd:A/PP<=10000000000000000:=by
   have:A/PP<10000000000000001:=by rw[Nat.div_lt_iff_lt_mul hP];omega
   omega
  generalize A/PP=Q at *
  generalize A%PP=R at *
  generalize hQP:Q*PP=QP at *
  rw[if_pos,if_neg]
  ·have hok:jbR .f64 .i64 f=true:=by
    unfold jbR;rw[hT];have e1:qP.min=-9223372036854775808:=rfl;have e2:qP.max=9223372036854775807:=rfl;simp only[e1,e2,decide_eq_true_eq];cases s<;>simp only[sg,z3,if_false,if_true]<;>omega
   rw[if_pos hok];have habs:(sg s Q).natAbs=Q:=by cases s<;>simp only[sg,z3,if_false,if_true]<;>omega
   obtain⟨m',e',h3,h4,h5⟩:=jD8 (n:=sg s Q) (by rw[habs];omega) (by rw[habs];exact hev)
   have hC:double.order (qw .f64 (f2i .f64 f)) f=some (compare (sg s Q*(PP:Int)) (sg s A)):=by
    unfold Format.order;rw[hq,h3,h,jcx KK (by unfold KK;omega) (by unfold KK;omega),h4,hg,jiW,jl0]
   rw[hC,jqb,<-jiW,hQP]
   congr 1
   rw[decide_eq_decide];cases s<;>simp only[sg,z3,if_false,if_true]<;>omega
  ·simp only[xB,yG,decide_eq_false_iff_not];cases s<;>simp only[sg,z3,if_false,if_true]<;>omega
  ·simp only[qU,decide_eq_true_eq];cases s<;>simp only[sg,z3,if_false,if_true]<;>omega
def jD9 {f:Nat} {s:Bool} {m:Nat} {e:Int} (h:double.read f=.number s m e) (he1:-1074<=e):double.order f 13898108175187443712=some (compare (sg s (mg KK m e)) (-((32767*PP:Nat):Int))):=by
 unfold Format.order;have hc:double.read 13898108175187443712=.number true 9006924376834048 (-38):=by decide
 rw[h,hc,jcx KK (by unfold KK;omega) (by unfold KK;omega)]
 have:mg KK 9006924376834048 (-38)=32767*PP:=by
  rw[jqd];unfold mg;rw[show KK=(-38+(KK:Int)).toNat+38 by unfold KK;omega,yO];rw[show((-38:Int)+(((-38+(KK:Int)).toNat+38:Nat):Int)).toNat=(-38+(KK:Int)).toNat by unfold KK;omega]
  generalize 2^(-38+(KK:Int)).toNat=q
  omega
 rw[this,jjV]
def jEa {f:Nat} {s:Bool} {m:Nat} {e:Int} (h:double.read f=.number s m e) (he1:-1074<=e):double.order f 4674736138332667904=some (compare (sg s (mg KK m e)) (((32767*PP:Nat):Int))):=by
 unfold Format.order;have hc:double.read 4674736138332667904=.number false 9006924376834048 (-38):=by decide
 rw[h,hc,jcx KK (by unfold KK;omega) (by unfold KK;omega)]
 have:mg KK 9006924376834048 (-38)=32767*PP:=by
  rw[jqd];unfold mg;rw[show KK=(-38+(KK:Int)).toNat+38 by unfold KK;omega,yO];rw[show((-38:Int)+(((-38+(KK:Int)).toNat+38:Nat):Int)).toNat=(-38+(KK:Int)).toNat by unfold KK;omega]
  generalize 2^(-38+(KK:Int)).toNat=q
  omega
 rw[this,jgH]
def jkt (b:Nat):joS b=some (se b):=by
 unfold joS;simp only[show FloatKind.format .f64=double from rfl];have hdec:qM .f32 b=single.read b:=rfl;unfold jmH se;rw[hdec];rcases read32 b with ⟨s,m,e,h,hm,he1,he2⟩|⟨s,h⟩|⟨s,t,h⟩
 ·obtain⟨m',e',h1,h2,h3,h4⟩:=dbl h hm he1 he2
  have hw:16777216*PP<=mg KK m e->mg KK m e/PP*PP=mg KK m e:=by
   intro hge
   by_cases hp:0<=e
   ·obtain⟨d,rfl⟩:∃d:Nat,e=d:=⟨e.toNat,by omega⟩
    rw[jqc,Nat.mul_div_cancel _ jfu]
   ·exfalso
    have:mg KK m e<16777216*PP:=by
     rw[jqd];unfold mg;have h2:2^(e+KK).toNat<=2^KK:=Nat.pow_le_pow_right (by omega) (by omega)
     calc m*2^(e+KK).toNat<=m*2^KK:=Nat.mul_le_mul_left _ h2
      _<16777216*2^KK:=yM hm (yy _)
    omega
  have hW:=jyQ h1 h3 h4;have hlo:=jD9 h1 h3;have hhi:=jEa h1 h3;have hse:seD (.number s m e)=if 16777216*PP<=mg KK m e then 2 else if mg KK m e/PP*PP≠mg KK m e then 27 else if mg KK m e/PP<=32767 then 0 else 2:=rfl
  rw[h2]at hW hlo hhi;have hnn:(Datum.number s m e).isNaN=false:=rfl;rw[h,hse,hnn,hW,jaa,hlo,hhi,jve,jvf];clear h h1 h2 h3 h4 hW hlo hhi hse hnn;rw[if_neg qB];obtain⟨A,hA⟩:∃A,A=mg KK m e:=⟨_,rfl⟩
  rw[<-hA]at hw ⊢;clear hA;have hP:=jfu;have hdm:=yu A PP;rw[xI]at hdm;have hml:=ya A hP
  have hq1:A/PP<=32767<->A<32768*PP:=by
   rw[<-Nat.div_lt_iff_lt_mul hP];omega
  have hq2:A/PP*PP=A->(A/PP<=32767<->A<=32767*PP):=by
   intro hh;constructor
   ·intro h;rw[<-hh];exact qb _ h
   ·intro h;rw[<-hh]at h;exact Nat.le_of_mul_le_mul_right h hP
  generalize A/PP=Q at *
  generalize A%PP=R at *
  generalize hQP:Q*PP=QP at *
  by_cases hbig:16777216*PP<=A
  ·have hww:=hw hbig;rw[if_pos hbig,decide_eq_true (show _∨_ from .inr hww)];simp only[gP,z3,if_false,decide_eq_true_eq]
   skip
   cases s
   ·rw[if_neg (by rw[jgH];omega),if_pos (by rw[jgH];omega)]
   ·rw[if_pos (by rw[jjV];omega)]
  ·rw[if_neg hbig]
   by_cases hwh:QP=A
   ·rw[decide_eq_true (show _∨_ from .inr hwh),if_neg (show ¬QP≠A by omega)];simp only[gP,z3,if_false,decide_eq_true_eq];have hq:=hq2 hwh
    by_cases hs:Q<=32767
    ·have:=hq.1 hs;rw[if_pos hs];cases s
     ·rw[if_neg (by rw[jgH];omega),if_neg (by rw[jgH];omega)]
     ·rw[if_neg (by rw[jjV];omega),if_neg (by rw[jjV];omega)]
    ·have:¬A<=32767*PP:=fun h=>hs (hq.2 h);rw[if_neg hs];cases s
     ·rw[if_neg (by rw[jgH];omega),if_pos (by rw[jgH];omega)]
     ·rw[if_pos (by rw[jjV];omega)]
   ·rw[decide_eq_false (show ¬(_∨_) by omega),if_pos (show QP≠A from hwh)];rfl
 ·have h1:jeg b=double.word s 9218868437227405312:=by
   unfold jeg jw qM;simp only[show FloatKind.format .f32=single from rfl,show FloatKind.format .f64=double from rfl,h];rfl
  have h2:double.read (jeg b)=.infinity s:=by rw[h1];cases s<;>decide
  have h3:jig (jeg b)=some false:=by
   have ho:double.order (jeg b) (jeg b)=some .eq:=by unfold Format.order;rw[h2];cases s<;>rfl
   unfold jig;simp only[show FloatKind.format .f64=double from rfl];rw[ho,jxn double h2];rfl
  rw[h3,h];rfl
 ·rw[h];rfl
def jrN {l:List Nat} (hl:l.length<1000000000000):y87 l=some (ja7 l):=by
 unfold y87 ja7
 rw[jaN l 0 (fun b=>se b != 0) (body:=y79 l) (fun i=>.inl (se (l.getD i 0))) (.inr ()) (by omega)
  (fun i hi hp=>by
   unfold y79;rw[if_pos (by omega),if_pos (by omega),if_pos (by omega),zg,jkt,jaa,if_pos hp])
  (fun i hi hp=>by
   unfold y79;rw[if_pos (by omega),if_pos (by omega),if_pos (by omega),zg,jkt,jaa,if_neg (by rw[hp];simp),jai (by omega)])
  (by unfold y79;rw[if_neg (by omega)])]
 cases l.findIdx? (fun b=>se b != 0)<;>rfl
def blE (l:List (List Nat)):Int:=match l.findIdx? (fun b=>ja7 b != 0)with|some i=>ja7 (l.getD i [])|none=>0
def jBP {l:List (List Nat)} (h:blE l=0):∀b∈l,ja7 b=0:=by
 intro b hb;unfold blE at h;cases hf:l.findIdx? (fun b=>ja7 b != 0)with
 |none =>
  rw[qv]at hf;simpa using hf b hb
 |some i =>
  rw[hf]at h;rw[qm]at hf;obtain⟨hk,hp,_⟩:=hf;have h:ja7 (l.getD i [])=0:=h;rw[jan hk]at h;simp[h]at hp
def jAr {l:List (List Nat)} (h:∀b∈l,ja7 b=0):blE l=0:=by
 unfold blE
 have:l.findIdx? (fun b=>ja7 b != 0)=none:=by
  rw[qv];intro b hb;simp[h b hb]
 rw[this]
def jku {l:List (List Nat)} (hl:l.length<1000000000000) (hb:∀b∈l,b.length=32):y95 l=some (blE l):=by
 unfold y95 blE
 have key:∀i,i<l.length->jrj l (i:Int)=if(ja7 (l.getD i [])!=0)=true then some (.inr (.inl (ja7 (l.getD i []))))else some (.inl ((i:Int)+1)):=fun i hi=>by
  have h32:=hb (l.getD i []) (by rw[jan hi];exact zW hi);unfold jrj;rw[if_pos (by omega),if_pos (by omega),if_pos (by omega),zg,if_pos ⟨h32,by decide⟩,yq,xW (by omega),jiY (by omega),jaa,jai (by omega)]
 rw[jaN l [] (fun b=>ja7 b != 0) (body:=jrj l) (fun i=>.inl (ja7 (l.getD i []))) (.inr ()) (by omega)
  (fun i hi hp=>by rw[key i hi,if_pos hp]) (fun i hi hp=>by rw[key i hi,if_neg (by rw[hp];simp)]) (by unfold jrj;rw[if_neg (by omega)])]
 cases l.findIdx? (fun b=>ja7 b != 0)<;>rfl
def jtr {l:List (List Nat)} (hl:l.length<1000000000000) (hb:∀b∈l,b.length=32):joU l=some (blE l):=by
 unfold joU blE
 have key:∀i,i<l.length->y88 l (i:Int)=if(ja7 (l.getD i [])!=0)=true then some (.inr (.inl (ja7 (l.getD i []))))else some (.inl ((i:Int)+1)):=fun i hi=>by
  have h32:=hb (l.getD i []) (by rw[jan hi];exact zW hi);unfold y88;rw[if_pos (by omega),if_pos (by omega),zg,if_pos ⟨hi,h32,by decide⟩,yq,xW (by omega),jrN (by omega),jaa,jai (by omega)]
 rw[jaN l [] (fun b=>ja7 b != 0) (body:=y88 l) (fun i=>.inl (ja7 (l.getD i []))) (.inr ()) (by omega)
  (fun i hi hp=>by rw[key i hi,if_pos hp]) (fun i hi hp=>by rw[key i hi,if_neg (by rw[hp];simp)]) (by unfold y88;rw[if_neg (by omega)])]
 cases l.findIdx? (fun b=>ja7 b != 0)<;>rfl
def T32 (t:List (List (List Nat))):Prop:=∀r∈t,∀b∈r,b.length=32
def lnB (t:List (List (List Nat))) (r:List (List Nat)):Bool:=r.length != (t.getD 0 []).length
def bsE (t:List (List (List Nat))):Int:=match t.findIdx? (fun r=>blE r != 0)with|some i=>blE (t.getD i [])|none=>0
def teG (n0:Nat) (t:List (List (List Nat))):Int :=if t.length≠n0 then 10 else if t.any (lnB t)=true then 10 else if 16<(t.getD 0 []).length then 8 else bsE t
def jsH {g:List (List NC)} (hn:g.length<1000) (kind:Int):jmc g kind=some (jaJ g kind):=(by kernel_rfl:jmc g kind=y6 g kind).trans (jgb hn kind)
def jvJ {t:List (List (List Nat))} {body:Int->Option (Int ⊕ (Unit ⊕ Unit))} (hl:t.length<1000000000000)
  (h1:∀i,i<t.length->body (i:Int)=if(((t.getD i []).length:Int)!=((t.getD 0 []).length:Int))=true then some (.inr (.inl ()))else some (.inl ((i:Int)+1)))
  (h2:body (t.length:Int)=some (.inr (.inr ()))):jae body big 0=some (if t.any (lnB t)=true then .inl ()else .inr ()):=by
 have e:∀r:List (List Nat),((r.length:Int)!=((t.getD 0 []).length:Int))=lnB t r:=fun r=>by
  unfold lnB;rw[yV,bne_iff_ne,bne_iff_ne];omega
 exact jb0 t [] (lnB t) (body:=body) (.inl ()) (.inr ()) (by omega) (fun i hi hp=>by rw[h1 i hi,e,if_pos hp]) (fun i hi hp=>by rw[h1 i hi,e,if_neg (by rw[hp];simp)]) h2
def jBQ {g:List (List NC)} (hn:g.length<1000) (nm:ByteArray) (od:List Int) {t:List (List (List Nat))} (hl:t.length<1000000000) (h32:T32 t) (f:List (List Int)) :
  y41 nm g od t f=some (if teG (jaJ g 0).length t≠0 then teG (jaJ g 0).length t else(cf g.length f).2):=by
 unfold y41 teG;rw[jgb hn,jaa]
 by_cases c1:t.length=(jaJ g 0).length
 ·rw[if_neg (by rw[c1];simp),if_neg (show ¬t.length≠(jaJ g 0).length by omega),
   jvJ (t:=t) (body:=jvH t) (by omega) (fun i hi=>by
    unfold jvH;rw[if_pos (by omega),if_pos (by omega),if_pos (by omega),if_pos (by omega),if_pos (by omega),zg,jai (by omega)]) (by unfold jvH;rw[if_neg (by omega)]),jaa]
  by_cases c2:t.any (lnB t)=true
  ·rw[if_pos c2,if_pos c2,if_pos (by decide)];rfl
  ·rw[if_neg c2,if_neg c2]
   have hrow:∀i,i<t.length->(t.getD i []).length=(t.getD 0 []).length:=fun i hi=>by
    have:¬lnB t (t.getD i [])=true:=fun h=>c2 (qY.2 ⟨_,by rw[jan hi];exact zW hi,h⟩);unfold lnB at this;simpa using this
   have key:∀i,i<t.length->(t.getD 0 []).length<=16->y24 t (i:Int)=if(blE (t.getD i [])!=0)=true then some (.inr (.inl (blE (t.getD i []))))else some (.inl ((i:Int)+1)):=fun i hi h16=>by
    have hr:=hrow i hi;unfold y24;rw[if_pos (by omega),if_pos (by omega),zg,if_pos hi,jku (by omega) (h32 _ (by rw[jan hi];exact zW hi)),jaa,jai (by omega)]
   have main:(t.getD 0 []).length<=16->ze (jae (y24 t) big (0:Int)) (jvI nm g od f)=some (if bsE t≠0 then bsE t else(cf g.length f).2):=fun h16=>by
    rw[jaN t [] (fun r=>blE r != 0) (body:=y24 t) (fun i=>.inl (blE (t.getD i []))) (.inr ()) (by omega)
     (fun i hi hp=>by rw[key i hi h16,if_pos hp]) (fun i hi hp=>by rw[key i hi h16,if_neg (by rw[hp];simp)]) (by unfold y24;rw[if_neg (by omega)]),jaa]
    unfold bsE;cases hf:t.findIdx? (fun r=>blE r != 0)with
    |none =>
     rw[if_neg (by simp)]
     show y167 nm g od f ()=_
     unfold y167;rw[jD4 nm od f hn];rfl
    |some i =>
     rw[qm]at hf;obtain⟨hk,hp,_⟩:=hf;have:blE (t.getD i [])≠0:=by rw[jan hk];simpa using hp
     rw[if_pos this];rfl
   show y168 nm g od t f ()=_
   unfold y168
   by_cases c3:0<t.length
   ·rw[if_pos (by omega),if_pos (by omega),if_pos c3]
    by_cases c4:16<(t.getD 0 []).length
    ·rw[if_pos (by omega),if_pos c4,if_pos (by decide)]
    ·rw[if_neg (by omega),if_neg c4,main (by omega)]
   ·have e0:t=[]:=z5 (by omega);subst e0;rw[if_neg (by simp),if_neg (show ¬16<(([]:List (List (List Nat))).getD 0 []).length by simp),main (by simp)]
 ·rw[if_pos (by rw[bne_iff_ne];omega),if_pos c1,if_pos (by decide)]
def jBR {g:List (List NC)} (hn:g.length<1000) {t:List (List (List Nat))} (hl:t.length<1000000000) (h32:T32 t) (hs:∀r∈t,r.length<1000000000) :
  joZ g t=some (teG (jaJ g 0).length t):=by
 unfold joZ jrC teG;rw[jsH hn,jaa,jaa]
 by_cases c1:t.length=(jaJ g 0).length
 ·rw[if_neg (by rw[c1];simp),if_neg (show ¬t.length≠(jaJ g 0).length by omega),
   jvJ (t:=t) (body:=jvF t) (by omega) (fun i hi=>by
    unfold jvF;rw[if_pos (by omega),if_pos (by omega),if_pos (by omega),if_pos (by omega),if_pos (by omega),zg,jai (by omega)]) (by unfold jvF;rw[if_neg (by omega)]),jaa]
  by_cases c2:t.any (lnB t)=true
  ·rw[if_pos c2,if_pos c2];rfl
  ·rw[if_neg c2,if_neg c2]
   have hrow:∀i,i<t.length->(t.getD i []).length=(t.getD 0 []).length:=fun i hi=>by
    have:¬lnB t (t.getD i [])=true:=fun h=>c2 (qY.2 ⟨_,by rw[jan hi];exact zW hi,h⟩);unfold lnB at this;simpa using this
   show y205 t ()=_
   unfold y205
   have k1:∀i,i<t.length->jrD t (i:Int)=if decide (16<(t.getD i []).length)=true then some (.inr (.inl ()))else some (.inl ((i:Int)+1)):=fun i hi=>by
    unfold jrD;rw[if_pos (by omega),if_pos (by omega),if_pos (by omega),zg,jai (by omega)]
    by_cases c:16<(t.getD i []).length
    ·rw[if_pos (by omega),if_pos (by simpa using c)]
    ·rw[if_neg (by omega),if_neg (by simpa using c)]
   rw[jb0 t [] (fun r=>decide (16<r.length)) (body:=jrD t) (.inl ()) (.inr ()) (by omega) (fun i hi hp=>by rw[k1 i hi,if_pos hp]) (fun i hi hp=>by rw[k1 i hi,if_neg (by rw[hp];simp)]) (by unfold jrD;rw[if_neg (by omega)]),jaa]
   have hany:t.any (fun r=>decide (16<r.length))=decide (16<(t.getD 0 []).length):=by
    rw[yV,qY];constructor
    ·rintro ⟨r,hr,h⟩;obtain⟨i,hi,rfl⟩:=xx.1 hr;have:=hrow i hi;rw[jan hi]at this;rw[this]at h;exact h
    ·intro h
     have h0:0<t.length:=by
      apply gG;intro e;rw[z5 e]at h;simp at h
     exact⟨t.getD 0 [],by rw[jan h0];exact zW h0,h⟩
   rw[hany]
   by_cases c4:16<(t.getD 0 []).length
   ·rw[if_pos (by simpa using c4),if_pos c4];rfl
   ·rw[if_neg (by simpa using c4),if_neg c4]
    show y204 t ()=_
    unfold y204
    have k2:∀i,i<t.length->jrE t (i:Int)=if(blE (t.getD i [])!=0)=true then some (.inr (.inl (blE (t.getD i []))))else some (.inl ((i:Int)+1)):=fun i hi=>by
     have hr:=hrow i hi;unfold jrE;rw[if_pos (by omega),if_pos (by omega),zg,if_pos hi,jtr (by omega) (h32 _ (by rw[jan hi];exact zW hi)),jaa,jai (by omega)]
    rw[jaN t [] (fun r=>blE r != 0) (body:=jrE t) (fun i=>.inl (blE (t.getD i []))) (.inr ()) (by omega)
     (fun i hi hp=>by rw[k2 i hi,if_pos hp]) (fun i hi hp=>by rw[k2 i hi,if_neg (by rw[hp];simp)]) (by unfold jrE;rw[if_neg (by omega)]),jaa]
    unfold bsE;cases t.findIdx? (fun r=>blE r != 0)<;>rfl
 ·rw[if_pos (by rw[bne_iff_ne];omega),if_pos c1]
structure TR (g:List (List NC)) (t:List (List (List Nat))):Prop where
 len:t.length=(jaJ g 0).length
 row:∀c,c<t.length->(t.getD c []).length=(t.getD 0 []).length
 sht:(t.getD 0 []).length<=16
 blk:∀c k,c<t.length->k<(t.getD 0 []).length->((t.getD c []).getD k []).length=32∧∀j,j<32->se (((t.getD c []).getD k []).getD j 0)=0
def jAs {g:List (List NC)} {t:List (List (List Nat))} (h32:T32 t) (h:teG (jaJ g 0).length t=0):TR g t:=by
 unfold teG at h;split at h
 ·exact absurd h (by decide)
 rename_i h1;split at h
 ·exact absurd h (by decide)
 rename_i h2;split at h
 ·exact absurd h (by decide)
 rename_i h3
 have hrow:∀i,i<t.length->(t.getD i []).length=(t.getD 0 []).length:=fun i hi=>by
  have:¬lnB t (t.getD i [])=true:=fun h=>h2 (qY.2 ⟨_,by rw[jan hi];exact zW hi,h⟩);unfold lnB at this;simpa using this
 refine⟨by omega,hrow,by omega,fun c k hc hk=>?_⟩;have hm:t.getD c []∈t:=by rw[jan hc];exact zW hc
 have hr:=hrow c hc
 have hm2:(t.getD c []).getD k []∈t.getD c []:=by
  rw[jan (show k<(t.getD c []).length by omega)];exact zW _
 have hb:blE (t.getD c [])=0:=by
  unfold bsE at h;cases hf:t.findIdx? (fun r=>blE r != 0)with
  |none =>
   rw[qv]at hf;simpa using hf _ hm
  |some i =>
   rw[hf]at h;rw[qm]at hf;obtain⟨hk,hp,_⟩:=hf;have h:blE (t.getD i [])=0:=h;rw[jan hk]at h;simp[h]at hp
 have h0:=h32 _ hm _ hm2;refine⟨h0,fun j hj=>?_⟩;refine jss (jBP hb _ hm2) _ ?_
 generalize (t.getD c []).getD k []=b at h0 ⊢
 rw[jan (by omega)];exact zW _
def jEb {g:List (List NC)} {t:List (List (List Nat))} (h:TR g t):teG (jaJ g 0).length t=0:=by
 unfold teG;rw[if_neg (by rw[h.len];simp),if_neg,if_neg (by have:=h.sht;omega)]
 ·unfold bsE
  have:t.findIdx? (fun r=>blE r != 0)=none:=by
   rw[qv];intro r hr;obtain⟨c,hc,rfl⟩:=xx.1 hr
   have h0:blE t[c]=0:=jAr fun b hb=>by
    obtain⟨k,hk,rfl⟩:=xx.1 hb;have hrw:=h.row c hc;rw[jan hc]at hrw;obtain⟨b1,b2⟩:=h.blk c k hc (by omega);rw[jan hc,jan hk]at b1 b2;refine jrw fun x hx=>?_;obtain⟨j,hj,rfl⟩:=xx.1 hx;have:=b2 j (by omega);rw[jan hj]at this;exact this
   rw[h0];rfl
  rw[this]
 ·intro hany;obtain⟨r,hr,hl⟩:=qY.1 hany;obtain⟨c,hc,rfl⟩:=xx.1 hr;have:=h.row c hc;rw[jan hc]at this;unfold lnB at hl;rw[this]at hl;simp at hl
end Go.Sh
end
