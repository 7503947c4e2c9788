/- Part 5 of the proof of EngineCompensates: the executor, the mirrors of the functions, the plain facts. -/
import Derived.Test.YtigliehhpdpaoaaGreatPD
set_option maxRecDepth 100000
set_option linter.unusedSectionVars false
set_option linter.unusedSimpArgs false
set_option linter.unusedVariables false
set_option linter.defProp false
open Array renaming getElem?_eq_some_iff->zA,mapM_eq_mapM_toList->yA,replicate_succ->jk,replicate_zero->jl
open Bool renaming and_eq_true->zk,not_eq_false->fF,not_eq_false'->gp,not_eq_true->gI,not_eq_true'->xK,or_eq_true->xn,or_false->kB,rec->gG
open Eq renaming mp->jJ
open Go renaming Code->yb,Deferred->x7,Exit->jP,Func->jQ,Oper->zX,Operand->zH,Program->zy,ResultVar->jc,TypeId->qf,Value->zF,World->zx,execOp->qr,results_none->jM,undef->qe,wpIn_cond_false->jA,wpIn_cond_true->jK,wpIn_region_list->gH,wpIn_seq->yu,wpIn_skip->fk,wpList->gA,wpListIn_nil->jL,wpListIn_plain->xu,wp_mono->xG,wp_region_list->g8,wp_seq->gP,yielded->jd
open Go.Deferred renaming ofValue->jX
open Go.Ending renaming returned->xO
open Go.Fence renaming wide->xD,wide_round->jq
open Go.IntKind renaming i64->xF
open Go.Op renaming equal->gh
open Go.Oper renaming semAt_none->jz,semAt_some->jy
open Go.Region renaming wanted->xy
open Go.Result renaming andThen_ok->zh
open Go.RowKit renaming Below->xA
open Go.RowKit.Below renaming refl->qO
open Go.Sem renaming run_bind->zn,run_map->gX,run_pure->zp
open Go.Value renaming int->xV,pointer->xa,slice->qc
open Go.World renaming block_lt_of_cell?->qj,cell?_setCell_same'->yB
open Go.World.grownBy renaming refl->gm
open Int renaming toNat->zf,toNat_natCast->zm
open List renaming all_eq_true->zq,any_eq_false->xL,any_eq_true->yd,append_nil->yD,append_toArray->ju,cons_append->qm,ext_getElem->yw,find?_cons->kc,getD->za,getElem?_append_right->qa,getElem?_eq_getElem->zJ,getElem?_eq_none->z9,getElem?_map->zK,getElem?_take_of_lt->yN,getElem_mem->xC,getElem_range->fu,length->zg,length_append->qb,length_cons->z4,length_nil->qD,map_cons->zM,map_map->xI,map_nil->qR,mem_append->qq,mem_cons->qv,mem_iff_getElem->yl,mem_map->qu,mem_range->xw,nil_append->qM,not_mem_nil->jW,push_toArray->jN,range->zG,rec->j9,replicate->zr,set->xM,size_toArray->xE,take_length->jY,take_succ_eq_append_getElem->xY
open Nat renaming add_le_add->jm,add_mul->qo,beq->zt,beq_refl->gd,ble->qn,blt->qh,eq_of_beq_eq_true->zb,le_of_ble_eq_true->zj,le_of_eq->yL,le_of_not_lt->xQ,le_refl->zu,le_trans->qx,lt_of_lt_of_le->zC,lt_succ_self->zo,min_eq_left->yY,mul_le_mul_right->zW,not_lt_of_le->yc,reduceAdd->gC,reduceSub->gD,testBit->qT,zero_add->zP,zero_le->qI
open Option renaming bind->ze,bind_eq_some_iff->zD,bind_some->zw,getD_none->x8,getD_some->zU,map_eq_some_iff->z5,map_some->zQ,rec->kO
open Option.some renaming inj->xT,injEq->zi
open Sum renaming elim->qZ
noncomputable section
section
namespace Go.Sx09
open Go Go.Proofs Go.RowKit Go.Shelf Go.Sx
attribute [local go_sem] jy
structure KpS (K:Nat->Prop) (A C:zx):Prop where
 size:A.heap.size<=C.heap.size
 same:∀k o,K k->A.heap[k]?=some o->o.isCells=true->C.heap[k]?=some o
def kps_t {K:Nat->Prop} {A B C:zx} (h:KpS K A B) (k:KpS K B C):KpS K A C:=⟨qx h.size k.size,fun x o hx ho hc=>k.same x o hx (h.same x o hx ho hc) hc⟩
def kps_b {K:Nat->Prop} {w:zx} (W:zx) (l:Nat) (o o':Obj) (_:w.heap.size<=l) (h:W.heap[l]?=some o) (hc:o.isCells=false) (_:o.isWalk=false):KpS K W (W.putObj l o') :=
 ⟨by simp,fun k u _ hk hu=>by
  have hne:l≠k:=fun e=>by subst e;rw[h]at hk;cases hk;rw[hc]at hu;cases hu
  exact(World.putObj_heap_other (fun e=>hne e.symm)).trans hk⟩
def jyD {K:Nat->Prop} {A B:zx} (h:xA A.heap.size A B):KpS K A B:=⟨h.size,fun k o _ hk _=>(h.block k (zA.1 hk).1).trans hk⟩
def needL (L:List Int) (st:Int):List Int:=if st=-1 then L else L++[st]
def stN (y:zF) (L:List Int) (v:List zF) (st:Int) (k:Nat):St :=
 ⟨[(18,vi .i64 k),(17,vi .i64 L.length),(16,.w (.c (.o 0))),(4,.w (.c (.p 1 0 1 0))),(0,.w (.c (.d (.v y))))],[(0,.ext (.ints .i64 L)),(1,.ebox (v.map (fun x=>C.d (.v x))++[.d (.i .i64 st)]))],2⟩
def stNc (y:zF) (L:List Int) (v:List zF) (st:Int) (k:Nat):St:=⟨(19,vb (decide ((k:Int)<L.length)))::(stN y L v st k).tm,(stN y L v st k).hp,2⟩
def stNd (y:zF) (L:List Int) (v:List zF) (st:Int) (k:Nat):St:=⟨(6,vi .i64 (L.getD k 0))::(stN y L v st k).tm,(stN y L v st k).hp,2⟩
def stNe (y:zF) (L:List Int) (v:List zF) (st:Int) (k:Nat):St:=⟨(29,vb (st != -1))::(stN y L v st k).tm,(stN y L v st k).hp,2⟩
abbrev pn (c:yb) (st st2:St):Prop:=sx Tryz.prog (fun _=>none) 34 2 0 (fun _ _ _=>none) (fun _ _ _=>False) c 0 [] st (fun e st'=>match e with | .normal=>Le 2 st' st2|_=>False)
section
variable (y:zF) (L:List Int) (v0 v1 v2 v3 v4 v5 v6:zF) (st:Int) (k:Nat)
def pn1:pn (sub [1,0,1,0,0,0] (bodyOf Tryz.f132)) (stN y L [v0,v1,v2,v3,v4,v5,v6] st k) (stNc y L [v0,v1,v2,v3,v4,v5,v6] st k):=by
 refine jJ (by kernel_rfl:(Ob ((decide ((k:Int)<L.length))=decide ((k:Int)<L.length))∧Ob ((k:Int)=k)∧Ob ((L.length:Int)=L.length)∧Ob ((0:Nat)=0)∧Ob (y=y)∧Ob (L=L)∧Ob (v0=v0)∧Ob (v1=v1)∧Ob (v2=v2)∧Ob (v3=v3)∧Ob (v4=v4)∧Ob (v5=v5)∧Ob (v6=v6)∧Ob (st=st)∧True)=_) ?_;exact⟨⟨rfl⟩,⟨rfl⟩,⟨rfl⟩,⟨rfl⟩,⟨rfl⟩,⟨rfl⟩,⟨rfl⟩,⟨rfl⟩,⟨rfl⟩,⟨rfl⟩,⟨rfl⟩,⟨rfl⟩,⟨rfl⟩,⟨rfl⟩,trivial⟩
def pn2 (hk:k<L.length):pn (sub [1,0,1,0,0,1,1,0,0,0] (bodyOf Tryz.f132)) (stNc y L [v0,v1,v2,v3,v4,v5,v6] st k) (stNd y L [v0,v1,v2,v3,v4,v5,v6] st k):=by
 refine jJ (by kernel_rfl:(Ob (0<=(k:Int)∧(k:Int)<(L.length:Int))∧Ob ((k:Int).toNat<L.length)∧Ob (L.getD (k:Int).toNat 0=L.getD k 0)∧Ob ((k:Int)=k)∧Ob ((L.length:Int)=L.length)∧Ob ((0:Nat)=0)∧Ob (y=y)∧Ob (L=L)∧Ob (v0=v0)∧Ob (v1=v1)∧Ob (v2=v2)∧Ob (v3=v3)∧Ob (v4=v4)∧Ob (v5=v5)∧Ob (v6=v6)∧Ob (st=st)∧True)=_) ?_;exact⟨⟨by omega⟩,⟨by omega⟩,⟨rfl⟩,⟨rfl⟩,⟨rfl⟩,⟨rfl⟩,⟨rfl⟩,⟨rfl⟩,⟨rfl⟩,⟨rfl⟩,⟨rfl⟩,⟨rfl⟩,⟨rfl⟩,⟨rfl⟩,⟨rfl⟩,⟨rfl⟩,trivial⟩
def pn3 (hk:(k:Int)+1<=9223372036854775807):pn (sub [1,0,1,0,0,1,1,1] (bodyOf Tryz.f132)) (stN y L [v0,v1,v2,v3,v4,v5,v6] st k) (stN y L [v0,v1,v2,v3,v4,v5,v6] st (k+1)):=by
 refine jJ (by kernel_rfl:(Ob (xF.wrap ((k:Int)+1)=((k+1:Nat):Int))∧Ob ((L.length:Int)=L.length)∧Ob ((0:Nat)=0)∧Ob (y=y)∧Ob (L=L)∧Ob (v0=v0)∧Ob (v1=v1)∧Ob (v2=v2)∧Ob (v3=v3)∧Ob (v4=v4)∧Ob (v5=v5)∧Ob (v6=v6)∧Ob (st=st)∧True)=_) ?_;refine⟨⟨?_⟩,⟨rfl⟩,⟨rfl⟩,⟨rfl⟩,⟨rfl⟩,⟨rfl⟩,⟨rfl⟩,⟨rfl⟩,⟨rfl⟩,⟨rfl⟩,⟨rfl⟩,⟨rfl⟩,⟨rfl⟩,trivial⟩;rw[IntWalk.i64_in _ (by omega)];omega
def pn4:pn (sub [1,1,0] (bodyOf Tryz.f132)) (stN y L [v0,v1,v2,v3,v4,v5,v6] st k) (stNe y L [v0,v1,v2,v3,v4,v5,v6] st k):=by
 refine jJ (by kernel_rfl:(Ob True∧Ob ((st != (-1:Int))=(st != (-1:Int)))∧Ob ((k:Int)=k)∧Ob ((L.length:Int)=L.length)∧Ob ((0:Nat)=0)∧Ob (y=y)∧Ob (L=L)∧Ob (v0=v0)∧Ob (v1=v1)∧Ob (v2=v2)∧Ob (v3=v3)∧Ob (v4=v4)∧Ob (v5=v5)∧Ob (v6=v6)∧Ob (st=st)∧True)=_) ?_;exact⟨⟨trivial⟩,⟨rfl⟩,⟨rfl⟩,⟨rfl⟩,⟨rfl⟩,⟨rfl⟩,⟨rfl⟩,⟨rfl⟩,⟨rfl⟩,⟨rfl⟩,⟨rfl⟩,⟨rfl⟩,⟨rfl⟩,⟨rfl⟩,⟨rfl⟩,trivial⟩
end
def jgF {U:Env} {B:Kd} {N n0:Nat} {st:St} {a:Act} {w:zx} {t:Nat} {v:V} (h:Rel U B N n0 st a w) (hv:v.lt st.nx) (hlt:t<N):Rel U B N n0 ⟨(t,v)::st.tm,st.hp,st.nx⟩ (a.put (some t) (v.val U)) w:=by
 refine⟨fun x u hx=>?_,by rw[jbD];exact h.size,by rw[jb9];exact h.defers,h.heap,h.le,h.n0⟩;simp only[jaE]at hx;rw[jbQ (fun y hy=>by cases hy;rw[h.size];exact hlt)];split at hx
 ·rename_i e;subst e;cases hx;exact⟨hv,by rw[if_pos rfl]⟩
 ·rename_i e;rw[if_neg (fun e'=>e (xT e'))];exact h.tm x u hx
def jti {o:zX} {v:zF} {n:Nat} {a:Act} {w:zx} {K:Act->zx->Prop} {Q:jP->Act->zx->Prop} (h:(qr a.eval o).run Tryz.prog w=.ok (.value v) w) (hK:K (a.put o.dst v) w):o.wpIn xD n Tryz.prog a w K Q:=by
 refine⟨fun _ _=>trivial,?_⟩;rw[jq,jz,h];exact hK
def jdE {o:zX} {t n N n0:Nat} {ob:Prop} {v:V} {U:Env} {B:Kd} {st:St} {a:Act} {w:zx} {K:Act->zx->Prop} {Q:jP->Act->zx->Prop} (hr:Rel U B N n0 st a w) (hs:ja4 Tryz.prog o.op (jbC st) st.hp=some (ob,v)) (hob:ob) (hd:o.dst=some t) (ht:t<N)
  (hK:∀a',Rel U B N n0 ⟨(t,v)::st.tm,st.hp,st.nx⟩ a' w->K a' w):o.wpIn xD n Tryz.prog a w K Q:=by
 obtain⟨B',_,hh⟩:=hr.heap;have h1:=jek hh hr.reads hs hob;refine jti h1.1 ?_;rw[hd];exact hK _ (jgF hr h1.2 ht)
def jvQ {U:Env} {B:Kd} {N n0:Nat} {s s0:St} {a:Act} {w:zx} (h:Rel U B N n0 s0 a w) (ht:∀t v,jaE s.tm t=some v->jaE s0.tm t=some v) (hh:s.hp=s0.hp) (hn:s.nx=s0.nx):Rel U B N n0 s a w :=
 ⟨fun t v hv=>by rw[hn];exact h.tm t v (ht t v hv),h.size,h.defers,by rw[hh,hn];exact h.heap,h.le,by rw[hn];exact h.n0⟩
structure BetN (K:Nat->Prop) (y:zF) (L:List Int) (v:List zF) (st:Int) (k:Nat) (a:Act) (w:zx):Prop where
 rel:∃U,Rel U (kd fun x=>x<w.heap.size) 34 2 (stN y L v st k) a w∧(∀ad n cap,U 0=.slice (some ad) n cap->0<n->K ad.block)∧∀b o,U 1=.pointer (some ⟨b,o,none⟩)->K b
def jmf {K:Nat->Prop} {U:Env} {B:Kd} {L:List Int} {v:List zF} {st:Int} {a:Act} {w w':zx} {s:St} (h:Rel U B 34 2 s a w) (hs:s.hp=[(0,.ext (.ints .i64 L)),(1,.ebox (v.map (fun x=>C.d (.v x))++[.d (.i .i64 st)]))]) (h0:∀ad n cap,U 0=.slice (some ad) n cap->0<n->K ad.block) (h1:∀b o,U 1=.pointer (some ⟨b,o,none⟩)->K b) (hk:KpS K w w') :
  Rel U (kd fun x=>x<w'.heap.size) 34 2 s a w':=by
 obtain⟨B',_,hh⟩:=h.heap
 have keep:∀{b:Nat} {off:Nat} {u:zF},K b->w.cell? ⟨b,off,none⟩=some u->w'.cell? ⟨b,off,none⟩=some u:=fun {b off u} hK hc=>by
  obtain⟨o,ho,hoc⟩:=cells_of_cell hc;have h2:=hk.same _ o hK ho hoc;exact(World.cell?_of_block (w:=w) (w':=w') (a:=⟨b,off,none⟩) (h2.trans (show w.heap[b]?=some o from ho).symm)).trans hc
 refine⟨h.tm,h.size,h.defers,⟨kd fun x=>x<w'.heap.size,Grow.refl _ _ _ _,⟨fun x o hf=>?_,fun x o x' o' b hf hf' hne hb=>?_,jfB⟩⟩,fun k hk=>jbe.1 hk,h.n0⟩
 ·have hx:=hh.ok x o hf;refine⟨hx.1,hx.2.1,?_⟩;simp only[hs,find]at hf;split at hf
  ·rename_i e;subst e;cases hf;obtain⟨⟨ad,cap,hv,hc,hcells⟩,ho⟩:=hx.2.2
   have hrow:jaJ w' (U 0) (.ints .i64 L):=by
    refine⟨ad,cap,hv,hc,fun hn=>?_⟩;obtain⟨b,off,hab,hxc⟩:=hcells hn;subst hab;exact⟨b,off,rfl,fun j z hj=>keep (h0 _ _ _ hv hn) (hxc j z hj)⟩
   exact⟨hrow,hrow.lt (zo 0)⟩
  ·split at hf
   ·rename_i e;subst e;cases hf;obtain⟨b,off,hv,hB,hcells⟩:=hx.2.2;have hK:=h1 b off hv;refine⟨b,off,hv,?_,fun j c hj=>keep hK (hcells j c hj)⟩;have hc0:=keep hK (hcells v.length (.d (.i .i64 st)) (by rw[qa (by simp)];simp));exact qj w' _ hc0
   ·cases hf
 ·simp only[hs,find]at hf;split at hf
  ·cases hf;cases hb
  ·split at hf
   ·cases hf;cases hb
   ·cases hf
def jly {K:Nat->Prop} {A B:zx} (h:A.grownBy B none):KpS K A B:=⟨h.size,fun k o _ hk _=>(h.block k (zA.1 hk).1 (fun e=>by cases e)).trans hk⟩
def jqW {l:Nat} {fn tmps assign body:_} {x:zF} {W:zx} {a:Act} {s q ty:Nat} (hs:a.eval (.tmp s)=.func (.yield l) #[] #[]) (hq:a.eval (.tmp q)=x)
  (hy:(Instr.yield l #[x]).run Tryz.prog W=.ok (.round l fn tmps assign body) W) (o:zX) (ho:o.op=.call { callee:=.value (.tmp s),args:=#[.tmp q],argTypes:=#[ty] }) :
  ((o.semAt xD.round a.eval).run Tryz.prog W)=.ok (.round l fn tmps assign body) W:=by
 rw[jq,jz];unfold qr;simp only[ho,resolve,hs,jX,zn,zp,zh,invoke,List.map_toArray,zM,qR,hq];exact hy
def jyE {α:Type} {enc:α->Int} {A:List α} {L:List Int} {st:Int} (hA:A.map enc=needL L st) {k:Nat} (hk:k<L.length):∃h:k<A.length,enc A[k]=L.getD k 0:=by
 have hlen:A.length=(needL L st).length:=by rw[<-hA];simp
 have h1:k<(needL L st).length:=by
  unfold needL;split
  ·exact hk
  ·simp;omega
 refine⟨by omega,?_⟩;have h2:(A.map enc)[k]?=(needL L st)[k]?:=by rw[hA]
 rw[zK,zJ (by omega)]at h2
 have h3:(needL L st)[k]?=L[k]?:=by
  unfold needL;split
  ·rfl
  ·rw[List.getElem?_append_left hk]
 rw[h3,zJ hk]at h2;simp only[zQ,zi]at h2;rw[h2];simp[za,zJ hk]
set_option maxHeartbeats 2000000 in
def jw3 (n l:Nat) (K:Nat->Prop) (L:List Int) (v0 v1 v2 v3 v4 v5 v6:zF) (st:Int) (hL:(L.length:Int)<9223372036854775807) {α:Type} (enc:α->Int) (A:List α) (hA:A.map enc=needL L st) (J Jx:List α->zx->Prop)
  (hY:∀(k:Nat) (h:k<A.length) W,J (A.take k) W->YieldAt xD (n-1) Tryz.prog l #[.int .i64 (enc A[k])] W fun e W' =>
   (e=.returned (.bool true)∧J (A.take (k+1)) W'∧KpS K W W')∨(e=.returned (.bool false)∧Jx (A.take (k+1)) W'))
  (hJ:∀A B pre,J pre A->A.grownBy B none->J pre B) (a:Act) (w:zx) (hb:BetN K (.func (.yield l) #[] #[]) L [v0,v1,v2,v3,v4,v5,v6] st 0 a w) (hj0:J [] w)
  (R:zx->Prop) (hR:∀k W,k<=A.length->Jx (A.take k) W->R W) (Q:Act->zx->Prop) (hQ:∀a w,BetN K (.func (.yield l) #[] #[]) L [v0,v1,v2,v3,v4,v5,v6] st L.length a w->J (A.take L.length) w->Q a w) :
  (sub [1,0,1] (bodyOf Tryz.f132)).wpIn xD n Tryz.prog (Exit.then Q (bodyPost Tryz.prog Tryz.f132 fun e W'=>(∃v,e=.returned v)∧R W')) a w:=by
 refine wpIn_block (wpIn_loop (fun a w=>∃k,k<=L.length∧BetN K (.func (.yield l) #[] #[]) L [v0,v1,v2,v3,v4,v5,v6] st k a w∧J (A.take k) w) (fun a _=>L.length-(intOf (a.tmps.getD 18 qe)).toNat) ⟨0,by omega,hb,hj0⟩ ?_);rintro a w ⟨k,hk,⟨U,hr,hg0,hg1⟩,hj⟩
 have hmu:(intOf (a.tmps.getD 18 qe)).toNat=k:=by
  rw[(hr.tm 18 _ rfl).2];simp[intOf]
 rw[hmu];refine yu (wpIn_wide.2 (xG (jjR hr (pn1 _ L v0 v1 v2 v3 v4 v5 v6 st k)) ?_));rintro e a1 w1 ⟨rfl,hw1,U1,hr1,hag1⟩;have hj1:=hJ _ _ _ hj hw1;have hc:a1.eval (.tmp 19)=.bool (decide ((k:Int)<L.length)):=(hr1.tm 19 _ rfl).2
 by_cases hlt:k<L.length
 ·refine yu (jK (by rw[hc,decide_eq_true (by omega)]) (fk ?_));have hg0a:∀ad n cap,U1 0=.slice (some ad) n cap->0<n->K ad.block:=fun ad n cap h=>hg0 ad n cap (by rw[<-hag1 0 (by decide)];exact h);have hg1a:∀b o,U1 1=.pointer (some ⟨b,o,none⟩)->K b:=fun b o h=>hg1 b o (by rw[<-hag1 1 (by decide)];exact h);have hr1b:Rel U1 (kd fun x=>x<w1.heap.size) 34 2 (stNc (.func (.yield l) #[] #[]) L [v0,v1,v2,v3,v4,v5,v6] st k) a1 w1:=jmf hr1 rfl hg0a hg1a (jly (gm w1 none));refine yu (wpIn_block (yu (wpIn_wide.2 (xG (jjR hr1b (pn2 _ L v0 v1 v2 v3 v4 v5 v6 st k hlt)) ?_))));rintro e a2 w2 ⟨rfl,hw2,U2,hr2,hag2⟩;have hj2:=hJ _ _ _ hj1 hw2;obtain⟨hkA,henc⟩:=jyE hA hlt;obtain⟨fn,tmps,assign,body,hy,hRd⟩:=hY k hkA w2 hj2;rw[henc]at hy;refine yu (gH ?_);refine xu rfl fun K2 hK2=>jdE (t:=22) hr2 rfl trivial rfl (by decide) fun a3 hr3=>hK2 _ _ ?_;refine xu rfl fun K2 hK2=>jdE (t:=23) hr3 rfl trivial rfl (by decide) fun a4 hr4=>hK2 _ _ ?_;have g22:a4.eval (.tmp 22)=.func (.yield l) #[] #[]:=(hr4.tm 22 _ rfl).2;have g23:a4.eval (.tmp 23)=.int .i64 (L.getD k 0):=(hr4.tm 23 _ rfl).2;refine xu rfl fun K2 hK2=>⟨fun _ _=>trivial,?_⟩
  rw[jqW (ty:=3) g22 g23 hy _ rfl];refine⟨(fun h=>by cases h),hRd.mono ?_⟩;have hg0b:∀ad n cap,U2 0=.slice (some ad) n cap->0<n->K ad.block:=fun ad n cap h=>hg0a ad n cap (by rw[<-hag2 0 (by decide)];exact h);have hg1b:∀b o,U2 1=.pointer (some ⟨b,o,none⟩)->K b:=fun b o h=>hg1a b o (by rw[<-hag2 1 (by decide)];exact h);have hr5:∀(b:Bool) (w3:zx),KpS K w2 w3->Rel U2 (kd fun x=>x<w3.heap.size) 34 2 _ (a4.put (some 24) (.bool b)) w3:=fun b w3 hk3=>jmf (jgF (v:=vb b) hr4 trivial (by decide)) rfl hg0b hg1b hk3;rintro e w3 (⟨rfl,hj3,hk3⟩|⟨rfl,hj3⟩)
  ·refine hK2 _ _ (xu rfl fun K3 hK3=>jdE (t:=25) (hr5 true w3 hk3) rfl trivial rfl (by decide) fun a5 hr6=>hK3 _ _ (jL ?_));have g25:a5.eval (.tmp 25)=.bool false:=(hr6.tm 25 _ rfl).2;refine jA g25 (fk ?_)
   have hr7:Rel U2 (kd fun x=>x<w3.heap.size) 34 2 (stN (.func (.yield l) #[] #[]) L [v0,v1,v2,v3,v4,v5,v6] st k) a5 w3:=jvQ hr6 (fun t v hv=>by
    simp only[stN,jaE]at hv;simp only[stNd,stN,jaE]
    repeat' split at hv
    all_goals first
     |(cases hv;done)
     |(subst_vars;simp only[hv];rfl)
     |(subst_vars;exact hv)) rfl rfl
   refine wpIn_wide.2 (xG (jjR hr7 (pn3 _ L v0 v1 v2 v3 v4 v5 v6 st k (by omega))) ?_);rintro e a7 w7 ⟨rfl,hw7,U7,hr8,hag7⟩;refine⟨⟨k+1,by omega,⟨U7,jmf hr8 rfl (fun ad n cap h=>hg0b ad n cap (by rw[<-hag7 0 (by decide)];exact h)) (fun b o h=>hg1b b o (by rw[<-hag7 1 (by decide)];exact h)) (jly (gm w7 none)),fun ad n cap h=>hg0b ad n cap (by rw[<-hag7 0 (by decide)];exact h),fun b o h=>hg1b b o (by rw[<-hag7 1 (by decide)];exact h)⟩,hJ _ _ _ hj3 hw7⟩,?_⟩;rw[(hr8.tm 18 _ rfl).2];simp[intOf];omega
  ·have hr4b:=jgF (v:=vb false) (t:=24) hr4 trivial (by decide);have g24:(a4.put (some 24) (.bool false)).eval (.tmp 24)=.bool false:=(hr4b.tm 24 _ rfl).2;refine hK2 _ _ (xu rfl fun K3 hK3=>jti (v:=.bool true) ?_ (hK3 _ _ (jL ?_)))
   ·unfold qr;dsimp only;rw[g24];rfl
   have hr5:=jgF (v:=vb true) (t:=25) hr4b trivial (by decide);have g25:((a4.put (some 24) (.bool false)).put (some 25) (.bool true)).eval (.tmp 25)=.bool true:=(hr5.tm 25 _ rfl).2;refine jK g25 (wpIn_ret ?_);exact⟨hr5.defers,.tuple #[],jM rfl _ _ _,⟨_,rfl⟩,hR (k+1) _ (by omega) hj3⟩
 ·have hk5:k=L.length:=by omega
  subst hk5;refine yu (jA (by rw[hc,decide_eq_false (by omega)]) (wpIn_exit ?_));refine hQ _ _ ⟨U1,jvQ (jmf hr1 rfl (fun ad n cap h=>hg0 ad n cap (by rw[<-hag1 0 (by decide)];exact h)) (fun b o h=>hg1 b o (by rw[<-hag1 1 (by decide)];exact h)) (jly (gm w1 none))) (fun t v hv=>?_) rfl rfl,fun ad n cap h=>hg0 ad n cap (by rw[<-hag1 0 (by decide)];exact h),fun b o h=>hg1 b o (by rw[<-hag1 1 (by decide)];exact h)⟩ hj1;have hne:t≠19:=fun e=>by subst e;simp[stN,jaE]at hv
  simp only[stNc,jaE];rw[if_neg (Ne.symm hne)];exact hv
abbrev shU:List NK:=zS
def stI (y:zF) (nm:ByteArray) (l:List (List NC)) (i:Int) (co:zF):St:=⟨[(0,.w (.c (.d (.v y)))),(1,.w (.c (.p 1 0 1 0))),(2,.w (.c (.p 2 0 1 0)))],[(0,.box 4 [.d (.b false)]),(1,.ebox [.p 3 0 1 0]),(2,.ebox [.d (.i .i64 i)]),(3,.ebox [.d (.s nm),.o 4,.d (.v co)]),(4,.xext (.st shU l))],5⟩
def hpJ (l:List (List NC)) (i:Nat):Hp:=[(0,.box 4 [.d (.b false)]),(1,.box 118 [.d (.s (nS l i 0)),.d (.i .i64 (nI l i 1)),.o 2,.o 3,.o 4,.d (.i .i64 (nI l i 5)),.o 5,.d (.i .i64 (nI l i 7))]),(2,.ext (.ints .i64 (nL l i 2))),(3,.ext (.ints .i64 (nL l i 3))),(4,.ext (.ints .i64 (nL l i 4))),(5,.ext (.recs 5 (nR l i 6)))]
def stJ (y:zF) (l:List (List NC)) (i:Nat):St:=⟨[(4,.w (.c (.p 1 0 1 0))),(0,.w (.c (.d (.v y))))],hpJ l i,6⟩
def stJ2 (y:zF) (l:List (List NC)) (i:Nat):St:=⟨[(18,vi .i64 0),(17,vi .i64 (nL l i 2).length),(16,.w (.c (.o 2))),(4,.w (.c (.p 1 0 1 0))),(0,.w (.c (.d (.v y))))],hpJ l i,6⟩
def pnJ (y:zF) (l:List (List NC)) (i:Nat):sx Tryz.prog (fun _=>none) 34 1 0 (fun _ _ _=>none) (fun _ _ _=>False) (sub [1,0,0] (bodyOf Tryz.f132)) 0 [] (stJ y l i) (fun e st'=>match e with | .normal=>Le 1 st' (stJ2 y l i)|_=>False):=by
 refine jJ (by kernel_rfl:(Ob ((0:Int)=0)∧Ob (((nL l i 2).length:Int)=(nL l i 2).length)∧Ob ((0:Nat)=0)∧Ob (y=y)∧Ob (false=false)∧Ob (nS l i 0=nS l i 0)∧Ob (nI l i 1=nI l i 1)∧Ob (nI l i 5=nI l i 5)∧Ob (nI l i 7=nI l i 7)∧Ob (nL l i 2=nL l i 2)∧Ob (nL l i 3=nL l i 3)∧Ob (nL l i 4=nL l i 4)∧Ob (nR l i 6=nR l i 6)∧True)=_) ?_;exact⟨⟨rfl⟩,⟨rfl⟩,⟨rfl⟩,⟨rfl⟩,⟨rfl⟩,⟨rfl⟩,⟨rfl⟩,⟨rfl⟩,⟨rfl⟩,⟨rfl⟩,⟨rfl⟩,⟨rfl⟩,⟨rfl⟩,trivial⟩
def jdw {w:zx} {k j t:Nat} {vs:Array zF} {f:_} (h:w.heap[k]?=some (.cells vs t f)) {v:zF} (hv:vs[j]?=some v):w.cell? ⟨k,j,none⟩=some v:=by
 unfold World.cell?;dsimp only;rw[h];simp[hv]
def jw4 {α:Type} {enc:α->Int} {A:List α} {L:List Int} {st:Int} (hA:A.map enc=needL L st) (hst:st≠-1):∃h:L.length<A.length,enc A[L.length]=st∧A.length=L.length+1:=by
 have e:needL L st=L++[st]:=if_neg hst
 have hlen:A.length=L.length+1:=by
  have:(A.map enc).length=(L++[st]).length:=by rw[hA,e]
  simpa using this
 refine⟨by omega,?_,hlen⟩;have h2:(A.map enc)[L.length]?=(L++[st])[L.length]?:=by rw[hA,e]
 rw[zK,zJ (by omega)]at h2;simpa using h2
set_option maxHeartbeats 4000000 in
def jyF (n l r:Nat) (nm:ByteArray) (gU:List (List NC)) (i:Int) (co:zF) (U0:Env) (W:zx)
  (hh:HRel U0 (kd fun k=>k<W.heap.size∧k≠r) (stI (.func (.yield l) #[] #[]) nm gU i co).hp 5 W) (hr0:U0 0=.pointer (some ⟨r,0,none⟩))
  (hi:0<=i∧i<gU.length) (hL:((nL gU i.toNat 2).length:Int)<9223372036854775807) {α:Type} (enc:α->Int) (A:List α) (hA:A.map enc=needL (nL gU i.toNat 2) (nI gU i.toNat 7)) (J Jx:List α->zx->Prop)
  (hY:∀(k:Nat) (h:k<A.length) W,J (A.take k) W->YieldAt xD (n-1) Tryz.prog l #[.int .i64 (enc A[k])] W fun e W' =>
   (e=.returned (.bool true)∧J (A.take (k+1)) W'∧KpS (fun k=>k≠r) W W')∨(e=.returned (.bool false)∧Jx (A.take (k+1)) W'))
  (hJ:AbidesFrom W.heap.size J) (h0:J [] W) :
  CallsIn xD n Tryz.prog 132 #[.func (.yield l) #[] #[],(C.p 1 0 1 0).val U0,(C.p 2 0 1 0).val U0] W fun e W'=>(∃v,e=.returned v) ∧
   ((∃ys,ys=A∧J ys W')∨(∃pre,(∃k,k<=A.length∧pre=A.take k)∧Jx pre W')):=by
 refine callsIn_of_wp Tryz.func132 rfl trivial ?_ rfl;refine yu (wpIn_wide.2 ?_);have hsp:jac Tryz.prog (fun _=>none):=fun _ _ _ h=>by cases h
 obtain⟨y,hy⟩:∃y:zF,y=.func (.yield l) #[] #[]:=⟨_,rfl⟩
 rw[<-hy]at hh ⊢
 refine jbG (N:=34) (n0:=1) (B:=kd fun k=>k<W.heap.size∧k≠r) (U0:=U0) (w0:=W) (st:=stI y nm gU i co)
  (k:=fun st=>Le 1 st (stJ y gU i.toNat)) (by kernel_rfl) hsp (ds:=[]) _ _ U0 _ _ _ ?vc ?rel (jae.refl _ _) (Bel.refl _ _) ?next
 case vc =>
  refine jJ (by kernel_rfl:(Ob True∧Ob True∧Ob True∧Ob ((0:Int)<=i∧i<((XC.st shU gU).n:Int))∧Ob (i.toNat<(XC.st shU gU).n)∧Ob ((0:Nat)=0)∧Ob (y=y)∧Ob (false=false)∧Ob (nS gU i.toNat 0=nS gU i.toNat 0)∧Ob (nI gU i.toNat 1=nI gU i.toNat 1)∧Ob (nI gU i.toNat 5=nI gU i.toNat 5)∧Ob (nI gU i.toNat 7=nI gU i.toNat 7)∧Ob (nL gU i.toNat 2=nL gU i.toNat 2)∧Ob (nL gU i.toNat 3=nL gU i.toNat 3)∧Ob (nL gU i.toNat 4=nL gU i.toNat 4)∧Ob (nR gU i.toNat 6=nR gU i.toNat 6)∧True)=_) ?_;exact⟨⟨trivial⟩,⟨trivial⟩,⟨trivial⟩,⟨hi⟩,⟨by show i.toNat<gU.length;omega⟩,⟨rfl⟩,⟨rfl⟩,⟨rfl⟩,⟨rfl⟩,⟨rfl⟩,⟨rfl⟩,⟨rfl⟩,⟨rfl⟩,⟨rfl⟩,⟨rfl⟩,⟨rfl⟩,trivial⟩
 case rel =>
  refine jep (N:=34) (n0:=1) (args:=[.w (.c (.d (.v y))),.w (.c (.p 1 0 1 0)),.w (.c (.p 2 0 1 0))]) (zj rfl) (fun x hx=>?_) (by decide) U0 W hh (fun k hk=>(jbe.1 hk).1);simp only[qv,jW,or_false]at hx;rcases hx with rfl|rfl|rfl
  ·trivial
  ·exact(by decide:1<5)
  ·exact(by decide:2<5)
 case next =>
  rintro U1 st1 a1 w1 hr1 hag1 hbl1 hle;obtain⟨U2,hr2,hag2⟩:=hle.rel hr1;refine yu (yu (wpIn_wide.2 (xG (jba hsp (fun _ _ _ _ _ _ _ _ _ h=>h.elim) (sub [1,0,0] (bodyOf Tryz.f132)) 0 [] (stJ y gU i.toNat) _ U2 a1 w1 (pnJ y gU i.toNat) hr2 (jae.refl _ _) (Bel.refl _ _)) ?_)));rintro e a2 w2 ⟨ex,U3,st3,rfl,hk3,hr3',hag3,hbl3⟩;cases ex with
  |exit j=>exact hk3.elim
  |ret=>exact hk3.elim
  |normal =>
   obtain⟨U4,hr4,hag4⟩:=hk3.rel hr3';have hU0:U4 0=.pointer (some ⟨r,0,none⟩):=(hag4 0 (by decide)).trans ((hag3 0 (by decide)).trans ((hag2 0 (by decide)).trans ((hag1 0 (by decide)).trans hr0)));have hbW:Bel (kd fun k=>k<W.heap.size∧k≠r).kp W w2:=hbl1.trans hbl3;obtain⟨B',gB,hh4⟩:=hr4.heap;have o0:=(hh4.ok 0 _ rfl).2.2;have o1:=(hh4.ok 1 _ rfl).2.2;have o2:=(hh4.ok 2 _ rfl).2.2;obtain⟨r',hr',hB0,hheap0⟩:=o0
   have err:r'=r:=by
    rw[hU0]at hr';cases hr';rfl
   subst err;obtain⟨k1,hk1,hB1,hheap1⟩:=o1;obtain⟨q0,hq0,hBq,hheapW⟩:=(hh.ok 0 _ rfl).2.2
   have eq0:q0=r':=by
    rw[hr0]at hq0;cases hq0;rfl
   subst eq0
   have hgr:W.grownBy w2 none:=by
    refine⟨hbW.os,hbW.tape,hbW.output,hbW.size,fun k hk _=>?_⟩
    by_cases e:k=q0
    ·subst e;rw[hheap0,hheapW];rfl
    ·exact hbW.block k ⟨hk,e⟩
   have hj2:J [] w2:=hJ [] W w2 none h0 hgr (fun r e=>by cases e);have hne1:k1≠q0:=fun e=>hh4.apart 1 _ 0 _ k1 rfl rfl (by decide) (by rw[hk1];rfl) (by rw[hU0,e];rfl)
   have hb:BetN (fun k=>k≠q0) y (nL gU i.toNat 2) [.string (nS gU i.toNat 0),.int .i64 (nI gU i.toNat 1),U4 2,U4 3,U4 4,.int .i64 (nI gU i.toNat 5),U4 5] (nI gU i.toNat 7) 0 a2 w2:=by
    refine⟨fun h=>if h=0 then U4 2 else U4 1,⟨fun t v hv=>?_,hr4.size,hr4.defers,⟨kd fun x=>x<w2.heap.size,Grow.refl _ _ _ _,⟨fun x o hf=>?_,fun x o x' o' b hf hf' hne hb=>?_,jfB⟩⟩,fun k hk=>jbe.1 hk,zu _⟩,fun ad m cap hv hm=>?_,fun b o hv=>?_⟩
    ·simp only[stN,jaE]at hv;split at hv
     ·rename_i e;subst e;cases hv;exact⟨trivial,(hr4.tm 18 _ rfl).2⟩
     ·split at hv
      ·rename_i e;subst e;cases hv;exact⟨trivial,(hr4.tm 17 _ rfl).2⟩
      ·split at hv
       ·rename_i e;subst e;cases hv;exact⟨(by decide:0<2),(hr4.tm 16 _ rfl).2⟩
       ·split at hv
        ·rename_i e;subst e;cases hv;exact⟨(by decide:1<2),(hr4.tm 4 _ rfl).2⟩
        ·split at hv
         ·rename_i e;subst e;cases hv;exact⟨trivial,(hr4.tm 0 _ rfl).2⟩
         ·cases hv
    ·simp only[stN,find]at hf;split at hf
     ·rename_i e;subst e;cases hf;exact⟨(by decide:0<2),trivial,o2.1,o2.1.lt (zo 0)⟩
     ·split at hf
      ·rename_i e;subst e;cases hf;refine⟨(by decide:1<2),?_,k1,0,by simpa using hk1,(zA.1 hheap1).1,fun j c hj=>?_⟩
       ·intro c hc;simp only[zM,qR,qm,qM,qv,jW,or_false]at hc;rcases hc with rfl|rfl|rfl|rfl|rfl|rfl|rfl|rfl<;>trivial
       ·rw[zP];refine jdw hheap1 ?_
        match j,hj with
        |0,hj=>cases hj;rfl
        |1,hj=>cases hj;rfl
        |2,hj=>cases hj;rfl
        |3,hj=>cases hj;rfl
        |4,hj=>cases hj;rfl
        |5,hj=>cases hj;rfl
        |6,hj=>cases hj;rfl
        |7,hj=>cases hj;rfl
        |j+8,hj=>cases hj
      ·cases hf
    ·simp only[stN,find]at hf;split at hf
     ·cases hf;cases hb
     ·split at hf
      ·cases hf;cases hb
      ·cases hf
    ·intro e;have h2:=o2.2 ad m cap (by simpa using hv) hm;exact hB0 (.inl (e ▸ h2))
    ·intro e;have hv':U4 1=.pointer (some ⟨b,o,none⟩):=by simpa using hv
     rw[hk1]at hv';cases hv';exact hne1 e
   subst hy
   refine jw3 n l (fun k=>k≠q0) _ _ _ _ _ _ _ _ _ hL enc A hA J Jx hY (fun A B pre hj hg=>hJ pre A B none hj hg (fun r e=>by cases e)) a2 w2 hb hj2
    (fun W'=>(∃ys,ys=A∧J ys W')∨(∃pre,(∃k,k<=A.length∧pre=A.take k)∧Jx pre W')) (fun k W hk hx=>.inr ⟨_,⟨k,hk,rfl⟩,hx⟩) _ ?_
   rintro a5 w5 ⟨U5,hr5,hg0,hg1⟩ hj5;refine yu (wpIn_wide.2 (xG (jjR hr5 (pn4 _ _ _ _ _ _ _ _ _ _ _)) ?_));rintro e a6 w6 ⟨rfl,hw6,U6,hr6,hag6⟩;have hj6:=hJ _ _ _ none hj5 hw6 (fun r e=>by cases e);have hc:a6.eval (.tmp 29)=.bool (nI gU i.toNat 7 != -1):=(hr6.tm 29 _ rfl).2
   by_cases hst:nI gU i.toNat 7=-1
   ·refine jA (by rw[hc,hst];rfl) (fk ?_);refine⟨hr6.defers,.tuple #[],jM rfl _ _ _,⟨_,rfl⟩,.inl ⟨_,rfl,?_⟩⟩
    have hlen:A.length=(nL gU i.toNat 2).length:=by
     have:(A.map enc).length=(needL (nL gU i.toNat 2) (nI gU i.toNat 7)).length:=by rw[hA]
     rw[needL,if_pos hst]at this;simpa using this
    rw[<-hlen,jY]at hj6;exact hj6
   ·refine jK (by rw[hc];simp[hst]) (gH ?_);obtain⟨hkA,henc,hlen⟩:=jw4 hA hst;obtain⟨fn,tmps,assign,body,hy,hRd⟩:=hY _ hkA w6 hj6;rw[henc]at hy;refine xu rfl fun K2 hK2=>jdE (t:=30) hr6 rfl trivial rfl (by decide) fun a7 hr7=>hK2 _ _ ?_;refine xu rfl fun K2 hK2=>jdE (t:=31) hr7 rfl trivial rfl (by decide) fun a8 hr8=>hK2 _ _ ?_;refine xu rfl fun K2 hK2=>jdE (t:=32) hr8 rfl trivial rfl (by decide) fun a9 hr9=>hK2 _ _ ?_;have g30:a9.eval (.tmp 30)=.func (.yield l) #[] #[]:=(hr9.tm 30 _ rfl).2;have g32:a9.eval (.tmp 32)=.int .i64 (nI gU i.toNat 7):=(hr9.tm 32 _ rfl).2;refine xu rfl fun K2 hK2=>⟨fun _ _=>trivial,?_⟩
    rw[jqW (ty:=3) g30 g32 hy _ rfl];refine⟨(fun h=>by cases h),hRd.mono ?_⟩;rintro e w7 (⟨rfl,hj7,hk7⟩|⟨rfl,hj7⟩)
    ·refine hK2 _ _ (jL ?_);refine⟨(jgF (t:=33) (v:=vb true) hr9 trivial (by decide)).defers,.tuple #[],jM rfl _ _ _,⟨_,rfl⟩,.inl ⟨_,rfl,?_⟩⟩;rw[<-hlen,jY]at hj7;exact hj7
    ·refine hK2 _ _ (jL ?_);exact⟨(jgF (t:=33) (v:=vb false) hr9 trivial (by decide)).defers,.tuple #[],jM rfl _ _ _,⟨_,rfl⟩,.inr ⟨_,⟨_,by omega,rfl⟩,hj7⟩⟩
end Go.Sx09
end

section
namespace Go.Sx09
open Go Go.Proofs Go.RowKit Go.Shelf Go.Sx
attribute [local go_sem] jy
set_option maxHeartbeats 2000000 in
def jtj (n:Nat) (p:Option Addr) (i:Int) (w:zx) :
  CallsIn xD n Tryz.prog 86 #[.pointer p,.int .i64 i] w fun e w'=>e=.returned (.func (.func 132) #[] #[.pointer (some ⟨w.heap.size,0,none⟩),.pointer (some ⟨w.heap.size+1,0,none⟩)])∧w'=(w.alloc (.cells #[.pointer p] 126)).alloc (.cells #[.int .i64 i] 3):=by
 refine callsIn_of_wp Tryz.func86 rfl trivial ?_ rfl;simp only[Tryz.ntmps86,xE,z4,qD,gC,gD,jk,jl,jN,ju,qM,qm]
 gi_wp2
 go_ret
 exact⟨rfl,rfl⟩
def jAf (w:zx) (c0 c1 c2 c3:Array zF) (t0 t1 t2 t3:qf):∃w2,w2.heap.size=w.heap.size+4∧xA w.heap.size w w2∧w2.heap[w.heap.size]?=some (.cells c0 t0 (0,0))∧w2.heap[w.heap.size+1]?=some (.cells c1 t1 (0,0)) ∧
  w2.heap[w.heap.size+1+1]?=some (.cells c2 t2 (0,0))∧w2.heap[w.heap.size+1+1+1]?=some (.cells c3 t3 (0,0))∧(((w.alloc (.cells c0 t0)).alloc (.cells c1 t1)).alloc (.cells c2 t2)).alloc (.cells c3 t3)=w2:=by
 have new:∀(w:zx) (c:Array zF) (t:qf) (m:Nat),w.heap.size=m->(w.alloc (.cells c t)).heap[m]?=some (.cells c t (0,0)):=fun w c t m e=>by subst e;exact World.alloc_heap_new w (.cells c t)
 have old:∀(w:zx) (o o':Obj) (k:Nat),w.heap[k]?=some o->(w.alloc o').heap[k]?=some o:=fun w o o' k h=>(Below.heap_alloc w o' k (zA.1 h).1).trans h;refine⟨_,by simp,(((qO _ w).alloc (zu _) _).alloc (by simp) _).alloc (by simp;omega) _ |>.alloc (by simp;omega) _,?_,?_,?_,?_,rfl⟩
 ·exact old _ _ _ _ (old _ _ _ _ (old _ _ _ _ (new w c0 t0 _ rfl)))
 ·exact old _ _ _ _ (old _ _ _ _ (new _ c1 t1 _ (by simp)))
 ·exact old _ _ _ _ (new _ c2 t2 _ (by simp))
 ·exact new _ c3 t3 _ (by simp)
def readyB (pl:List Bool) (L:List Int):Bool:=L.all fun x=>pl.getD x.toNat false
set_option maxHeartbeats 4000000 in
def ready_in (nm:ByteArray) (gU:List (List NC)) (od:List Int) (i:Int) (pl:List Bool) (U:Env) (w:zx)
  (hh:HRel U (kd fun k=>k<w.heap.size) [(3,.ext (.bools pl)),(2,.ebox [.d (.s nm),.o 0,.o 1]),(1,.ext (.ints .i64 od)),(0,.xext (.st shU gU))] 4 w)
  (hi:0<=i∧i<gU.length) (hL:((nL gU i.toNat 2).length:Int)<9223372036854775807) (hx:∀x∈needL (nL gU i.toNat 2) (nI gU i.toNat 7),0<=x∧x<pl.length) :
  CallsIn xD 9 Tryz.prog 85 #[(C.p 2 0 1 0).val U,.int .i64 i,U 3] w fun e w'=>e=.returned (.bool (readyB pl (needL (nL gU i.toNat 2) (nI gU i.toNat 7))))∧xA w.heap.size w w':=by
 have h1:1<=9:=by omega
 have hro:xD.round=none:=rfl;obtain⟨gb,go,hgp,hgB,hgc⟩:=(hh.ok 2 _ rfl).2.2;have hrow:=(hh.ok 3 _ rfl).2.2;obtain⟨⟨pa,pc,hpv,hpc,hpcells⟩,hpo⟩:=hrow
 have hP:(C.p 2 0 1 0).val U=.pointer (some ⟨gb,go,none⟩):=by
  simp only[C.val,hgp,base];rfl
 rw[hP,hpv];refine callsIn_of_wp_marks Tryz.func85 rfl trivial ?_ hro;simp only[Tryz.ntmps85,xE,z4,qD,gC,gD,jk,jl,jN,ju,qM,qm]
 gi_wp2_with (refine⟨trivial,?_⟩;gi_at_call 86;refine(jtj _ _ i _).mono ?_;rintro e w' ⟨rfl,rfl⟩)
 obtain⟨w2,hs2,hB0,k0,k1,k2,k3,hw2⟩:=jAf w #[.slice pa (Cont.bools pl).n pc] #[.bool false] #[.pointer (some ⟨gb,go,none⟩)] #[.int .i64 i] 133 4 126 3;rw[hw2]
 have hne:∀(A:List {x:Int // 0<=x∧x<pl.length}),A.map (fun x=>x.1)=needL (nL gU i.toNat 2) (nI gU i.toNat 7)->readyB pl (needL (nL gU i.toNat 2) (nI gU i.toNat 7))=A.all fun x=>pl.getD x.1.toNat false:=fun A hA=>by
  rw[<-hA];simp[readyB]
 obtain⟨A,hA⟩:∃A:List {x:Int // 0<=x∧x<pl.length},A.map (fun x=>x.1)=needL (nL gU i.toNat 2) (nI gU i.toNat 7) :=
  ⟨(needL (nL gU i.toNat 2) (nI gU i.toNat 7)).attachWith _ hx,by simp⟩
 have hready:=hne A hA
 refine wpIn_rangeFunc_ownF hro h1 (gf:=132) (lb:=#[.pointer (some ⟨w.heap.size+1+1,0,none⟩),.pointer (some ⟨w.heap.size+1+1+1,0,none⟩)]) rfl trivial (enters_of Tryz.func132 (by kernel_rfl) rfl)
  (α:={x:Int // 0<=x∧x<pl.length}) (encs:=fun x=>#[.int .i64 x.1]) (Kp:=KpS fun k=>k≠w.heap.size+1) (S:=fun ys=>ys=A) (Sp:=fun pre=>∃k,k<=A.length∧pre=A.take k) (N:=A.length) (w0:=w2)
  ?seq kps_t kps_b (qO _ _) (fun _=>rfl)
  (fun pre W=>((∀y∈pre,pl.getD y.1.toNat false=true)∧W.cell? ⟨w.heap.size,0,none⟩=some (.slice pa (Cont.bools pl).n pc)∧W.cell? ⟨w.heap.size+1,0,none⟩=some (.bool false)∧W.frozen? ⟨w.heap.size+1,0,none⟩=false)∧xA w.heap.size w W)
  (fun c pre W=>(c=.ret∧(∃y∈pre,pl.getD y.1.toNat false=false)∧W.cell? ⟨w.heap.size+1,0,none⟩=some (.bool false))∧xA w.heap.size w W)
  (OwnFrom.and (Own.from (fun s A B row hs hg hr=>⟨hs.1,cell_kept hs.2.1 hg hr,cell_kept hs.2.2.1 hg hr,(frozen_kept hs.2.2.1 hg hr).trans hs.2.2.2⟩) _) (ownFrom_below (zu _) (by omega)))
  (fun c=>OwnFrom.and (Own.from (fun s A B row hs hg hr=>⟨hs.1,hs.2.1,cell_kept hs.2.2 hg hr⟩) _) (ownFrom_below (zu _) (by omega)))
  ⟨⟨by simp,jdw k0 rfl,jdw k1 rfl,?frozen⟩,hB0⟩
  (fun x=>{ tmps:=#[xa (some { block:=gb,off:=go }),xV xF i,qc pa (Cont.bools pl).n pc,qe,qe,xa (some { block:=w.heap.size,off:=0 }),xa (some { block:=w.heap.size+1,off:=0 }),.int .i64 x.1,xa (some { block:=gb,off:=go }),xV xF i,Value.func (Fn.func 132) #[] #[xa (some { block:=w.heap.size+1+1,off:=0 }),xa (some { block:=w.heap.size+1+1+1,off:=0 })],.int .i64 x.1,qe,qe,qe,qe,qe],defers:=[] }) ?assign ?body ?done ?stop
 case frozen =>
  unfold World.frozen?;dsimp only;rw[k1];rfl
 case seq =>
  intro l J Jx W hW hJ hJx hY h0;have hBW:xA w.heap.size w W:=hB0.trans (hW.mono (by omega));have hsz:=hW.size;have at2:∀k o,k<w2.heap.size->w2.heap[k]?=some o->W.heap[k]?=some o:=fun k o hk ho=>(hW.block k hk).trans ho
  have hmono:∀k,(kd fun k=>k<w.heap.size).kp k->(kd fun k=>k<W.heap.size∧k≠w.heap.size+1).kp k:=fun k hk=>by
   have hk:k<w.heap.size:=hk;exact⟨by omega,by omega⟩
  have hbw:Bel (kd fun k=>k<w.heap.size).kp w W:=⟨hBW.os,hBW.tape,hBW.output,hBW.size,hBW.block⟩
  let U':Env:=fun h=>match h with
   |0=>.pointer (some ⟨w.heap.size+1,0,none⟩)
   |1=>.pointer (some ⟨w.heap.size+1+1,0,none⟩)
   |2=>.pointer (some ⟨w.heap.size+1+1+1,0,none⟩)
   |3=>U 2
   |_=>U 0
  have hx0:=(hh.ok 0 _ rfl).2.2
  have hrel:HRel U' (kd fun k=>k<W.heap.size∧k≠w.heap.size+1) (stI (.func (.yield l) #[] #[]) nm gU i (U 1)).hp 5 W:=by
   refine⟨fun x o hf=>?_,fun x o x' o' b hf hf' hne hb=>?_,jfB⟩
   ·simp only[stI,find]at hf;split at hf
    ·rename_i e;subst e;cases hf;exact⟨by decide,(fun c hc=>by simp at hc;subst hc;trivial),w.heap.size+1,rfl,fun h=>(jbe.1 h).2 rfl,at2 _ _ (by omega) k1⟩
    ·split at hf
     ·rename_i e;subst e;cases hf;refine⟨by decide,(fun c hc=>by simp at hc;subst hc;exact(by decide:3<5)),w.heap.size+1+1,0,rfl,⟨by omega,by omega⟩,fun j c hj=>?_⟩;refine(jdw (at2 _ _ (by omega) k2) (j:=0+j) (v:=c.val U') ?_)
      match j,hj with
      |0,hj=>cases hj;exact congrArg some hP.symm
      |j+1,hj=>cases hj
     ·split at hf
      ·rename_i e;subst e;cases hf;refine⟨by decide,(fun c hc=>by simp at hc;subst hc;trivial),w.heap.size+1+1+1,0,rfl,⟨by omega,by omega⟩,fun j c hj=>?_⟩;refine(jdw (at2 _ _ (by omega) k3) (j:=0+j) (v:=c.val U') ?_)
       match j,hj with
       |0,hj=>cases hj;rfl
       |j+1,hj=>cases hj
      ·split at hf
       ·rename_i e;subst e;cases hf;refine⟨by decide,(fun c hc=>by simp at hc;rcases hc with rfl|rfl|rfl<;>first|exact True.intro|exact(by decide:4<5)),gb,go,hgp,hmono _ hgB,fun j c hj=>?_⟩;refine(hbw.cell (p:=⟨gb,go+j,none⟩) hgB).trans ?_
        match j,hj with
        |0,hj=>cases hj;exact hgc 0 _ rfl
        |1,hj=>cases hj;exact hgc 1 _ rfl
        |2,hj=>cases hj;exact hgc 2 _ rfl
        |j+3,hj=>cases hj
       ·split at hf
        ·rename_i e;subst e;cases hf;exact⟨by decide,trivial,(IsX.bel hx0 hbw).mono hmono⟩
        ·cases hf
   ·simp only[stI,find]at hf hf'
    have hz:∀y oy,find (stI (.func (.yield l) #[] #[]) nm gU i (U 1)).hp y=some oy->y≠0->oy.blk (U' y)=none:=fun y oy hy hy0=>by
     simp only[stI,find]at hy;rw[if_neg (Ne.symm hy0)]at hy
     repeat' split at hy
     all_goals (cases hy;try rfl)
    by_cases e:x=0
    ·rw[hz x' o' hf' (by omega)];intro h;cases h
    ·rw[hz x o hf e]at hb;cases hb
  refine(jyF _ l (w.heap.size+1) nm gU i (U 1) U' W hrel rfl hi hL (fun x=>x.1) A hA J Jx (fun k hk W1 hj=>?_) hJ h0);have e1:A.take (k+1)=A.take k++[A[k]]:=by rw[xY hk]
  rw[e1];exact hY (A.take k) A[k] W1 hj (by rw[List.length_take];omega)
 case assign =>
  intro l x W K hK
  gi_wp2
  exact hK
 case body =>
  rintro l pre x W ⟨⟨hp,hv5,hcr,hfr⟩,hB⟩ _;have hlt:w.heap.size+1<W.heap.size:=qj W ⟨w.heap.size+1,0,none⟩ hcr;have hx1:=x.2.1;have hx2:=x.2.2;obtain⟨b,off,hab,hcells⟩:=hpcells (by show 0<pl.length;omega);subst hab
  have hcell:W.cell? ⟨b,off+x.1.toNat,none⟩=some (.bool (pl.getD x.1.toNat false)):=by
   have hc:=hcells x.1.toNat (.b (pl.getD x.1.toNat false)) (by
    have:=(Cont.bools pl).flat_get (i:=x.1.toNat) (j:=0) (by show x.1.toNat<pl.length;omega) Nat.one_pos;simpa [Cont.e,Cont.cell]using this)
   have hbl:b<w.heap.size:=qj w ⟨b,off+x.1.toNat,none⟩ hc;exact(hB.cell (p:=⟨b,off+x.1.toNat,none⟩) hbl).trans hc
  have hx3:x.1<((Cont.bools pl).n:Int):=hx2;clear hcells hready hA hne hpcells hpc hpo hgc hgB hgp hP hx hL hi hh hpv k0 k1 k2 k3 hs2 hB0 hw2;have hgd:pl.getD x.1.toNat false=pl[x.1.toNat]'(by omega):=by simp[za,zJ (show x.1.toNat<pl.length by omega)]
  gi_wp2
  ·rename_i hxx;exact⟨KeepsOthers.setCell _ _ _,⟨rfl,⟨x,qq.2 (.inr (by simp)),by rw[hgd];simpa using hxx⟩,yB _ _ _ (by rw[hcr];rfl)⟩,hB.setCell (p:=⟨w.heap.size+1,0,none⟩) (by simp) _⟩
  ·rename_i hxx;exact⟨KeepsOthers.refl _,jyD (qO _ _),⟨fun y hy=>(qq.1 hy).elim (hp y) (fun e=>by simp at e;subst e;rw[hgd];simpa using hxx),hv5,hcr,hfr⟩,hB⟩
 case done =>
  rintro D ys W hD rfl ⟨⟨hne,hv5,hcr,hfr⟩,hB⟩ hK;clear hpcells hpc hpo hgc hgB hgp hP hx hL hi hh hpv k0 k1 k2 k3 hB0 hw2
  gi_wp2
  have hK':=(KeepsOthers.setCell W ⟨w.heap.size+1,0,none⟩ (.bool true)).same D _ hK rfl;refine⟨by simp,.inl ⟨_,_,rfl,run_takeDeferred hK',?_⟩⟩;have hc5:=cell_kept (yB W ⟨w.heap.size+1,0,none⟩ (.bool true) (by rw[hcr];rfl)) (grownBy_putObj' _ D (.deferred none)) (fun r e=>by cases e;exact⟨_,hK',rfl⟩)
  have hall:readyB pl (needL (nL gU i.toNat 2) (nI gU i.toNat 7))=true:=by
   rw[hready];exact zq.2 fun y hy=>hne y hy
  refine⟨.bool true,?_,by rw[hall],(hB.setCell (p:=⟨w.heap.size+1,0,none⟩) (by simp) _).trans (belowK_b (w:=w) (zu _) _ D _ _ (by omega) hK' rfl rfl)⟩;simp[results,Tryz.f85,go_sem,hc5]
 case stop =>
  rintro D c pre W hD ⟨k,hk,rfl⟩ ⟨⟨rfl,⟨y,hy,hpy⟩,hcr⟩,hB⟩ hK;clear hpcells hpc hpo hgc hgB hgp hP hx hL hi hh hpv k0 k1 k2 k3 hB0 hw2
  gi_wp2
  refine⟨by simp,.inl ⟨_,_,rfl,run_takeDeferred hK,?_⟩⟩;have hc5:=cell_kept hcr (grownBy_putObj' _ D (.deferred none)) (fun r e=>by cases e;exact⟨_,hK,rfl⟩)
  have hall:readyB pl (needL (nL gU i.toNat 2) (nI gU i.toNat 7))=false:=by
   rw[hready,Bool.eq_false_iff];intro h;have:=zq.1 h y (List.mem_of_mem_take hy);rw[hpy]at this;cases this
  refine⟨.bool false,?_,by rw[hall],hB.trans (belowK_b (w:=w) (zu _) W D _ _ (by omega) hK rfl rfl)⟩;simp[results,Tryz.f85,go_sem,hc5]
end Go.Sx09
end

section
open Go.RowKit
namespace Go.Sx
section
variable [Globs] {P:zy}
def jtk {f:Nat} {fn:jQ} {body:yb} {shs:List SV} {g:List Lf->Option GT} (hf:P.funcs[f]?=some fn) (hb:fn.body=some body) (hn:(fn.name == "runtime.NumGoroutine")=false)
  (h:∀ls t,g ls=some t->∃ob x,t=.leaf ob [.c (.d x)]∧(ob->∀b:Bv,jeF shs 0 ls=some b->∀U w,HRel U (kd fun k=>k<w.heap.size) b.hp b.n w->Calls P f (b.vs.map (V.val U)).toArray w fun e w'=>e=.returned x.val∧xA w.heap.size w w')) :
  jaf P f true (jai shs g):=by
 refine .inl ⟨jcD hf hb hn,fun U B w args hp nx t hS hob hlt hh hB=>?_⟩;unfold jai at hS;split at hS
 ·rename_i ls am hto;split at hS
  ·rename_i t' hg;cases hS;obtain⟨ob,x,rfl,hc⟩:=h ls t' hg;rw[jbH]at hob;have hob:ob:=hob;obtain⟨b,U0,hbl,q⟩:=jhG hh hB shs args ls am hto hlt 0 (fun _=>qe) [];rw[yD]at hbl
   have hh0:HRel U0 (kd fun k=>k<w.heap.size) b.hp b.n w:=by
    refine⟨fun x o hf=>?_,fun x o x' o' k hf hf' _ hb=>?_,jjC hh.glob hB⟩
    ·obtain⟨_,a2,a3,a4,_⟩:=q.heap x o hf;exact⟨a2,a3,a4⟩
    ·obtain⟨_,_,_,_,a5⟩:=q.heap x o hf;rw[a5]at hb;cases hb
   have hcalls:=hc hob b hbl U0 w hh0;rw[q.val]at hcalls;refine hcalls.mono ?_;rintro e w' ⟨rfl,hbw⟩;refine⟨U,?_,jae.refl _ _,?_,?_,⟨B,Grow.refl _ _ _ _,?_⟩,jbV hbw hB,fun _=>hbw,fun _ h o k hle hf _=>?_⟩
   ·rw[jbH];rfl
   ·rw[jbH];trivial
   ·rw[jbH];exact zu _
   ·rw[jbH];exact hh.below hbw hB
   ·rw[jbH]at hf;have:=(hh.ok h o hf).1;omega
  ·cases hS
 ·cases hS
end
end Go.Sx
end

section
namespace Go.Sh
open Go Go.Proofs Go.RowKit Go.Sx
def jlz:List SV:=[.c (.p [.d,.x (.st zS []),.r (.ints .i64 [])]),.c .d,.c (.r (.bools []))]
def jdb (gUnits:List (List NC)) (i:Int) (placed:List Bool):Option Bool :=
 if 0<=i∧i<gUnits.length then
  if((nL gUnits i.toNat 2).length:Int)<9223372036854775807∧(Sx09.needL (nL gUnits i.toNat 2) (nI gUnits i.toNat 7)).all (fun x=>decide (0<=x∧x<placed.length))=true then
   some (Sx09.readyB placed (Sx09.needL (nL gUnits i.toNat 2) (nI gUnits i.toNat 7)))
  else none
 else none
def jhL:List Lf->Option GT
 |[.d (.s gName),.x (.st [.s,.i .i64,.ints .i64,.ints .i64,.ints .i64,.i .i64,.recs 5,.i .i64] gUnits),.r (.ints .i64 order),.d (.i .i64 i),.r (.bools placed)]=>some (.leaf (ok (jdb gUnits i placed)) [.c (.d (.b (val (jdb gUnits i placed))))])
 |_=>none
abbrev sp_85:jaa->jaa:=jaG 85 true (jai jlz jhL)
def jo4:jaf Tryz.prog 85 true (jai jlz jhL):=by
 refine jtk (fn:=Tryz.f85) (body:=bodyOf Tryz.f85) Tryz.func85 (by kernel_rfl) (by kernel_rfl) fun ls t h=>?_;unfold jhL at h;split at h
 ·rename_i gName gUnits order i placed;cases h;refine⟨_,_,rfl,fun hok b hb U w hh=>?_⟩
  have hbe:b=⟨[.w (.c (.p 2 0 1 0)),.w (.c (.d (.i .i64 i))),.w (.c (.o 3))],[(3,.ext (.bools placed)),(2,.ebox [.d (.s gName),.o 0,.o 1]),(1,.ext (.ints .i64 order)),(0,.xext (.st Sx09.shU gUnits))],4,[]⟩ :=
   xT (hb.symm.trans (by kernel_rfl))
  subst hbe;unfold ok jdb at hok;split at hok
  ·rename_i hi;split at hok
   ·rename_i hL
    have hv:val (jdb gUnits i placed)=Sx09.readyB placed (Sx09.needL (nL gUnits i.toNat 2) (nI gUnits i.toNat 7)):=by
     unfold jdb;rw[if_pos hi,if_pos hL];rfl
    rw[hv];exact(callsIn_wide (n:=9)).1 (Sx09.ready_in gName gUnits order i placed U w hh hi hL.1 fun x hx=>by simpa using zq.1 hL.2 x hx)
   ·cases hok
  ·cases hok
 ·cases h
def sp_85_ok {sp:jaa} (h:jac Tryz.prog sp):jac Tryz.prog (sp_85 sp):=jap jo4 h
open Go.IntKind (wrap)
def jg7:List SV:=[.a [.d,.x (.st zS [])]]
def jcE (u1:List (List NC)) (x0:Int × List Bool × List Int) (x1:Int):Option (Int ⊕ Int) :=
 if x1<(↑u1.length:Int)then
  if 0<=x1∧x1<(↑x0.2.1.length:Int)then
  if zf x1<zg x0.2.1 then
   if(!za x0.2.1 x1.toNat false)=true then
   ze (jdb u1 x1 x0.2.1) fun r1 =>
   if(r1)=true then
    some (.inr x1)
   else
    some (.inl (wrap .i64 (x1+1)))
   else
   some (.inl (wrap .i64 (x1+1)))
  else none
  else none
 else
  some (.inr (-1:Int))
def jig (x0:Int × List Bool × List Int) (u11:Int):Option ((Int × List Bool × List Int) ⊕ (Unit ⊕ (List Int))) :=
 if(u11==(-1:Int))=true then
  some (.inr ((.inl ())))
 else
  if 0<=u11∧u11<(↑x0.2.1.length:Int)then
  if zf u11<zg x0.2.1 then
   if(zg x0.2.2+zg [u11])*8<=140737488355328∧zg x0.2.2+zg [u11]<=9223372036854775807 then
   some (.inl ((wrap .i64 (x0.1+1),xM x0.2.1 u11.toNat true,x0.2.2++[u11])))
   else none
  else none
  else none
def jce (u1:List (List NC)) (x0:(Int × List Bool × List Int)):Option ((Int × List Bool × List Int) ⊕ (Unit ⊕ (List Int))) :=
 if x0.1<(↑u1.length:Int)then
  ze (jag (jcE u1 x0) big (0:Int)) (jig x0)
 else
  some (.inr (.inr x0.2.2))
def jrC (u5:Unit):Option Int :=
 some (19:Int)
def jrD (u6:List Int):Option Int :=
 none
def jih:(Unit ⊕ (List Int))->Option Int :=
 (qZ (jrC) (jrD))
def jbc (u4:ByteArray) (u1:List (List NC)):Option Int :=
 ze (y28 u4 u1) fun r0 =>
 if(r0.2 != 0)=true then
  some r0.2
 else
  if 0<=(↑u1.length:Int)∧(↑u1.length:Int)=(↑u1.length:Int)∧(↑(1:Nat):Int)*(↑u1.length:Int)<=281474976710656∧(↑u1.length:Int)<=9223372036854775807 then
  ze (jag (jce u1) big (((0:Int),zr (zf (↑u1.length:Int)) false,[]))) (jih)
  else none
def jm3 (u1:List (List NC)) (x0:Int × List Bool × List Int) (x1:Int):Option (Int ⊕ Int) :=
 if x1<(↑u1.length:Int)then
  if 0<=x1∧x1<(↑x0.2.1.length:Int)then
  if zf x1<zg x0.2.1 then
   if(!za x0.2.1 x1.toNat false)=true then
   ze (jdb u1 x1 x0.2.1) fun r1 =>
   if(r1)=true then
    some (.inr x1)
   else
    some (.inl (wrap .i64 (x1+1)))
   else
   some (.inl (wrap .i64 (x1+1)))
  else none
  else none
 else
  some (.inr (-1:Int))
def jm4 (x0:Int × List Bool × List Int) (u11:Int):Option ((Int × List Bool × List Int) ⊕ (Unit ⊕ (List Int))) :=
 if(u11==(-1:Int))=true then
  some (.inr ((.inl ())))
 else
  if 0<=u11∧u11<(↑x0.2.1.length:Int)then
  if zf u11<zg x0.2.1 then
   if(zg x0.2.2+zg [u11])*8<=140737488355328∧zg x0.2.2+zg [u11]<=9223372036854775807 then
   some (.inl ((wrap .i64 (x0.1+1),xM x0.2.1 u11.toNat true,x0.2.2++[u11])))
   else none
  else none
  else none
def jfC (u1:List (List NC)) (x0:(Int × List Bool × List Int)):Option ((Int × List Bool × List Int) ⊕ (Unit ⊕ (List Int))) :=
 if x0.1<(↑u1.length:Int)then
  ze (jag (jm3 u1 x0) big (0:Int)) (jm4 x0)
 else
  some (.inr (.inr x0.2.2))
def jrE (u4:ByteArray) (u5:Unit):Option (ByteArray × List Int × Int) :=
 none
def jrF (u4:ByteArray) (u6:List Int):Option (ByteArray × List Int × Int) :=
 some ((u4,u6,0))
def jii (u4:ByteArray):(Unit ⊕ (List Int))->Option (ByteArray × List Int × Int) :=
 (qZ (jrE u4) (jrF u4))
def jbI (u4:ByteArray) (u1:List (List NC)):Option (ByteArray × List Int × Int) :=
 ze (y28 u4 u1) fun r0 =>
 if(r0.2 != 0)=true then
  none
 else
  if 0<=(↑u1.length:Int)∧(↑u1.length:Int)=(↑u1.length:Int)∧(↑(1:Nat):Int)*(↑u1.length:Int)<=281474976710656∧(↑u1.length:Int)<=9223372036854775807 then
  ze (jag (jfC u1) big (((0:Int),zr (zf (↑u1.length:Int)) false,[]))) (jii u4)
  else none
def jtl:List Lf->Option GT
 |[.d (.s u4),.x (.st [.s,.i .i64,.ints .i64,.ints .i64,.ints .i64,.i .i64,.recs 5,.i .i64] u1)]=>some (.br (Option.isSome (jbc u4 u1)) (.leaf (ok (jbc u4 u1)) [.c (.d (.v (xa none))),.c (.d (.i .i64 ((val (jbc u4 u1)))))]) (.leaf (ok (jbI u4 u1)) [.c (.box 130 [.d (.s ((val (jbI u4 u1)).1)),.g 0,.row 3 (.ints .i64 ((val (jbI u4 u1)).2.1))]),.c (.d (.i .i64 ((val (jbI u4 u1)).2.2)))]))
 |_=>none
abbrev jij (u4:ByteArray) (u1:List (List NC)) (r:Int):Lp ((Int × List Bool × List Int) × Nat) (Int × List Bool × List Int) ((Unit ⊕ (List Int))) Int Int :=
 ⟨fun z=>z.1,fun z=>z.2,fun z x n=>(x,n),fun z=>jce u1,fun z=>jih,fun z=>top r,fun z=>0,[.c fun _=>0,.c fun _=>0,.c fun _=>(↑u1.length:Int),.c fun vv=>vv.1.1,.c fun _=>u4,.c fun _=>u4,.c fun vv=>vv.1.2.1,.c fun _=>u1,.c fun vv=>vv.1.2.2]⟩
abbrev jm5 (u4:ByteArray) (u1:List (List NC)) (r:Int) (m1:Nat):Lp ((Int × List Bool × List Int) × Nat × Int × Nat) Int Int (((Int × List Bool × List Int) ⊕ (Unit ⊕ (List Int)))) Int :=
 ⟨fun z=>z.2.2.1,fun z=>z.2.2.2,fun z x n=>(z.1,z.2.1,x,n),fun z=>jcE u1 z.1,fun z=>jig z.1,fun z=>(jij u4 u1 r).cx (z.1,m1),fun z=>z.2.1,[.c fun _=>0,.c fun _=>0,.c fun _=>(-1:Int),.c fun _=>(↑u1.length:Int),.c fun vv=>vv.1.1,.c fun _=>(↑u1.length:Int),.c fun vv=>vv.2.2.1,.c fun _=>u4,.c fun _=>u4,.c fun vv=>vv.1.2.1,.c fun _=>u1,.c fun vv=>vv.1.2.2]⟩
def ju4 (u4:ByteArray) (u1:List (List NC)) (r:Int):Sk (top r) (ze (jag (jce u1) big (((0:Int),zr (zf (↑u1.length:Int)) false,[]))) (jih)) :=
 .loopQ (jij u4 u1 r) [.c fun _=>0,.c fun _=>0,.c fun _=>(↑u1.length:Int),.c fun vv=>vv.1.1,.c fun _=>u4,.c fun _=>u4,.c fun vv=>vv.1.2.1,.c fun _=>u1,.p fun vv=>zg vv.1.2.2=(0:Nat)] (fun kk=>(((0:Int),zr (zf (↑u1.length:Int)) false,[]),big)) (fun z0 =>
 .br
 (.loop (jm5 u4 u1 r z0.2) (fun kk=>(z0.1,kk,0,big)) fun z1 =>
 .br
 (.ob (.ob (.brB
 (.call (.brB
 (.exit (.brB
 (.exit (.obT (.obT (.ret (fun r=>(Ob (xa none=xa none) ∧
 (Ob ((19:Int)=r) ∧
 True))) ⟨⟨rfl⟩,⟨⟨rfl⟩,trivial⟩⟩))))
 (.ob (.ob (.ob (.next))))))
 (.next)))
 (.next))))
 (.exit (.exit (.obT (.obT (.ret (fun r=>(Ob (xa none=xa none) ∧
 (Ob ((19:Int)=r) ∧
 True))) ⟨⟨rfl⟩,⟨⟨rfl⟩,trivial⟩⟩))))))
 (.exit (.obT (.obT (.bad (False)))))) (fun _=>⟨rfl,trivial⟩)
def jw5 (u4:ByteArray) (u1:List (List NC)) (r:Int):Sk (top r) (jbc u4 u1) :=
 .call (.brB
 (.obT (.obT (.ret (fun r=>(Ob (xa none=xa none) ∧
 (Ob ((val (y28 u4 u1)).2=r) ∧
 True))) ⟨⟨rfl⟩,⟨⟨rfl⟩,trivial⟩⟩)))
 (.ob (ju4 u4 u1 r)))
def ju5 (u4:ByteArray) (u1:List (List NC)) (r:Int) (h:ze (jbc u4 u1) some=some r):jbl Tryz.f80 ((sp_18 (sp_85 sp0))) (fun gs id _=>match id with
 |0=>some ⟨(Int × List Bool × List Int) × Nat,fun z=>⟨[(1,.w (.c (.p 1 0 1 0))),(6,.w (.c (.p 2 0 1 0))),(7,.w (.c (.o 3))),(27,.w (.c (.d (.i .i64 ((↑u1.length:Int)))))),(28,.w (.c (.d (.i .i64 z.1.1))))],[(1,.box 24 [.d (.s u4),.o 0]),(2,.box 130 [.d (.s u4),.o 0,.o 4]),(3,.row 4 (.bools z.1.2.1)),(0,.xext (XC.st zS u1)),(4,.row 3 (.ints .i64 z.1.2.2))],5⟩,fun z=>(jij u4 u1 r).inv z,fun z=>z.2⟩
 |2=>some ⟨(Int × List Bool × List Int) × Nat × Int × Nat,fun z=>⟨[(1,.w (.c (.p 1 0 1 0))),(6,.w (.c (.p 2 0 1 0))),(7,.w (.c (.o 3))),(8,.w (.c (.d (.i .i64 (-1:Int))))),(27,.w (.c (.d (.i .i64 ((↑u1.length:Int)))))),(28,.w (.c (.d (.i .i64 (z.1.1))))),(32,.w (.c (.d (.i .i64 ((↑u1.length:Int)))))),(33,.w (.c (.d (.i .i64 z.2.2.1))))],[(1,.box 24 [.d (.s u4),.o 0]),(2,.box 130 [.d (.s u4),.o 0,.o 4]),(3,.row 4 (.bools (z.1.2.1))),(0,.xext (XC.st zS u1)),(4,.row 3 (.ints .i64 (z.1.2.2)))],5⟩,fun z=>(jm5 u4 u1 r (gs.getD 0 0)).inv z,fun z=>z.2.2.2⟩
 |_=>none) (jbd jg7 [.d (.s u4),.x (.st zS u1)]) [.c (.d (.v (xa none))),.c (.d (.i .i64 r))] :=
 Sk.vc (jw5 u4 u1 r) (by kernel_rfl) h
abbrev jik (u4:ByteArray) (u1:List (List NC)) (r:ByteArray × List Int × Int):Lp ((Int × List Bool × List Int) × Nat) (Int × List Bool × List Int) ((Unit ⊕ (List Int))) (ByteArray × List Int × Int) (ByteArray × List Int × Int) :=
 ⟨fun z=>z.1,fun z=>z.2,fun z x n=>(x,n),fun z=>jfC u1,fun z=>jii u4,fun z=>top r,fun z=>0,[.c fun _=>0,.c fun _=>0,.c fun _=>(↑u1.length:Int),.c fun vv=>vv.1.1,.c fun _=>u4,.c fun _=>u4,.c fun vv=>vv.1.2.1,.c fun _=>u1,.c fun vv=>vv.1.2.2]⟩
abbrev jm6 (u4:ByteArray) (u1:List (List NC)) (r:ByteArray × List Int × Int) (m1:Nat):Lp ((Int × List Bool × List Int) × Nat × Int × Nat) Int Int (((Int × List Bool × List Int) ⊕ (Unit ⊕ (List Int)))) (ByteArray × List Int × Int) :=
 ⟨fun z=>z.2.2.1,fun z=>z.2.2.2,fun z x n=>(z.1,z.2.1,x,n),fun z=>jm3 u1 z.1,fun z=>jm4 z.1,fun z=>(jik u4 u1 r).cx (z.1,m1),fun z=>z.2.1,[.c fun _=>0,.c fun _=>0,.c fun _=>(-1:Int),.c fun _=>(↑u1.length:Int),.c fun vv=>vv.1.1,.c fun _=>(↑u1.length:Int),.c fun vv=>vv.2.2.1,.c fun _=>u4,.c fun _=>u4,.c fun vv=>vv.1.2.1,.c fun _=>u1,.c fun vv=>vv.1.2.2]⟩
def ju6 (u4:ByteArray) (u1:List (List NC)) (r:ByteArray × List Int × Int):Sk (top r) (ze (jag (jfC u1) big (((0:Int),zr (zf (↑u1.length:Int)) false,[]))) (jii u4)) :=
 .loopQ (jik u4 u1 r) [.c fun _=>0,.c fun _=>0,.c fun _=>(↑u1.length:Int),.c fun vv=>vv.1.1,.c fun _=>u4,.c fun _=>u4,.c fun vv=>vv.1.2.1,.c fun _=>u1,.p fun vv=>zg vv.1.2.2=(0:Nat)] (fun kk=>(((0:Int),zr (zf (↑u1.length:Int)) false,[]),big)) (fun z0 =>
 .br
 (.loop (jm6 u4 u1 r z0.2) (fun kk=>(z0.1,kk,0,big)) fun z1 =>
 .br
 (.ob (.ob (.brB
 (.call (.brB
 (.exit (.brB
 (.exit (.obT (.obT (.bad (False)))))
 (.ob (.ob (.ob (.next))))))
 (.next)))
 (.next))))
 (.exit (.exit (.obT (.obT (.bad (False)))))))
 (.exit (.obT (.obT (.rc))))) (fun _=>⟨rfl,trivial⟩)
def jw6 (u4:ByteArray) (u1:List (List NC)) (r:ByteArray × List Int × Int):Sk (top r) (jbI u4 u1) :=
 .call (.brB
 (.obT (.obT (.bad (False))))
 (.ob (ju6 u4 u1 r)))
def ju7 (u4:ByteArray) (u1:List (List NC)) (r:ByteArray × List Int × Int) (h:ze (jbI u4 u1) some=some r):jbl Tryz.f80 ((sp_18 (sp_85 sp0))) (fun gs id _=>match id with
 |0=>some ⟨(Int × List Bool × List Int) × Nat,fun z=>⟨[(1,.w (.c (.p 1 0 1 0))),(6,.w (.c (.p 2 0 1 0))),(7,.w (.c (.o 3))),(27,.w (.c (.d (.i .i64 ((↑u1.length:Int)))))),(28,.w (.c (.d (.i .i64 z.1.1))))],[(1,.box 24 [.d (.s u4),.o 0]),(2,.box 130 [.d (.s u4),.o 0,.o 4]),(3,.row 4 (.bools z.1.2.1)),(0,.xext (XC.st zS u1)),(4,.row 3 (.ints .i64 z.1.2.2))],5⟩,fun z=>(jik u4 u1 r).inv z,fun z=>z.2⟩
 |2=>some ⟨(Int × List Bool × List Int) × Nat × Int × Nat,fun z=>⟨[(1,.w (.c (.p 1 0 1 0))),(6,.w (.c (.p 2 0 1 0))),(7,.w (.c (.o 3))),(8,.w (.c (.d (.i .i64 (-1:Int))))),(27,.w (.c (.d (.i .i64 ((↑u1.length:Int)))))),(28,.w (.c (.d (.i .i64 (z.1.1))))),(32,.w (.c (.d (.i .i64 ((↑u1.length:Int)))))),(33,.w (.c (.d (.i .i64 z.2.2.1))))],[(1,.box 24 [.d (.s u4),.o 0]),(2,.box 130 [.d (.s u4),.o 0,.o 4]),(3,.row 4 (.bools (z.1.2.1))),(0,.xext (XC.st zS u1)),(4,.row 3 (.ints .i64 (z.1.2.2)))],5⟩,fun z=>(jm6 u4 u1 r (gs.getD 0 0)).inv z,fun z=>z.2.2.2⟩
 |_=>none) (jbd jg7 [.d (.s u4),.x (.st zS u1)]) [.c (.box 130 [.d (.s r.1),.g 0,.row 3 (.ints .i64 r.2.1)]),.c (.d (.i .i64 r.2.2))] :=
 Sk.vc (jw6 u4 u1 r) (by kernel_rfl) h
def jyG:jaf Tryz.prog 80 true (jai jg7 jtl):=by
 refine jaC (sp:=(sp_18 (sp_85 sp0))) (fn:=Tryz.f80) (body:=bodyOf Tryz.f80) mixed (sp_18_ok (sp_85_ok jau)) Tryz.func80 (by kernel_rfl) (by kernel_rfl) fun ls t h ho b hb=>?_;unfold jtl at h;split at h
 ·rename_i u4 u1;cases h;obtain rfl:=jaN hb;refine jCa (Q:=fun rs=>_∧∃fuel loops,sx _ _ _ _ fuel loops _ _ _ _ _ (jcm _ _ fun v hp _=>jf1 _ rs v hp)) (fun _ ho=>⟨zj (by kernel_rfl),_,_,ju5 u4 u1 _ (jar ho)⟩) (fun _ ho=>?_) ho;exact⟨zj (by kernel_rfl),_,_,ju7 u4 u1 _ (jar ho)⟩
 ·cases h
end Go.Sh
end

section
namespace Go.Sh
open Go Go.Proofs Go.RowKit Go.Sx
def jqj {g:List (List NC)} {i:Nat} (h:jbg g i=0):(∀x∈nL g i 2,0<=x∧x<(g.length:Int))∧(nI g i 7=-1∨(0<=nI g i 7∧nI g i 7<(g.length:Int))):=by
 have hm:jdZ g.length (nL g i 2)=false:=by
  cases hb:jdZ g.length (nL g i 2)with
  |false=>rfl
  |true =>
   exfalso;unfold jbg at h;rw[if_pos hb]at h
   repeat' split at h
   all_goals exact absurd h (by decide)
 have hs:sdB g.length (nI g i 7)=true:=by
  cases hb:sdB g.length (nI g i 7)with
  |true=>rfl
  |false =>
   exfalso;unfold jbg at h;rw[hm,if_neg (by simp:¬(false=true)),hb,if_pos (by simp:(!false)=true)]at h
   repeat' split at h
   all_goals exact absurd h (by decide)
 refine⟨fun x hx=>?_,?_⟩
 ·have:=xL.1 hm x hx;simp only[inB,gI,gp,zk,decide_eq_true_eq]at this;omega
 ·unfold sdB inB at hs;simp only[xn,beq_iff_eq,zk,decide_eq_true_eq]at hs;omega
def jeI (out:List Int) (k:Nat):Bool:=out.any (·== (k:Int))
def jdF (g:List (List NC)) (i k:Nat):Bool:=(nL g i 2).any (·== (k:Int))||nI g i 7==(k:Int)
def jc1 (g:List (List NC)) (out:List Int) (i:Nat):Bool:=!(zG g.length).any fun k=>jdF g i k && !jeI out k
def jdc (g:List (List NC)) (out:List Int) (i:Nat):Bool:=!jeI out i&&jc1 g out i
def jbq (g:List (List NC)) (out:List Int):Option Nat:=(zG g.length).find? (jdc g out)
def jbm (n:Nat) (out:List Int):List Bool:=(zG n).map (jeI out)
def jqX {g:List (List NC)} (hw:Fw g) {i:Nat} (hi:i<g.length) (k:Nat) (nm:ByteArray) (a:Int) (b c:List Int) (d:Int) (e:List (List Int)):y99 nm a (nL g i 2) b c d e (nI g i 7) (k:Int)=some (jdF g i k):=by
 have h2:=hw.fr i hi;unfold y99 jdF;rw[jfh _ _ (by omega),jad];cases (nL g i 2).any (·== (k:Int))<;>rfl
def jyH {g:List (List NC)} (hw:Fw g) (nm:ByteArray) {i:Nat} (hi:i<g.length) (out:List Int) (ho:out.length<1000):jdt nm g out (i:Int)=some (jc1 g out i):=by
 have hn:=hw.n;unfold jdt
 have key:=jdD (body:=y78 g out (i:Int)) g.length (fun k=>jdF g i k && !jeI out k) (.inl ()) (.inr ()) (by omega) (fun k hk hp=>by
   simp only[zk,xK]at hp;unfold y78;simp only[zm];rw[if_pos (by omega),if_pos (by omega),if_pos hi,jqX hw hi,jad,if_pos hp.1,jfh _ _ (by omega),jad];have h2:(out.any (·== (k:Int)))=false:=hp.2;rw[h2];rfl) (fun k hk hp=>by
   unfold y78;simp only[zm];rw[if_pos (by omega),if_pos (by omega),if_pos hi,jqX hw hi,jad];cases h1:jdF g i k with
   |false=>rw[if_neg (by simp),jaF (by omega)]
   |true =>
    rw[h1]at hp;have h2:jeI out k=true:=by simpa using hp
    have h2:(out.any (·== (k:Int)))=true:=h2;rw[if_pos rfl,jfh _ _ (by omega),jad,h2,jaF (by omega)];rfl) (by
   unfold y78;rw[if_neg (by omega)])
 rw[key];unfold jc1;cases (zG g.length).any (fun k=>jdF g i k && !jeI out k)<;>rfl
def jgw (n:Nat) (out:List Int):(jbm n out).length=n:=by simp[jbm]
def jgx {n k:Nat} (hk:k<n) (out:List Int):(jbm n out).getD k false=jeI out k:=by simp[jbm,za,hk]
def jw7 {n i:Nat} (hi:i<n) (out:List Int):(jbm n out).set i true=jbm n (out++[(i:Int)]):=by
 refine yw (by simp[jbm]) fun k h1 h2=>?_;have hk:k<n:=by simpa [jbm]using h2
 rw[List.getElem_set];simp only[jbm,List.getElem_map,fu,jeI,List.any_append,List.any_cons,List.any_nil,kB]
 by_cases h:i=k
 ·subst h;simp
 ·rw[if_neg h];have:((i:Int)==(k:Int))=false:=by simp;omega
  rw[this,kB]
def jqY {g:List (List NC)} (hw:Fw g) {i:Nat} (hi:i<g.length) (hr:jbg g i=0) (out:List Int):jdb g (i:Int) (jbm g.length out)=some (jc1 g out i):=by
 have h2:=hw.fr i hi;obtain⟨r1,r2⟩:=jqj hr
 have hmem:∀x,x∈Sx09.needL (nL g i 2) (nI g i 7)<->(x∈nL g i 2∨(nI g i 7≠-1∧x=nI g i 7)):=fun x=>by
  unfold Sx09.needL;split
  ·rename_i h;simp[h]
  ·rename_i h;simp[h]
 have hrg:∀x∈Sx09.needL (nL g i 2) (nI g i 7),0<=x∧x<(g.length:Int):=fun x hx=>by
  rcases(hmem x).1 hx with h|⟨h,rfl⟩
  ·exact r1 x h
  ·exact r2.resolve_left h
 unfold jdb;simp only[zm]
 rw[if_pos (by omega),if_pos ⟨by omega,by
  rw[zq];intro x hx;rw[jgw];simpa using hrg x hx⟩]
 congr 1
 rw[Bool.eq_iff_iff];unfold Sx09.readyB jc1;rw[zq,xK,xL];constructor
 ·intro h k hk;have hk:k<g.length:=xw.1 hk;simp only[zk,xK,not_and,fF];intro hn
  have hx:(k:Int)∈Sx09.needL (nL g i 2) (nI g i 7):=by
   rw[hmem];unfold jdF at hn;rw[xn,yd]at hn;rcases hn with ⟨x,hx,e⟩|e
   ·have:x=(k:Int):=by simpa using e
    subst this;exact .inl hx
   ·have:nI g i 7=(k:Int):=by simpa using e
    exact .inr ⟨by omega,this.symm⟩
  have:=h _ hx
  rwa [zm,jgx hk]at this
 ·intro h x hx;obtain⟨h0,h1⟩:=hrg x hx;obtain⟨k,rfl⟩:∃k:Nat,x=(k:Int):=⟨x.toNat,by omega⟩
  have hk:k<g.length:=by omega
  rw[zm,jgx hk];have:=h k (xw.2 hk);simp only[zk,xK,not_and,fF]at this;refine this ?_;unfold jdF;rw[xn,yd];rcases(hmem _).1 hx with h|⟨h,e⟩
  ·exact .inl ⟨_,h,by simp⟩
  ·exact .inr (by simp[<-e])
def jAg (P:Nat->Bool) (l:List Nat):(l.findIdx? P).map (fun i=>l.getD i 0)=l.find? P:=by
 induction l with
 |nil=>rfl
 |cons x r ih =>
  rw[List.findIdx?_cons,kc];cases P x with
  |true=>rfl
  |false =>
   rw[<-ih];cases r.findIdx? P<;>rfl
def jyI {Y:Type} (n:Nat) (P:Nat->Bool) {body:Int->Option (Int ⊕ Y)} (hit:Nat->Y) (miss:Y) (hlen:n<9223372036854775807)
  (h1:∀i,i<n->P i=true->body (i:Int)=some (.inr (hit i)))
  (h2:∀i,i<n->P i=false->body (i:Int)=some (.inl ((i:Int)+1))) (h3:body (n:Int)=some (.inr miss)) :
  jag body big 0=some (match(zG n).find? P with|some i=>hit i|none=>miss):=by
 have hg:∀i,i<n->(zG n).getD i 0=i:=fun i hi=>by simp[za,hi]
 have key:=jbU (body:=body) (zG n) 0 P hit miss (by simpa using hlen) (fun i hi hp=>by
   have hi:i<n:=by simpa using hi
   rw[hg i hi]at hp;exact h1 i hi hp) (fun i hi hp=>by
   have hi:i<n:=by simpa using hi
   rw[hg i hi]at hp;exact h2 i hi hp) (by simpa using h3)
 rw[key,<-jAg];cases h:(zG n).findIdx? P with
 |none=>rfl
 |some i =>
  show some (hit i)=some (hit ((zG n).getD i 0))
  rw[hg i (jo3 h)]
def jdL (next:List Int->Option Nat):Nat->List Int->Option (List Int)
 |0,out=>some out
 |k+1,out=>match next out with
  |some i=>jdL next k (out++[(i:Int)])
  |none=>none
def jnD {X Y:Type} {body:X->Option (X ⊕ Y)} (F:List Int->X) (next:List Int->Option Nat) (good:List Int->Y) (bad:Y) (n:Nat)
  (h1:∀out,out.length<n->body (F out)=some (match next out with|some i=>.inl (F (out++[(i:Int)]))|none=>.inr bad)) (h2:∀out,out.length=n->body (F out)=some (.inr (good out))) :
  ∀(k:Nat) (out:List Int) (N:Nat),out.length+k=n->k<N->jag body N (F out)=some (match jdL next k out with|some l=>good l|none=>bad)
 |0,out,0,_,h=>by omega
 |0,out,N+1,ho,_=>by
  unfold jag;rw[h2 out (by omega)];rfl
 |k+1,out,0,_,h=>by omega
 |k+1,out,N+1,ho,hN=>by
  unfold jag;rw[h1 out (by omega)];unfold jdL;cases hx:next out with
  |none=>rfl
  |some i=>exact jnD F next good bad n h1 h2 k (out++[(i:Int)]) N (by simp;omega) (by omega)
end Go.Sh
end

section
open Go.RowKit
namespace Go.Sx
def nzI (e:Int):Int:=Int.ofNat (e.toNat-1+1)
def jCo {e:Int} (h:0<e):nzI e=e:=by
 unfold nzI;rw[Int.ofNat_eq_natCast];omega
def jyJ [Globs] {P:zy} {f:Nat} {shs:List SV} {g g':List Lf->Option GT} (h:∀ls t',g' ls=some t'->∃t,g ls=some t∧(t'.sel.1->t.sel.1∧t.sel.2=t'.sel.2)) (hS:jaf P f true (jai shs g)):jaf P f true (jai shs g'):=by
 have key:∀args hp nx t',jai shs g' args hp nx=some t'->t'.sel.ob->∃t,jai shs g args hp nx=some t∧t.sel.ob∧t.sel.v=t'.sel.v∧t.sel.hp=t'.sel.hp∧t.sel.nx=t'.sel.nx:=by
  intro args hp nx t' ht hob;unfold jai at ht ⊢;split at ht
  ·rename_i ls am hto;split at ht
   ·rename_i q' hg;cases ht;obtain⟨q,hq,himp⟩:=h ls q' hg;rw[jbH]at hob ⊢;obtain⟨h1,h2⟩:=himp hob;refine⟨q.toRT am hp nx,by simp only[hq],?_,?_,?_,?_⟩
    ·rw[jbH];exact h1
    all_goals rw[jbH];simp only[h2]
   ·cases ht
  ·cases ht
 rcases hS with hR|hV
 ·refine .inl ⟨hR.enter,fun U B w args hp nx t' ht hob hlt hh hB=>?_⟩;obtain⟨t,q1,q2,q3,q4,q5⟩:=key args hp nx t' ht hob;refine(hR.sound U B w args hp nx t q1 q2 hlt hh hB).mono ?_;rintro e w' ⟨U',he,hl⟩;refine⟨U',by rw[he,q3],hl.agree,by rw[<-q3,<-q5];exact hl.lt,by rw[<-q5];exact hl.le,by rw[<-q4,<-q5];exact hl.heap,hl.below,hl.mono,by rw[<-q4];exact hl.fresh⟩
 ·refine .inr fun U B w args hp nx t' ht hob hlt hh hB=>?_;obtain⟨t,q1,q2,q3,q4,q5⟩:=key args hp nx t' ht hob;obtain⟨ob,v,e1,e2,e3⟩:=hV U B w args hp nx t q1 q2 hlt hh hB;rw[e1]at q3 q4 q5;refine⟨t'.sel.ob,v,?_,e2,e3⟩;cases hs:t'.sel with
  |mk ob' v' hp' nx' =>
   rw[hs]at q3 q4 q5;simp only at q3 q4 q5;rw[<-q3,<-q4,<-q5]
end Go.Sx
namespace Go.Sh
open Go Go.Proofs Go.RowKit Go.Sx
def jdG (gName:ByteArray) (gUnits:List (List NC)):Option Int:=(jbc gName gUnits).bind fun e=>if 0<e then some e else none
def jay (gName:ByteArray) (gUnits:List (List NC)):Option (List Int):=(jbI gName gUnits).map fun r=>r.2.1
def jjS (gName:ByteArray) (gUnits:List (List NC)):Bool:=(jbc gName gUnits).isSome
def jlA:List Lf->Option GT
 |[.d (.s gName),.x (.st [.s,.i .i64,.ints .i64,.ints .i64,.ints .i64,.i .i64,.recs 5,.i .i64] gUnits)]=>some (.br (jjS gName gUnits) (.leaf (ok (jdG gName gUnits)) [.c (.d (.v (xa none))),.c (.d (.i .i64 (nzI (val (jdG gName gUnits)))))]) (.leaf (ok (jay gName gUnits)) [.c (.box 130 [.d (.s gName),.g 0,.row 3 (.ints .i64 (val (jay gName gUnits)))]),.c (.d (.i .i64 0))]))
 |_=>none
def jyK {gName:ByteArray} {gUnits:List (List NC)} {r:ByteArray × List Int × Int} (h:jbI gName gUnits=some r):r.1=gName∧r.2.2=0:=by
 unfold jbI at h;obtain⟨c,_,h⟩:=zD.1 h;split at h
 ·cases h
 ·split at h
  ·obtain⟨y,_,h⟩:=zD.1 h;cases y with
   |inl u=>cases h
   |inr l=>cases h;exact⟨rfl,rfl⟩
  ·cases h
def jw8:jaf Tryz.prog 80 true (jai jg7 jlA):=by
 refine jyJ (fun ls t' h=>?_) jyG;unfold jlA at h;split at h
 ·rename_i gName gUnits;cases h;refine⟨_,rfl,fun hob=>?_⟩;unfold jjS at hob ⊢;cases hq:(jbc gName gUnits).isSome with
  |true =>
   rw[hq]at hob;have hob:ok (jdG gName gUnits):=hob;obtain⟨e,he⟩:=Option.isSome_iff_exists.1 hq;have hF:jdG gName gUnits=if 0<e then some e else none:=by unfold jdG;rw[he];rfl
   have hpos:0<e:=by
    rw[hF]at hob
    by_cases h0:0<e
    ·exact h0
    ·rw[if_neg h0]at hob;cases hob
   rw[if_pos hpos]at hF;refine⟨hq,?_⟩
   show[RR.c (.d (.v (xa none))),RR.c (.d (.i .i64 (val (jbc gName gUnits))))]=[RR.c (.d (.v (xa none))),RR.c (.d (.i .i64 (nzI (val (jdG gName gUnits)))))]
   rw[joL he,joL hF,jCo hpos]
  |false =>
   rw[hq]at hob;have hob:ok (jay gName gUnits):=hob;cases he:jbI gName gUnits with
   |none=>unfold jay at hob;rw[he]at hob;cases hob
   |some r =>
    have hS:jay gName gUnits=some r.2.1:=by unfold jay;rw[he];rfl
    obtain⟨q1,q2⟩:=jyK he;refine⟨rfl,?_⟩
    show[RR.c (.box 130 [.d (.s r.1),.g 0,.row 3 (.ints .i64 r.2.1)]),RR.c (.d (.i .i64 r.2.2))]=[RR.c (.box 130 [.d (.s gName),.g 0,.row 3 (.ints .i64 (val (jay gName gUnits)))]),RR.c (.d (.i .i64 0))]
    rw[joL hS,q1,q2]
 ·cases h
abbrev sp_80:jaa->jaa:=jaG 80 true (jai jg7 jlA)
def sp_80_ok {sp:jaa} (h:jac Tryz.prog sp):jac Tryz.prog (sp_80 sp):=jap jw8 h
end Go.Sh
end

section
namespace Go.Sh
open Go Go.Proofs Go.RowKit Go.Sx
open Go.IntKind (wrap)
def jvR {g:List (List NC)} {out:List Int} {i:Nat} (h:jbq g out=some i):i<g.length∧jdc g out i=true :=
 ⟨xw.1 (List.mem_of_find?_eq_some h),List.find?_some h⟩
def jgy (P:Nat->Bool) (n k:Nat):Int:=match(List.range' (n-k) k).find? P with
 |some i=>(i:Int)
 |none=>-1
def jw9 (P:Nat->Bool) {n k:Nat} (hk:k<n):jgy P n (k+1)=if P (n-1-k)=true then((n-1-k:Nat):Int)else jgy P n k:=by
 unfold jgy;have e:n-(k+1)=n-1-k:=by omega
 rw[List.range'_succ,e,kc];have e2:n-1-k+1=n-k:=by omega
 rw[e2];cases P (n-1-k)<;>rfl
def jyL (P:Nat->Bool) (n:Nat):jgy P n n=match(zG n).find? P with|some i=>(i:Int)|none=>-1:=by
 unfold jgy;rw[Nat.sub_self,<-List.range_eq_range']
def jmg (g:List (List NC)) (out:List Int):Int:=match jbq g out with
 |some i=>(i:Int)
 |none=>-1
def jyM {g:List (List NC)} (hw:Fw g) (nm:ByteArray) (out:List Int) (ho:out.length<1000):jag (y65 nm g out) big (-1,wrap xF ((g.length:Int)-1))=some (jmg g out):=by
 have hn:=hw.n
 have key:=jcO (body:=y65 nm g out) (fun k=>(jgy (jdc g out) g.length k,(g.length:Int)-1-(k:Int))) (y:=jmg g out) (k:=g.length) (fun k hk=>by
   unfold y65;obtain⟨j,hj⟩:∃j:Nat,(g.length:Int)-1-(k:Int)=(j:Int):=⟨g.length-1-k,by omega⟩
   have hjn:j=g.length-1-k:=by omega
   have hjl:j<g.length:=by omega
   rw[hj,if_pos (by omega),jfh _ _ (by omega),jad,jyH hw nm hjl out ho];have hs:=jw9 (jdc g out) hk;rw[<-hjn]at hs;have he:(g.length:Int)-1-((k+1:Nat):Int)=(j:Int)-1:=by omega
   rw[he,hs,jaF (by omega)];have hc:jdc g out j=(!(out.any (·== (j:Int)))&&jc1 g out j):=rfl;rw[hc];cases out.any (·== (j:Int))with
   |true=>rfl
   |false =>
    cases jc1 g out j<;>rfl) (by
   unfold y65;rw[if_neg (by show ¬((g.length:Int)-1-(g.length:Int)>=0);omega)]
   show some (Sum.inr (jgy (jdc g out) g.length g.length))=_
   rw[jyL];rfl) (by omega)
 have e0:jgy (jdc g out) g.length 0=-1:=rfl;have key:jag (y65 nm g out) big (jgy (jdc g out) g.length 0,(g.length:Int)-1-((0:Nat):Int))=some (jmg g out):=key;rw[e0]at key;rw[jaF (by omega)];have e1:(g.length:Int)-1-((0:Nat):Int)=(g.length:Int)-1:=by omega
 rw[e1]at key;exact key
def jlB {g:List (List NC)} (hw:Fw g) (nm:ByteArray):y0 nm g=some (match jdL (jbq g) g.length []with|some l=>(l,true)|none=>([],false)):=by
 have hn:=hw.n;unfold y0
 have key:=jnD (body:=y79 nm g) (fun out=>out) (jbq g) (fun l=>.inr l) (.inl ()) g.length (fun out ho=>by
   unfold y79;rw[if_pos (by omega),jyM hw nm out (by omega),jad];unfold jg0 jmg;cases hx:jbq g out with
   |none=>rfl
   |some i =>
    show(if(i:Int)<0 then _ else _)=_
    rw[if_neg (by omega),if_pos (by simp only[z4,qD];omega)]) (fun out ho=>by
   unfold y79;rw[if_neg (by omega)]) g.length [] big (by simp) (by have:big=18446744073709551616:=rfl;omega)
 rw[key];cases jdL (jbq g) g.length []<;>rfl
def jxa (n:Nat):jbm n []=zr n false:=by
 refine yw (by simp[jbm]) fun k h1 h2=>?_;simp[jbm,jeI]
def jyN {g:List (List NC)} (hw:Fw g) (hall:∀i,i<g.length->jbg g i=0) (out:List Int) (k:Int):jag (jcE g (k,jbm g.length out,out)) big 0=some (jmg g out):=by
 have hn:=hw.n
 have key:=jyI (body:=jcE g (k,jbm g.length out,out)) g.length (jdc g out) (fun i=>(i:Int)) (-1) (by omega) (fun i hi hp=>by
   unfold jcE;simp only[zm,jgw];unfold jdc at hp;rw[zk]at hp;rw[if_pos (by omega),if_pos (by omega),if_pos hi,jgx hi,if_pos hp.1,jqY hw hi (hall i hi),jad,if_pos hp.2]) (fun i hi hp=>by
   unfold jcE;simp only[zm,jgw];unfold jdc at hp;rw[if_pos (by omega),if_pos (by omega),if_pos hi,jgx hi];cases hh:jeI out i with
   |true=>rw[if_neg (by simp),jaF (by omega)]
   |false =>
    rw[hh]at hp;have hr:jc1 g out i=false:=by simpa using hp
    rw[if_pos (by rfl),jqY hw hi (hall i hi),jad,hr,if_neg (by simp),jaF (by omega)]) (by
   unfold jcE;rw[if_neg (by omega)])
 exact key
def jtm {g:List (List NC)} (hw:Fw g) (hall:∀i,i<g.length->jbg g i=0):jag (jce g) big ((0:Int),zr g.length false,[])=some (match jdL (jbq g) g.length []with|some l=>.inr l|none=>.inl ()):=by
 have hn:=hw.n
 have key:=jnD (body:=jce g) (fun out=>((out.length:Int),jbm g.length out,out)) (jbq g) (fun l=>.inr l) (.inl ()) g.length (fun out ho=>by
   unfold jce;rw[if_pos (by show(out.length:Int)<_;omega),jyN hw hall,jad];unfold jig jmg;cases hx:jbq g out with
   |none=>rfl
   |some i =>
    have hi:=(jvR hx).1
    have hne:((i:Int) == -1)=false:=by
     rw[beq_eq_false_iff_ne];omega
    simp only[jgw];rw[hne,if_neg (by simp),if_pos (by omega),if_pos (by omega),if_pos (by simp only[z4,qD];omega),jaF (by omega),zm,jw7 hi];simp) (fun out ho=>by
   unfold jce;rw[if_neg (by show ¬(out.length:Int)<_;omega)]) g.length [] big (by simp) (by have:big=18446744073709551616:=rfl;omega)
 rw[jxa]at key;exact key
def jlC (next:List Int->Option Nat):∀(k:Nat) (out l:List Int),jdL next k out=some l->out.length+k=l.length∧l.take out.length=out∧∀j,out.length<=j->j<l.length->∃i,next (l.take j)=some i∧l.getD j 0=((i:Nat):Int)
 |0,out,l,h=>by
  cases h;exact⟨rfl,jY,fun j h1 h2=>by omega⟩
 |k+1,out,l,h=>by
  unfold jdL at h;cases hx:next out with
  |none=>rw[hx]at h;cases h
  |some i =>
   rw[hx]at h;obtain⟨h1,h2,h3⟩:=jlC next k (out++[(i:Int)]) l h
   simp only[qb,z4,qD]at h1 h2 h3
   have ht:l.take out.length=out:=by
    have:(l.take (out.length+1)).take out.length=out:=by rw[h2];simp
    rwa [List.take_take,yY (by omega)]at this
   refine⟨by omega,ht,fun j hj1 hj2=>?_⟩
   by_cases hj:j=out.length
   ·subst hj;refine⟨i,by rw[ht];exact hx,?_⟩;have hg:(l.take (out.length+1))[out.length]?=some (i:Int):=by rw[h2];simp
    rw[yN (by omega)]at hg;simp[za,hg]
   ·exact h3 j (by omega) hj2
def ju8 (c:List (List Int)):0<=jcV c:=by
 unfold jcV
 repeat' split
 all_goals omega
def ju9 (g:List (List NC)) (i:Nat):0<=jbg g i:=by
 unfold jbg;have:=ju8 (nR g i 6)
 generalize jcV (nR g i 6)=c at *
 repeat' split
 all_goals omega
def jyO (nm:ByteArray) (g:List (List NC)):0<=(cg nm g).2:=by
 rw[jiS];unfold cgF;split
 ·show(0:Int)<=4;omega
 ·split
  ·show(0:Int)<=8;omega
  ·cases (zG g.length).findIdx? (fun i=>jbg g i != 0)with
   |none=>exact Int.le_refl _
   |some i=>exact ju9 g i
def jqk {nm:ByteArray} {g:List (List NC)} (h:(cg nm g).2=0):∀i,i<g.length->jbg g i=0:=by
 rw[jiS]at h;unfold cgF at h;split at h
 ·exact absurd (show(4:Int)=0 from h) (by omega)
 ·split at h
  ·exact absurd (show(8:Int)=0 from h) (by omega)
  ·cases hf:(zG g.length).findIdx? (fun i=>jbg g i != 0)with
   |none =>
    intro i hi;rw[List.findIdx?_eq_none_iff]at hf;simpa using hf i (xw.2 hi)
   |some i =>
    rw[hf]at h;have h:jbg g i=0:=h;rw[List.findIdx?_eq_some_iff_getElem]at hf;obtain⟨hlt,hp,_⟩:=hf;simp only[fu]at hp;rw[h]at hp;exact absurd hp (by decide)
def jyP {n:Nat} (h:n<1000):(0:Int)<=(n:Int)∧(n:Int)=(n:Int)∧((1:Nat):Int)*(n:Int)<=281474976710656∧(n:Int)<=9223372036854775807:=by
 omega
def jyQ {g:List (List NC)} (hw:Fw g) {nm:ByteArray} (hs:nm.size<1000) (h:(cg nm g).2≠0):jbc nm g=some (cg nm g).2:=by
 unfold jbc;rw[jlx hw hs,jad,if_pos (bne_iff_ne.2 h)]
def jtn {g:List (List NC)} (hw:Fw g) {nm:ByteArray} (hs:nm.size<1000) (h:(cg nm g).2=0):jbc nm g=match jdL (jbq g) g.length []with|some _=>none|none=>some 19:=by
 unfold jbc;rw[jlx hw hs,jad,if_neg (by rw[h];simp),if_pos (jyP hw.n),zm,jtm hw (jqk h),jad];cases jdL (jbq g) g.length []<;>rfl
def jAh {g:List (List NC)} (hw:Fw g) {nm:ByteArray} (hs:nm.size<1000) (h:(cg nm g).2=0) {l:List Int} (hl:jdL (jbq g) g.length []=some l):jbI nm g=some (nm,l,0):=by
 unfold jbI;rw[show jfC=jce from rfl];rw[jlx hw hs,jad,if_neg (by rw[h];simp),if_pos (jyP hw.n),zm,jtm hw (jqk h),jad,hl];rfl
def jBJ {e:Int} (h:0<e):nzI e=e:=by
 unfold nzI
 show((e.toNat-1+1:Nat):Int)=e
 omega
def jva {g:List (List NC)} (hw:Fw g) {nm:ByteArray} (hs:nm.size<1000):y66 nm g=some (if(cg nm g).2≠0 then(cg nm g).2 else match jdL (jbq g) g.length []with|some _=>0|none=>19):=by
 unfold y66;rw[jyA hw hs,jad]
 by_cases h:(cg nm g).2=0
 ·rw[if_neg (by rw[h];simp),if_neg (fun hn=>hn h),jlB hw,jad];cases jdL (jbq g) g.length []<;>rfl
 ·rw[if_pos (bne_iff_ne.2 h),if_pos h]
end Go.Sh
end

section
namespace Go.Sh
open Go Go.Proofs Go.RowKit Go.Sx
structure Rg (g:List (List NC)) (l:List Int):Prop where
 fw:Fw g
 ok:∀i,i<g.length->jbg g i=0
 ord:jdL (jbq g) g.length []=some l
variable {g:List (List NC)} {l:List Int}
def Rg.n (h:Rg g l):g.length<1000:=h.fw.n
def Rg.len (h:Rg g l):l.length=g.length:=by
 have:=(jlC (jbq g) g.length [] l h.ord).1;simp at this;omega
def Rg.at (h:Rg g l) {j:Nat} (hj:j<g.length):∃i:Nat,i<g.length∧l.getD j 0=(i:Int)∧jeI (l.take j) i=false∧jc1 g (l.take j) i=true:=by
 obtain⟨_,_,h3⟩:=jlC (jbq g) g.length [] l h.ord;obtain⟨i,hx,hi⟩:=h3 j (qI _) (by rw[h.len];exact hj);obtain⟨h1,h2⟩:=jvR hx;unfold jdc at h2;rw[zk,xK]at h2;exact⟨i,h1,hi,h2.1,h2.2⟩
def jto {out:List Int} {k:Nat}:jeI out k=true<->∃j,j<out.length∧out.getD j 0=(k:Int):=by
 unfold jeI;rw[yd];constructor
 ·rintro ⟨x,hx,he⟩;obtain⟨j,hj,e⟩:=yl.1 hx;exact⟨j,hj,by simp only[za,zJ hj,zU,e];simpa using he⟩
 ·rintro ⟨j,hj,e⟩;refine⟨out[j],xC hj,?_⟩;simp only[za,zJ hj,zU]at e;simpa using e
def jqZ {α:Type} (l:List α) (d:α) {j k:Nat} (h:j<k):(l.take k).getD j d=l.getD j d:=by
 simp only[za,yN h]
def Rg.before (h:Rg g l) {j i u:Nat} (hj:j<g.length) (hi:l.getD j 0=(i:Int)) (hu:u<g.length) (hn:jdF g i u=true):∃j',j'<j∧l.getD j' 0=(u:Int):=by
 obtain⟨i',_,h2,_,h4⟩:=h.at hj;rw[hi]at h2;obtain rfl:i=i':=by omega
 unfold jc1 at h4;rw[xK,xL]at h4;have:=h4 u (xw.2 hu);rw[hn,Bool.true_and,gI,gp,jto]at this;obtain⟨j',h5,h6⟩:=this;have hlt:j'<j:=by simp at h5;omega
 exact⟨j',hlt,by rw[jqZ _ _ hlt]at h6;exact h6⟩
def Rg.lt_ne (h:Rg g l) {j j':Nat} (hj:j<g.length) (hl:j'<j):l.getD j' 0≠l.getD j 0:=fun e=>by
 obtain⟨i,_,h2,h3,_⟩:=h.at hj;have:jeI (l.take j) i=true:=jto.2 ⟨j',by have:=h.len;simp;omega,by rw[jqZ _ _ hl,e,h2]⟩;rw[h3]at this;cases this
def pig:∀(n:Nat) (l:List Nat),l.Nodup->(∀x∈l,x<n)->l.length<=n
 |0,[],_,_=>zu _
 |0,x::l,_,h=>absurd (h x List.mem_cons_self) (by omega)
 |n+1,l,hd,h=>by
  have h1:=pig n (l.erase n) (hd.erase n) (fun x hx=>by
   rw[hd.mem_erase_iff]at hx;have:=h x hx.2;omega)
  rw[List.length_erase]at h1;split at h1<;>omega
def Rg.surj (h:Rg g l) {i:Nat} (hi:i<g.length):∃j,j<g.length∧l.getD j 0=(i:Int):=by
 apply Classical.byContradiction;intro hno;have hL:=h.len;have hget:∀j (hj:j<l.length),l[j]=l.getD j 0:=fun j hj=>by simp[za,hj]
 have hnd:(l.map zf).Nodup:=by
  unfold List.Nodup;rw[List.pairwise_map,List.pairwise_iff_getElem];intro a b ha hb hab e;obtain⟨x,_,hx,_⟩:=h.at (j:=a) (by omega);obtain⟨y,_,hy,_⟩:=h.at (j:=b) (by omega);rw[hget a ha,hget b hb,hx,hy]at e;refine h.lt_ne (j:=b) (by omega) hab ?_;rw[hx,hy];simp only[zm]at e;rw[e]
 have hm:∀x∈l.map zf,∃j,j<g.length∧l.getD j 0=(x:Int)∧x<g.length:=by
  intro x hx;obtain⟨y,hy,rfl⟩:=qu.1 hx;obtain⟨j,hj,e⟩:=yl.1 hy;obtain⟨z,hz,hz2,_⟩:=h.at (j:=j) (by omega);rw[hget j hj,hz2]at e;subst e;exact⟨j,by omega,by rw[hz2];simp,by simpa using hz⟩
 have:=pig g.length (i::l.map zf) (List.nodup_cons.2 ⟨fun hx=>by
  obtain⟨j,h1,h2,_⟩:=hm i hx
  exact hno ⟨j,h1,h2⟩,hnd⟩) (fun x hx=>by
   rcases qv.1 hx with rfl|hx
   ·exact hi
   ·exact(hm x hx).choose_spec.2.2)
 simp at this;omega
def Rg.stand (h:Rg g l) {j i:Nat} (hj:j<g.length) (hi:l.getD j 0=(i:Int)) (hi2:i<g.length):nI g i 7=-1∨∃j' u:Nat,j'<j∧u<g.length∧nI g i 7=(u:Int)∧l.getD j' 0=(u:Int):=by
 rcases(jqj (h.ok i hi2)).2 with h1|⟨h1,h2⟩
 ·exact .inl h1
 ·refine .inr ?_;obtain⟨u,hu⟩:∃u:Nat,nI g i 7=(u:Int):=⟨(nI g i 7).toNat,by omega⟩
  obtain⟨j',h3,h4⟩:=h.before (u:=u) hj hi (by omega) (by unfold jdF;simp[hu]);exact⟨j',u,h3,by omega,hu,h4⟩
def Rg.from (h:Rg g l) {j i k:Nat} (hj:j<g.length) (hi:l.getD j 0=(i:Int)) (hi2:i<g.length) (hk:k<(nL g i 2).length):∃j' u:Nat,j'<j∧u<g.length∧(nL g i 2).getD k 0=(u:Int)∧l.getD j' 0=(u:Int):=by
 have hm:(nL g i 2).getD k 0∈nL g i 2:=by simp[za,hk]
 obtain⟨h1,h2⟩:=(jqj (h.ok i hi2)).1 _ hm;obtain⟨u,hu⟩:∃u:Nat,(nL g i 2).getD k 0=(u:Int):=⟨((nL g i 2).getD k 0).toNat,by omega⟩
 obtain⟨j',h3,h4⟩:=h.before (u:=u) hj hi (by omega) (by
  unfold jdF;rw[xn];exact .inl (yd.2 ⟨_,hm,by rw[hu];simp⟩))
 exact⟨j',u,h3,by omega,hu,h4⟩
def stF (st:Nat->Int) (fb:Nat->Bool):Nat->Int->Int
 |0,u=>u
 |k+1,u=>if 0<=u∧fb u.toNat=true then stF st fb k (st u.toNat)else u
def jaT {α:Type} (l:List α) (i j:Nat) (x d:α) (hi:i<l.length):(l.set i x).getD j d=if i=j then x else l.getD j d:=by
 simp only[za,List.getElem?_set,hi,if_true];split<;>rfl
def jlD {α:Type} {l:List α} (d:α) {i:Nat} (h:i<l.length):l.getD i d=l[i]:=by simp[za,h]
def jlE (h:Rg g l) {j j' i i':Nat} (hj:j<g.length) (hl:j'<j) (e:l.getD j 0=(i:Int)) (e':l.getD j' 0=(i':Int)):i≠i':=fun hn=>h.lt_ne hj hl (by rw[e,e',hn])
end Go.Sh
end

section
namespace Go.Sh
open Go Go.Proofs Go.RowKit Go.Sx
open Go.IntKind (wrap)
def y131:List SV:=[.c (.d),.c (.p [.r (.ints .i64 [])]),.c (.p [.r (.bools [])])]
def y93 (n:Int) (v0_:List Int) (v1_:List Bool):Option Bool :=
 if 0<=n∧n<(↑v0_.length:Int)then
  if zf n<zg v0_ then
  if(za v0_ n.toNat (0:Int)!=(-1:Int))=true then
   if 0<=n∧n<(↑v0_.length:Int)then
   if zf n<zg v0_ then
    if 0<=za v0_ n.toNat (0:Int)∧za v0_ n.toNat 0<(↑v1_.length:Int)then
    if zf (za v0_ n.toNat (0:Int))<zg v1_ then
     some (za v1_ (zf (za v0_ n.toNat (0:Int))) false)
    else none
    else none
   else none
   else none
  else
   some false
  else none
 else none
def y132:List Lf->Option GT
 |[.d (.i .i64 n),.r (.ints .i64 v0_),.r (.bools v1_)]=>some (.leaf (ok (y93 n v0_ v1_)) [.c (.d (.b ((val (y93 n v0_ v1_)))))])
 |_=>none
abbrev sp_140:jaa->jaa:=jaG 140 true (jai y131 y132)
def jo5 (n:Int) (v0_:List Int) (v1_:List Bool) (r:Bool):Sk (top r) (y93 n v0_ v1_) :=
 .obT (.ob (.ob (.brB
 (.obT (.obT (.ob (.ob (.ob (.ob (.obT (.rc))))))))
 (.obT (.rc)))))
def jnE (n:Int) (v0_:List Int) (v1_:List Bool) (r:Bool) (h:ze (y93 n v0_ v1_) some=some r):jbl Tryz.f140 (sp0) (fun _ _ _=>none) (jbd y131 [.d (.i .i64 n),.r (.ints .i64 v0_),.r (.bools v1_)]) [.c (.d (.b r))] :=
 Sk.vc (jo5 n v0_ v1_ r) (by kernel_rfl) h
def jnF:jaf Tryz.prog 140 true (jai y131 y132):=by
 refine jaC (sp:=sp0) (fn:=Tryz.f140) (body:=bodyOf Tryz.f140) mixed jau Tryz.func140 (by kernel_rfl) (by kernel_rfl) fun ls t h ho b hb=>?_;unfold y132 at h;split at h
 ·rename_i n v0_ v1_;cases h;obtain rfl:=jaN hb;exact⟨zj (by kernel_rfl),_,_,jnE n v0_ v1_ _ (jar ho)⟩
 ·cases h
def sp_140_ok {sp:jaa} (h:jac Tryz.prog sp):jac Tryz.prog (sp_140 sp):=jap jnF h
def y55:List SV:=[.c (.r (.ints .i64 [])),.c (.f 140 [.p [.r (.ints .i64 [])],.p [.r (.bools [])]])]
def y85 (s f0_:List Int) (f1_:List Bool) (x0:Int):Option (Int ⊕ (Int ⊕ Unit)) :=
 if x0<(↑s.length:Int)then
  if 0<=x0∧x0<(↑s.length:Int)then
  if zf x0<zg s then
   ze (y93 (za s x0.toNat (0:Int)) f0_ f1_) fun r0 =>
   if(r0)=true then
   some (.inr (.inl x0))
   else
   some (.inl (wrap .i64 (x0+1)))
  else none
  else none
 else
  some (.inr ((.inr ())))
def y143 (u5:Int):Option Int :=
 some u5
def y144 (u6:Unit):Option Int :=
 some (-1:Int)
def y86:(Int ⊕ Unit)->Option Int :=
 (qZ (y143) (y144))
def y21 (s f0_:List Int) (f1_:List Bool):Option Int :=
 ze (jag (y85 s f0_ f1_) big (0:Int)) (y86)
def y56:List Lf->Option GT
 |[.r (.ints .i64 s),.r (.ints .i64 f0_),.r (.bools f1_)]=>some (.leaf (ok (y21 s f0_ f1_)) [.c (.d (.i .i64 ((val (y21 s f0_ f1_)))))])
 |_=>none
abbrev sp_156_140:jaa->jaa:=jaG 156 true (jai y55 y56)
abbrev y87 (s f0_:List Int) (f1_:List Bool) (r:Int):Lp (Int × Nat) Int (Int ⊕ Unit) Int Int :=
 ⟨fun z=>z.1,fun z=>z.2,fun z x n=>(x,n),fun z=>y85 s f0_ f1_,fun z=>y86,fun z=>top r,fun z=>0,[.c fun _=>(↑s.length:Int),.c fun vv=>vv.1,.c fun _=>s,.c fun _=>f0_,.c fun _=>f1_]⟩
def y162 (s f0_:List Int) (f1_:List Bool) (r:Int):Sk (top r) (y21 s f0_ f1_) :=
 .loop (y87 s f0_ f1_ r) (fun kk=>((0:Int),big)) fun z0 =>
 .br
 (.ob (.ob (.call (.brB
 (.exit (.obT (.rc)))
 (.next)))))
 (.exit (.obT (.rc)))
def y157 (s f0_:List Int) (f1_:List Bool) (r:Int) (h:ze (y21 s f0_ f1_) some=some r):jbl Tryz.f156 ((sp_140 sp0)) (fun gs id _=>match id with
 |0=>some ⟨Int × Nat,fun z=>⟨[(0,.w (.c (.o 0))),(1,.w (.c (.fn 140 [2,4]))),(7,.w (.c (.d (.i .i64 ((↑s.length:Int)))))),(8,.w (.c (.d (.i .i64 z.1))))],[(0,.ext (.ints .i64 s)),(2,.ebox [.o 1]),(4,.ebox [.o 3]),(1,.ext (.ints .i64 f0_)),(3,.ext (.bools f1_))],5⟩,fun z=>(y87 s f0_ f1_ r).inv z,fun z=>z.2⟩
 |_=>none) (jbd y55 [.r (.ints .i64 s),.r (.ints .i64 f0_),.r (.bools f1_)]) [.c (.d (.i .i64 r))] :=
 Sk.vc (y162 s f0_ f1_ r) (by kernel_rfl) h
def y158:jaf Tryz.prog 156 true (jai y55 y56):=by
 refine jaC (sp:=(sp_140 sp0)) (fn:=Tryz.f156) (body:=bodyOf Tryz.f156) mixed (sp_140_ok jau) Tryz.func156 (by kernel_rfl) (by kernel_rfl) fun ls t h ho b hb=>?_;unfold y56 at h;split at h
 ·rename_i s f0_ f1_;cases h;obtain rfl:=jaN hb;exact⟨zj (by kernel_rfl),_,_,y157 s f0_ f1_ _ (jar ho)⟩
 ·cases h
def sp_156_140_ok {sp:jaa} (h:jac Tryz.prog sp):jac Tryz.prog (sp_156_140 sp):=jap y158 h
def y41:List SV:=[.c (.r (.ints .i64 [])),.c (.f 140 [.p [.r (.ints .i64 [])],.p [.r (.bools [])]])]
def y23 (s f0_:List Int) (f1_:List Bool):Option Bool :=
 ze (y21 s f0_ f1_) fun r0 =>
 some (decide (r0>=0))
def y42:List Lf->Option GT
 |[.r (.ints .i64 s),.r (.ints .i64 f0_),.r (.bools f1_)]=>some (.leaf (ok (y23 s f0_ f1_)) [.c (.d (.b ((val (y23 s f0_ f1_)))))])
 |_=>none
abbrev sp_123_140:jaa->jaa:=jaG 123 true (jai y41 y42)
def y145 (s f0_:List Int) (f1_:List Bool) (r:Bool):Sk (top r) (y23 s f0_ f1_) :=
 .call (.obT (.rc))
def y133 (s f0_:List Int) (f1_:List Bool) (r:Bool) (h:ze (y23 s f0_ f1_) some=some r):jbl Tryz.f123 ((sp_156_140 (sp_140 sp0))) (fun _ _ _=>none) (jbd y41 [.r (.ints .i64 s),.r (.ints .i64 f0_),.r (.bools f1_)]) [.c (.d (.b r))] :=
 Sk.vc (y145 s f0_ f1_ r) (by kernel_rfl) h
def y134:jaf Tryz.prog 123 true (jai y41 y42):=by
 refine jaC (sp:=(sp_156_140 (sp_140 sp0))) (fn:=Tryz.f123) (body:=bodyOf Tryz.f123) mixed (sp_156_140_ok (sp_140_ok jau)) Tryz.func123 (by kernel_rfl) (by kernel_rfl) fun ls t h ho b hb=>?_;unfold y42 at h;split at h
 ·rename_i s f0_ f1_;cases h;obtain rfl:=jaN hb;exact⟨zj (by kernel_rfl),_,_,y133 s f0_ f1_ _ (jar ho)⟩
 ·cases h
def sp_123_140_ok {sp:jaa} (h:jac Tryz.prog sp):jac Tryz.prog (sp_123_140 sp):=jap y134 h
end Go.Sh
end

section
namespace Go.Sh
open Go Go.Proofs Go.RowKit Go.Sx
variable {g:List (List NC)} {l:List Int}
end Go.Sh
end

section
namespace Go.Sh
open Go Go.Proofs Go.RowKit Go.Sx
abbrev sp_123b:jaa->jaa:=sp_123_140
def sp_123b_ok {sp:jaa} (h:jac Tryz.prog sp):jac Tryz.prog (sp_123b sp):=sp_123_140_ok h
variable {g:List (List NC)} {l:List Int}
def jtp {α:Type}:∀(l:List α) (i:Nat) (d x:α),l.getD i d=x->i<l.length->l.set i x=l
 |[],i,_,_,_,h=>by cases h
 |a::r,0,d,x,h,_=>by simp at h;simp[h]
 |a::r,i+1,d,x,h,hl=>by
  simp only[List.set_cons_succ];rw[jtp r i d x (by simpa using h) (by simpa using hl)]
end Go.Sh
end

section
namespace Go.Sh
open Go Go.Proofs Go.RowKit Go.Sx
variable {g:List (List NC)} {l:List Int}
def jvS {i:Nat} (hi:¬i<g.length):(cpU g).getD i []=g.getD i []:=by
 simp only[za];rw[z9 (by rw[jdP];omega),z9 (by omega)]
def cpI (i:Nat):nI (cpU g) i 1=nI g i 1∧nI (cpU g) i 5=nI g i 5∧nI (cpU g) i 7=nI g i 7:=by
 by_cases hi:i<g.length
 ·exact cp_I hi
 ·unfold nI;rw[jvS hi];exact⟨rfl,rfl,rfl⟩
def cpL (i:Nat):nL (cpU g) i 2=nL g i 2∧nL (cpU g) i 3=nL g i 3∧nL (cpU g) i 4=nL g i 4:=by
 by_cases hi:i<g.length
 ·exact jnC hi
 ·unfold nL;rw[jvS hi];exact⟨rfl,rfl,rfl⟩
def jq0 (g:List (List NC)):jbq (cpU g)=jbq g:=by
 funext out;unfold jbq
 have:jdc (cpU g) out=jdc g out:=by
  funext i;unfold jdc jc1 jdF;rw[jdP,(cpL i).1,(cpI i).2.2]
 rw[jdP,this]
def Rg.cp (h:Rg g l):Rg (cpU g) l:=⟨jBe h.fw,fun i hi=>by rw[jdP]at hi;rw[jyB hi];exact h.ok i hi,by rw[jq0,jdP];exact h.ord⟩
def rg_of {nm:ByteArray} (hw:Fw g) (h:(cg nm g).2=0) (ho:jdL (jbq g) g.length []=some l):Rg g l:=⟨hw,jqk h,ho⟩
end Go.Sh
end

section
open Go.RowKit
namespace Go.Sx
def jmh (z:C) (cs:List C) (j:Nat):Bool :=
 match z with
 | .d (.i k _)=>(iks k cs).getD j false
 | .d (.b _)=>(bks cs).getD j false
 | .d (.s _)=>(sks cs).getD j false
 |_=>false
def jlF (cs:List C):List C->Nat->Bool
 |[],_=>true
 |z::r,j=>match jmh z cs j with
  |true=>jlF cs r (j+1)
  |false=>false
def jrS (P:zy) (t:qf) (cs:List C) (j:Nat):Bool :=
 match jaB P t with
 |some z=>jlF cs z j
 |none=>false
def jo6 (cs:List C) (j:Nat):List C->Bool
 |[]=>true
 |c::r=>match jmh c cs j,jpI cs j c with
  |true,some (_,cs')=>jo6 cs' (j+1) r
  |_,_=>false
def jyR {z c:C} {cs:List C} {j:Nat} {p:Prop} (h:jpE z cs j=some (p,c)) (hb:jmh z cs j=true):p:=by
 unfold jpE at h;unfold jmh at hb;split at h<;>cases h<;>exact hb
def jvT {cs:List C}:∀{zs l:List C} {j:Nat} {p:Prop},jhw cs zs j=some (p,l)->jlF cs zs j=true->p
 |[],l,j,p,h,_=>by
  simp only[jhw,zi,Prod.mk.injEq]at h;exact h.1 ▸ trivial
 |z::r,l,j,p,h,hb=>by
  unfold jhw at h;unfold jlF at hb;split at h
  ·rename_i q c hq;split at hb
   ·rename_i hz;have h1:=jyR hq hz;split at h
    ·cases h;exact h1
    ·split at h
     ·rename_i q2 l2 h2;cases h;exact⟨h1,jvT h2 hb⟩
     ·cases h
   ·cases hb
  ·cases h
def jyS {P:zy} {t:qf} {cs:List C} {j:Nat} {p:Prop} {v:V} (h:jky P t cs j=some (p,v)) (hb:jrS P t cs j=true):p:=by
 unfold jky at h;unfold jrS at hb;split at h
 ·rename_i z _ _ hz;rw[hz]at hb;split at h
  ·rename_i q c hq;cases h;dsimp only[jlF]at hb;split at hb
   ·rename_i h1;exact jyR hq h1
   ·cases hb
  ·cases h
 ·rename_i sz z _ _ hz;rw[hz]at hb;split at h
  ·split at h
   ·rename_i q l hq;cases h;exact jvT hq hb
   ·cases h
  ·cases h
 ·cases h
def jCp {c:C} {cs cs':List C} {j:Nat} {p:Prop} (h:jpI cs j c=some (p,cs')) (hb:jmh c cs j=true):p:=by
 unfold jpI at h;unfold jmh at hb;split at h<;>cases h<;>exact hb
def jvU:∀{ds cs l:List C} {j:Nat} {p:Prop},jl5 cs j ds=some (p,l)->jo6 cs j ds=true->p
 |[],_,_,_,_,h,_=>by cases h
 |c::r,cs,l,j,p,h,hb=>by
  unfold jl5 at h;unfold jo6 at hb;split at h
  ·rename_i q cs' hq;split at hb
   ·rename_i cs2 hz hq2;rw[hq]at hq2;cases hq2;have h1:=jCp hq hz;split at h
    ·cases h;exact h1
    ·split at h
     ·rename_i q2 l2 h2;cases h;exact⟨h1,jvU h2 hb⟩
     ·cases h
   ·cases hb
  ·cases h
def jtq (P:zy) (t:qf) (cs:List C) (e j:Nat):Bool :=
 match e with
 |0=>match jky P t cs j with
  |none=>true
  |some _=>jrS P t cs j
 |_+1=>true
def jxb (P:zy) (t:qf) (c:Cont) (i j:Nat):Bool :=
 match c with
 | .frs _ E l=>qh i l.length&&qh j E
 | .floats _ l=>match jbj P t,szT P t with
  |some true,some sz=>qn (i+sz) l.length
  |_,_=>qh i l.length
 |c=>qh i c.n
def jxc (P:zy) (t:qf) (o:O) (i e j:Nat):Bool :=
 match o with
 | .box _ cs=>jtq P t cs e j
 | .ebox cs=>jtq P t cs e j
 | .arr _ _ E _=>qh (i*e+j) E
 | .xext X=>qh i X.n
 | .xrow _ X=>qh i X.n
 | .mrow _ _ X _=>qh i X.n
 | .lbox _ _ _ _=>true
 | .lview _ _ _ _=>true
 | .elist _ _ _=>true
 |o=>match o.cont with
  |some c=>jxb P t c i j
  |none=>false
def jBK {P:zy} {t:qf} {cs:List C} {e j:Nat} {p:Prop} {v:V} (h:jet P t cs e j=some (p,v)) (hb:jtq P t cs e j=true):p:=by
 unfold jet at h;split at h
 ·split at h
  ·rename_i x hx;cases h;unfold jtq at hb;dsimp only at hb;rw[hx]at hb;exact jyS hx hb
  ·cases h
 ·cases h
def jbh {a b:Nat} (h:qh a b=true):a<b:=by simpa using h
def jvV {P:zy} {t:qf} {o:O} {i e j:Nat} {p:Prop} {v:V} (h:jdd P t o i e j=some (p,v)) (hb:jxc P t o i e j=true):p:=by
 unfold jdd at h;split at h
 ·rename_i ag sz hag hsz
  have xs:∀(sh:List NK) (l:List (List NC)),qh i l.length=true->((match(generalizing:=false) ag with
   |true=>none
   |false=>match zt e sh.length,sh[j]? with
    |true,some (.i k)=>some (i<l.length,vi k (((l.getD i []).getD j (.d (.v qe))).toI))
    |true,some .b=>some (i<l.length,vb (((l.getD i []).getD j (.d (.v qe))).toB))
    |true,some (.f k)=>some (i<l.length,vf k (((l.getD i []).getD j (.d (.v qe))).toF))
    |true,some .s=>some (i<l.length,vs (((l.getD i []).getD j (.d (.v qe))).toS))
    |_,_=>none):Option (Prop × V))=some (p,v)->p:=by
   intro sh l hl h;split at h
   ·cases h
   ·split at h<;>cases h<;>exact jbh hl
  have bx:∀cs:List C,jtq P t cs e j=true->((match jet P t cs e j with
   |some x=>some x
   |none=>match(generalizing:=false) ag with
    |true=>if i*e+j+sz<=cs.length then some (True,V.w (.a ((cs.drop (i*e+j)).take sz)))else none
    |false=>(cs[i*e+j]?).map fun c=>(True,V.w (.c c))):Option (Prop × V))=some (p,v)->p:=by
   intro cs hb h;split at h
   ·rename_i x hx;cases h;exact jBK hx hb
   ·split at h
    ·split at h
     ·cases h;trivial
     ·cases h
    ·cases hc:cs[i*e+j]? with
     |none=>simp[hc]at h
     |some c=>simp[hc]at h;exact h.1
  have ct:∀c:Cont,jxb P t c i j=true->((match some c with
   |some (.frs k E l) =>
    match(generalizing:=false) ag with
    |true=>match zt e E,zt j 0,zt sz E with
     |true,true,true=>some (i<l.length,jpC k E (l.getD i []))
     |_,_,_=>none
    |false=>match zt e E with
     |true=>some (i<l.length∧j<E,vf k ((l.getD i []).getD j 0))
     |false=>none
   |some (.floats k l) =>
    match zt e 1,zt j 0 with
    |true,true=>match(generalizing:=false) ag with
     |true=>some (i+sz<=l.length,jpC k sz ((l.drop i).take sz))
     |false=>some (i<l.length,vf k (l.getD i 0))
    |_,_=>none
   |some c =>
    match(generalizing:=false) ag with
    |true=>if e=c.e∧j+sz<=e then some (i<c.n,V.w (.a ((zG sz).map fun m=>C.d (c.cell i (j+m)))))else none
    |false=>if e=c.e∧j<e then some (i<c.n,V.w (.c (.d (c.cell i j))))else none
   |none=>none):Option (Prop × V))=some (p,v)->p:=by
   intro c hb h;unfold jxb at hb;cases c with
   |frs k E l =>
    simp only[zk]at hb;dsimp only at h;split at h
    ·split at h
     ·cases h;exact jbh hb.1
     ·cases h
    ·split at h
     ·cases h;exact⟨jbh hb.1,jbh hb.2⟩
     ·cases h
   |floats k l =>
    dsimp only at h hb;rw[hag,hsz]at hb;split at h
    ·cases ag with
     |true=>cases h;exact zj hb
     |false=>cases h;exact jbh hb
    ·cases h
   |_ =>
    dsimp only at h hb;split at h
    ·split at h
     ·cases h;exact jbh hb
     ·cases h
    ·split at h
     ·cases h;exact jbh hb
     ·cases h
  cases o with
  |box ty cs=>exact bx cs hb h
  |ebox cs=>exact bx cs hb h
  |arr ty k E r =>
   dsimp only at h;split at h
   ·split at h
    ·cases h;trivial
    ·cases h
   ·cases h;exact jbh hb
  |xext X =>
   cases X with
   |st sh l=>exact xs sh l hb h
   |_=>cases h
  |xrow ty X =>
   cases X with
   |st sh l=>exact xs sh l hb h
   |_=>cases h
  |mrow ty ts X ho =>
   cases ho with
   |none =>
    cases X with
    |st sh l=>exact xs sh l hb h
    |_=>cases h
   |some x=>cases X<;>cases h
  |lbox ty E n cs =>
   dsimp only at h;split at h
   ·split at h
    ·split at h
     ·cases h;trivial
     ·cases h
    ·cases hc:cs[i*e+j]? with
     |none=>simp[hc]at h
     |some c=>simp[hc]at h;exact h.1
   ·cases h
  |lview r E n cs =>
   dsimp only at h;split at h
   ·split at h
    ·split at h
     ·cases h;trivial
     ·cases h
    ·cases hc:cs[i*e+j]? with
     |none=>simp[hc]at h
     |some c=>simp[hc]at h;exact h.1
   ·cases h
  |elist E n cs =>
   dsimp only at h;split at h
   ·split at h
    ·split at h
     ·cases h;trivial
     ·cases h
    ·cases hc:cs[i*e+j]? with
     |none=>simp[hc]at h
     |some c=>simp[hc]at h;exact h.1
   ·cases h
  |row ty c=>exact ct c hb h
  |ext c=>exact ct c hb h
  |view r c fl=>exact ct c hb h
  |rrow c=>exact ct c hb h
  |fext c=>exact ct c hb h
  |sub r i0 e0 j0 t0 c=>exact ct c hb h
  |_=>cases h
 ·cases h
end Go.Sx
end

section
open Go.RowKit
namespace Go.Sx
def jjT (l m:Option Int) (n:Int):Bool:=decide (0<=l.getD 0∧l.getD 0<=m.getD n∧m.getD n<=n)
def jiT (o:O) (y:Option V) (i e j:Nat):Bool :=
 match o with
 | .box _ cs=>match e with
  |0=>match y with
   |some (.w u)=>jo6 cs j u.cells
   |_=>false
  |_+1=>true
 | .arr _ _ E _=>qh (i*e+j) E
 | .row _ (.frs _ E l)=>qh i l.length&&qh j E
 | .row _ c=>qh i c.n
 | .xrow _ X=>qh i X.n
 | .mrow _ _ X ho=>match ho with
  |none=>qh i X.n
  |some (i0,_)=>zt i i0&&qh i X.n
 | .sub _ _ _ _ _ c=>qh i c.n
 | .lbox _ _ _ _=>true
 |_=>false
def jcL (hp:Hp) (v:Option V):Option Nat :=
 match v with
 |some (.w (.c (.o h)))=>match find hp h with
  |some o=>match o.cont with
   |some c=>some c.n
   |none=>match o.xc with
    |some X=>some X.n
    |none=>match o.lst with
     |some (_,n,_)=>some n
     |none=>none
  |none=>none
 |some (.w (.c (.d (.v (.slice none 0 0)))))=>some 0
 |_=>none
def obB (P:zy) (op:Op) (rd:zH->Option V) (hp:Hp):Bool :=
 match op with
 | .binOp op _ x y _=>match(rd x).bind V.int?,(rd y).bind V.int? with
  |some _,some (_,b)=>(match op with
   | .quo=>!(decide (b=0))
   | .rem=>!(decide (b=0))
   | .shl=>decide (0<=b)
   | .shr=>decide (0<=b)
   |_=>true)
  |_,_=>false
 | .convert _ dst x=>match(rd x).bind V.flt? with
  |some (s,b)=>match P.underlying dst with
   |some (.int k)=>joc s k b
   |_=>false
  |none=>match(rd x).bind V.int? with
   |some _=>true
   |none=>false
 | .index t x i=>match rd x,(rd i).bind V.int? with
  |some v,some (_,n)=>match v.str?,P.underlying t with
   |some s,_=>decide (0<=n∧n<(s.size:Int))
   |none,some (.array len elem)=>decide (0<=n∧n<(len:Int))&&(match v.agg?,szT P elem with
    |some cs,some size=>isK i||(match jky P elem cs (n.toNat*size)with
     |none=>true
     |some _=>jrS P elem cs (n.toNat*size))
    |_,_=>true)
   |none,_=>false
  |_,_=>false
 | .indexAddr t x ix=>match(rd ix).bind V.int? with
  |some (_,n)=>match P.underlying t with
   |some (.array len _)=>decide (0<=n∧n<(len:Int))
   |some (.slice _)=>match jcL hp (rd x)with
    |some m=>decide (0<=n∧n<(m:Int))
    |none=>false
   |_=>false
  |none=>false
 | .load t x=>match rd x with
  |some (.w (.c (.p h i e j)))=>match find hp h with
   |some o=>jxc P t o i e j
   |none=>false
  |_=>false
 | .store _ x y=>match rd x with
  |some (.w (.c (.p h i e j)))=>match find hp h with
   |some o=>jiT o (rd y) i e j
   |none=>false
  |_=>false
 | .slice t x lo hi none=>match jaM rd lo,jaM rd hi with
  |some l,some m=>match P.underlying t with
   |some .string=>match(rd x).bind V.str? with
    |some s=>jjT l m (s.size:Int)
    |none=>false
   |some (.array n _)=>match rd x with
    |some (.w (.c (.p h _ _ _)))=>match find hp h with
     |some (.arr _ _ _ r)=>zt r.length n&&jjT l m (n:Int)
     |some (.box _ _)=>true
     |_=>false
    |_=>false
   |some (.slice _)=>match jcL hp (rd x)with
    |some n=>jjT l m (n:Int)
    |none=>false
   |_=>false
  |_,_=>false
 | .slice _ x lo (some hi) (some mx)=>match jaM rd lo,(rd hi).bind V.int?,(rd mx).bind V.int?,jcL hp (rd x)with
  |some l,some (_,m),some (_,q),some n=>decide (0<=l.getD 0∧l.getD 0<=m∧m<=q∧q<=(n:Int))
  |_,_,_,_=>false
 | .makeSlice t l c=>match P.underlying t,(rd l).bind V.int?,(rd c).bind V.int? with
  |some (.slice elem),some (_,n),some (_,m)=>match jaQ P elem with
   |some b=>decide (0<=n∧n=m∧(b:Int)*n<=281474976710656∧n<=9223372036854775807)
   |none=>false
  |_,_,_=>false
 | .call c=>match c.callee,c.args.toList,c.argTypes.toList with
  | .builtin .append,[s,x],[t,_]=>match P.underlying t,jcL hp (rd s),jcL hp (rd x)with
   |some (.slice elem),some n,some m=>match jaQ P elem with
    |some b=>qn ((n+m)*b) 140737488355328&&qn (n+m) 9223372036854775807&&(match jjd hp (rd s)with
     |some c1=>qh 0 c1.n&&qh 0 m
     |none=>true)
    |none=>false
   |_,_,_=>false
  |_,_,_=>false
 |_=>false
section
variable [Globs] {P:zy} {rd:zH->Option V} {hp:Hp} {nx:Nat}
def jBL {v:V} {x y} (h:v.int?=some x) (k:v.str?=some y):False:=by
 unfold V.int? at h;split at h
 ·cases k
 ·cases h
def jfV {h:Nat} {c:Cont} {n:Nat} {v:Option V} (hv:v=some (.w (.c (.o h)))) (hc:(find hp h).bind O.cont=some c) (hn:jcL hp v=some n):n=c.n:=by
 subst hv;unfold jcL at hn;cases ho:find hp h with
 |none=>simp[ho]at hc
 |some o =>
  simp only[ho,zw]at hc;simp only[ho,hc,zi]at hn;exact hn.symm
def jmi {h:Nat} {X:XC} {n:Nat} {v:Option V} (hv:v=some (.w (.c (.o h)))) (hc:(find hp h).bind O.xc=some X) (hn:jcL hp v=some n):n=X.n:=by
 subst hv;unfold jcL at hn;cases ho:find hp h with
 |none=>simp[ho]at hc
 |some o =>
  simp only[ho,zw]at hc;have hcn:o.cont=none:=by cases o<;>simp[O.xc]at hc<;>rfl
  simp only[ho,hcn,hc,zi]at hn;exact hn.symm
def jjU {h:Nat} {e m:Nat} {cs:List C} {n:Nat} {v:Option V} (hv:v=some (.w (.c (.o h)))) (hc:(find hp h).bind O.lst=some (e,m,cs)) (hn:jcL hp v=some n):n=m:=by
 subst hv;unfold jcL at hn;cases ho:find hp h with
 |none=>simp[ho]at hc
 |some o =>
  simp only[ho,zw]at hc;have hcn:o.cont=none∧o.xc=none:=by cases o<;>simp[O.lst]at hc<;>exact⟨rfl,rfl⟩
  simp only[ho,hcn,hc,zi]at hn;exact hn.symm
def jyT {h:Nat} {X:XC} {v:Option V} (hv:v=some (.w (.c (.o h)))) (hc:(find hp h).bind O.hole=some X):jcL hp v=none:=by
 subst hv;unfold jcL;cases hf:find hp h with
 |none=>simp[hf]at hc
 |some o =>
  simp only[hf,zw]at hc
  have hcn:o.cont=none∧o.xc=none∧o.lst=none:=by
   cases o with
   |mrow ty ts X q=>cases q with
    |none=>cases hc
    |some _=>exact⟨rfl,rfl,rfl⟩
   |_=>cases hc
  simp only[hf,hcn.1,hcn.2.1,hcn.2.2]
def jAk {op:BinOp} {k k':IntKind} {m n:Int} {ob:Prop} {v:V} (ht:(match op with
   | .quo=>!(decide (n=0))
   | .rem=>!(decide (n=0))
   | .shl=>decide (0<=n)
   | .shr=>decide (0<=n)
   |_=>true)=true) (h:jfJ op k m k' n=some (ob,v)):ob:=by
 unfold jfJ at h;split at h
 ·cases h;simpa using ht
 ·cases h;simpa using ht
 ·split at h
  ·split at h<;>first|(cases h;trivial)|(cases h;simpa using ht)|cases h
  ·cases h
def jyU {op:Op} {ob:Prop} {v:V} (ht:obB P op rd hp=true) (h:ja3 P op rd hp=some (ob,v)):ob:=by
 unfold obB at ht;unfold ja3 at h;cases op with
 |binOp op t x y yt =>
  dsimp only at h ht;split at ht
  ·rename_i ka k' b hx hy;split at h
   ·rename_i u v' hu hv;simp only[hu,hv,zw]at hx hy;rw[hx,hy]at h;obtain⟨k,a⟩:=ka;exact jAk ht h
   ·cases h
  ·cases ht
 |convert s d x =>
  dsimp only at h ht;cases hx:rd x with
  |none=>simp[hx]at h
  |some u =>
   simp only[hx,zw]at h ht;unfold jrM at h;split at h
   ·cases h;trivial
   ·cases h;trivial
   ·rename_i s' b hu hd hf;cases h;rw[hf]at ht;dsimp only at ht;rw[hd]at ht;exact ht
   ·cases h
 |index t x i =>
  dsimp only at h ht;split at ht
  ·rename_i u k n hx hi;simp only[hx,zw]at h;split at ht
   ·rename_i s hs;rw[hs,hi]at h;split at h
    ·rename_i s2 k2 n2 h1 h2 h3;cases h1;cases h3;cases h;simpa using ht
    ·cases h
    ·rename_i h0;cases h0
   ·rename_i len elem hs hut;rw[hs,hut,hi]at h;simp only[zk,decide_eq_true_eq]at ht;split at h
    ·rename_i h0 _ _;cases h0
    ·cases h
    ·split at h
     ·rename_i len' elem' cs k' n' h1 h2 h3;cases h1;cases h3;rw[h2]at ht;split at h
      ·rename_i size hsz;rw[hsz]at ht;simp only[xn]at ht;split at h
       ·rename_i p v' hk hsel;cases h;rw[hk,hsel]at ht;exact⟨ht.1,jyS hsel (by simpa using ht.2)⟩
       ·generalize jbZ P elem cs _=q at h
        cases q with
        |none=>simp at h
        |some v'=>simp at h;rw[<-h.1];exact ht.1
      ·cases h
     ·cases h
   ·cases ht
  ·cases ht
 |indexAddr t x ix =>
  dsimp only at h ht;split at ht
  ·rename_i k n hi;rw[hi]at h;split at h
   ·rename_i len elem h' i e j k2 n2 hut hx hn;cases hn;rw[hut]at ht;simp only[decide_eq_true_eq]at ht;split at h
    ·split at h<;>(cases h;exact ht)
    ·cases h
   ·rename_i elem h' k2 n2 hut hx hn;cases hn;rw[hut]at ht;dsimp only at ht;split at h
    ·rename_i c size hc hsz;split at h
     ·cases h;split at ht
      ·rename_i m hm;rw[jfV hx hc hm]at ht;simpa using ht
      ·cases ht
     ·cases h
    ·cases h
   ·cases h
  ·cases ht
 |load t x =>
  dsimp only at h ht;split at h
  ·rename_i h' i e j hx;rw[hx]at ht;dsimp only at ht;split at h
   ·rename_i o ho;rw[ho]at ht;exact jvV h ht
   ·cases h
  ·cases h
 |call c =>
  dsimp only at h ht;split at ht
  ·rename_i hc ha hat;rw[hc]at h;simp at h
  ·cases ht
 |slice t x lo hi mx=>cases h
 |store t x y=>cases h
 |makeSlice t l c=>cases h
 |_=>cases ht
end
end Go.Sx
end

section
open Go.RowKit
namespace Go.Sx
section
variable [Globs] {P:zy} {rd:zH->Option V} {hp:Hp} {nx:Nat} {sp:jaa}
def jBf {op:Op} {ob:Prop} {v:V} (ht:obB P op rd hp=true) (h:jfs P op rd hp=some (ob,v)):ob:=by
 unfold obB at ht;unfold jfs at h;cases op with
 |binOp op t x y yt =>
  dsimp only at h ht;split at ht
  ·rename_i ka k' b hx hy;split at h
   ·rename_i u u' hu hu';simp only[hu,hu',zw]at hx hy;split at h
    ·rename_i a b hs hs';exact(jBL hx hs).elim
    ·split at h
     ·unfold jod at h;cases op<;>simp at h<;>exact h.1
     ·split at h
      ·unfold jfK at h;cases op<;>simp at h<;>exact h.1
      ·cases h
   ·cases h
  ·cases ht
 |slice t x lo hi mx =>
  cases mx with
  |some mx=>simp at h
  |none =>
   dsimp only at h ht;split at h
   ·rename_i s l m hut hx hl hm;cases h;rw[hl,hm,hut,hx]at ht;simpa [jjT]using ht
   ·cases h
 |convert s d x =>
  dsimp only at h;split at h
  ·split at h
   ·cases h;trivial
   ·cases h
  ·cases h
 |index t x i =>
  dsimp only at h ht;split at h
  ·rename_i k E r hx;split at h
   ·rename_i len elem k2 n hut hi;rw[hx,hi,hut]at ht;simp only[V.str?,zk,decide_eq_true_eq]at ht;split at h
    ·cases h;exact ht.1
    ·cases h
   ·cases h
  ·cases h
 |sliceToArrayPointer t x=>cases ht
 |nilCheck x=>cases ht
 |fieldAddr s x f=>cases ht
 |indexAddr t x ix =>
  dsimp only at h ht;split at ht
  ·rename_i k n hi;rw[hi]at h;split at h
   ·rename_i len elem h' e k2 n2 hut hx hn;cases hn;rw[hut]at ht;simp only[decide_eq_true_eq]at ht;split at h
    ·split at h
     ·cases h;exact ht
     ·cases h
    ·cases h
   ·rename_i elem h' k2 n2 hut hx hn;cases hn;rw[hut]at ht;dsimp only at ht;split at h
    ·rename_i X size hc hsz;split at h
     ·cases h;split at ht
      ·rename_i m hm;rw[jmi hx hc hm]at ht;simpa using ht
      ·cases ht
     ·cases h
    ·rename_i size hc hsz;split at h
     ·rename_i e m cs hl;split at h
      ·cases h;split at ht
       ·rename_i m' hm;rw[jjU hx hl hm]at ht;simpa using ht
       ·cases ht
      ·cases h
     ·split at h
      ·rename_i X hX;rw[jyT hx hX]at ht;cases ht
      ·cases h
    ·cases h
   ·cases h
  ·cases ht
 |load t x =>
  dsimp only at h ht;split at h
  ·rename_i hx;rw[hx]at ht;cases ht
  ·cases h
 |call c =>
  dsimp only at h ht;split at ht
  ·rename_i hc ha hat;rw[hc]at h;simp at h
  ·cases ht
 |_=>simp at h
def bR_ob {op:Op} {r:Res} (ht:obB P op rd hp=true) (h:jdf P op rd hp nx=some r):r.ob:=by
 unfold obB at ht;unfold jdf at h;cases op with
 |slice t x lo hi mx =>
  split at h
  ·rename_i t2 x2 hi2 mx2 he;cases he;dsimp only at ht;split at h
   ·split at h
    ·rename_i elem h' k m k' q hut hx hm hq;split at h
     ·rename_i c e hf hs;split at h
      ·cases h;split at ht
       ·rename_i l m' k1 q' k2 n hl hm' hq' hn;rw[hm]at hm';rw[hq]at hq';cases hm';cases hq';simp only[jaM,zi]at hl;subst hl;rw[jfV (c:=c) hx (by rw[hf];rfl) hn]at ht;simp only[x8,decide_eq_true_eq]at ht;exact⟨ht.2.1,ht.2.2⟩
       ·cases ht
      ·cases h
     ·cases h
    ·cases h
   ·cases h
  ·rename_i t2 x2 lo2 he;cases he;dsimp only at ht;split at h
   ·split at h
    ·rename_i elem h' k l hut hx hl;split at h
     ·rename_i c e hf hs;split at h
      ·cases h;split at ht
       ·rename_i l' m hl' hm;rw[hut]at ht;dsimp only at ht;split at ht
        ·rename_i n hn
         have hcn:(find hp h').bind O.cont=some c:=by
          cases ho:find hp h' with
          |none=>simp[ho]at hf
          |some o =>
           simp only[ho,zw]at hf ⊢;cases o<;>simp[jeX]at hf<;>simpa [O.cont]using hf
         rw[jfV hx hcn hn]at ht;simp only[jaM]at hl' hm;rw[hl]at hl';cases hl';cases hm;simp only[jjT,zU,x8,decide_eq_true_eq]at ht;exact⟨ht.1,ht.2.1⟩
        ·cases ht
       ·cases ht
      ·cases h
     ·cases h
    ·cases h
   ·cases h
  ·cases h
 |_=>simp at h
def bN_ob {op:Op} {r:Res} (ht:obB P op rd hp=true) (h:jdT P op rd hp nx=some r):r.ob:=by
 unfold obB at ht;unfold jdT at h;cases op with
 |makeSlice t l c =>
  dsimp only at h ht;split at h
  ·rename_i elem k n k' m hut hn hm;rw[hut,hn,hm]at ht;dsimp only at ht;split at h
   ·rename_i X0 z b e h1 h2 h3 h4;rw[h3]at ht;split at h
    ·cases h;simpa using ht
    ·cases h
   ·cases h
  ·cases h
 |buildSlice t n ps=>cases ht
 |store t x y =>
  dsimp only at h ht;split at h
  ·rename_i k i e j u hx hy;rw[hx]at ht;dsimp only at ht;split at h
   ·rename_i ty X sz hf hs;rw[hf]at ht;have ht:=jbh (show qh i X.n=true from ht);split at h
    ·split at h
     ·split at h
      ·cases h;exact ht
      ·cases h
     ·split at h
      ·split at h
       ·cases h;exact ht
       ·cases h
      ·cases h
    ·cases h
   ·cases h
  ·cases h
 |call c =>
  dsimp only at h ht;split at h
  ·rename_i s x t t' hc ha hat;rw[hc,ha,hat]at ht;dsimp only at ht;split at h
   ·rename_i elem hb hut;rw[hut]at ht;split at h
    ·rename_i X0 z e b h1 h2 h3 h4;split at h
     ·rename_i hs ty X1 hx ty' X2 g1 g2;split at ht
      ·rename_i elem' n m he hn hm;cases he;rw[h4]at ht;simp only[zk]at ht
       have len:∀{v:Option V} {hs:Option Nat} {ty n:Nat} {X:XC},v.bind (xOf hp X0)=some (hs,ty,X)->jcL hp v=some n->n=X.n∨X=X0:=by
        intro v hs ty n X hv hn;cases v with
        |none=>cases hv
        |some v =>
         simp only[zw]at hv;unfold xOf at hv;split at hv
         ·split at hv
          ·rename_i ty2 X2 hf;cases hv;exact .inl (jmi (X:=X) rfl (by rw[hf];rfl) hn)
          ·cases hv
         ·cases hv;exact .inr rfl
         ·cases hv
       have h0:X0.n=0:=by
        unfold xcT at h1;split at h1
        ·split at h1
         ·split at h1<;>cases h1;rfl
         ·split at h1<;>cases h1<;>rfl
         ·cases h1
        ·cases h1
       have l1:X1.n<=n:=(len g1 hn).elim (fun e=>yL e.symm) fun e=>by rw[e,h0];exact qI _
       have l2:X2.n<=m:=(len g2 hm).elim (fun e=>yL e.symm) fun e=>by rw[e,h0];exact qI _
       split at h
       ·cases h;have a1:=zj ht.1.1;have a2:=zj ht.1.2;exact⟨qx (zW b (jm l1 l2)) a1,qx (jm l1 l2) a2⟩
       ·cases h
      ·cases ht
     ·cases h
    ·cases h
   ·cases h
  ·cases h
 |_=>simp at h
end
end Go.Sx
end

section
open Go.RowKit
namespace Go.Sx
section
variable [Globs] {P:zy} {rd:zH->Option V} {hp:Hp} {nx:Nat} {sp:jaa}
def jiU {h:Nat} {o:O} {n:Nat} {v:Option V} (hv:v=some (.w (.c (.o h)))) (hf:find hp h=some o) (hn:jcL hp v=some n):(∀c,o.cont=some c->n=c.n)∧(∀X,o.xc=some X->n=X.n) :=
 ⟨fun c hc=>jfV hv (by rw[hf];exact hc) hn,fun X hX=>jmi hv (by rw[hf];exact hX) hn⟩
def jjV {z:List D} {v:Option V} {hx:Option Nat} {cx:Option Cont} {c2:Cont} {m:Nat} (g:v.bind (jcg hp)=some (hx,cx)) (hc:jcu z cx=some c2) (hm:jcL hp v=some m):c2.n=m:=by
 cases v with
 |none=>cases g
 |some v =>
  simp only[zw]at g;unfold jcg at g;split at g
  ·rename_i h2;cases hc':(find hp h2).bind O.cont with
   |none=>simp[hc']at g
   |some c' =>
    simp[hc']at g;obtain⟨_,rfl⟩:=g;simp only[jcu,zi]at hc;subst hc;exact(jfV rfl hc' hm).symm
  ·cases g;simp only[jcL,zi]at hm;rw[(jc4 (show jdN z []=some c2 from hc)).2.1,<-hm];rfl
  ·cases g
def bX_ob {op:Op} {r:Res} (ht:obB P op rd hp=true) (h:jdS P op rd hp nx=some r):r.ob:=by
 unfold obB at ht;unfold jdS at h;cases op with
 |box elem x=>cases ht
 |alloc elem=>cases ht
 |buildSlice t n ps=>cases ht
 |slice t x lo hi mx =>
  cases mx with
  |none =>
   dsimp only at h ht;split at h
   ·rename_i n elem h' l m hut hx hl hm;rw[hl,hm,hut]at ht;dsimp only at ht;rw[hx]at ht;dsimp only at ht;split at h
    ·rename_i ty k E r' hf hs;rw[hf]at ht;split at h
     ·cases h;simp only[zk,jjT,decide_eq_true_eq]at ht;exact⟨zb ht.1,ht.2⟩
     ·cases h
    ·cases h
   ·rename_i elem h' l m hut hx hl hm;rw[hl,hm,hut]at ht;dsimp only at ht;split at h
    ·rename_i X sz hf hs;split at ht
     ·rename_i n hn;rw[(jiU hx hf hn).2 X rfl]at ht;split at h
      ·cases h;simpa [jjT]using ht
      ·cases h
     ·cases ht
    ·cases h
   ·cases h
  |some mx =>
   cases hi with
   |none=>cases h
   |some hi =>
    dsimp only at h ht;split at h
    ·rename_i elem h' l k m k' q hut hx hl hm hq;split at h
     ·rename_i o e hf hs;split at h
      ·rename_i c hc;split at h
       ·cases h;split at ht
        ·rename_i l' k1 m' k2 q' n hl' hm' hq' hn;rw[hl]at hl';rw[hm]at hm';rw[hq]at hq';cases hl';cases hm';cases hq';rw[(jiU hx hf hn).1 c hc]at ht;simpa using ht
        ·cases ht
       ·cases h
      ·cases h
     ·cases h
    ·cases h
 |load t x =>
  dsimp only at h ht;split at h
  ·rename_i h' i e j hx;rw[hx]at ht;dsimp only at ht;split at h
   ·rename_i b X hb;cases hf:find hp h' with
    |none=>simp[hf]at hb
    |some o =>
     rw[hf]at ht;simp only[hf,zw]at hb
     have ht:i<X.n:=by
      cases o<;>simp[O.xk]at hb<;>(obtain⟨_,rfl⟩:=hb;exact jbh ht)
     split at h
     ·split at h
      ·cases h;exact ht
      ·cases h
     ·split at h
      ·split at h
       ·cases h;exact ht
       ·cases h
      ·cases h
     ·cases h
   ·cases h
  ·cases h
 |store t x y =>
  dsimp only at h ht;split at h
  ·rename_i h' i e j k v hx hy;rw[hx]at ht;dsimp only at ht;split at h
   ·rename_i ty k' E r' _ _ hf;rw[hf]at ht;split at h
    ·cases h;exact jbh ht
    ·cases h
   ·rename_i ty k' E l _ _ hf;rw[hf]at ht;simp only[jiT,zk]at ht;split at h
    ·cases h;exact⟨jbh ht.1,jbh ht.2⟩
    ·cases h
   ·cases h
  ·rename_i h' i e k E' v hx hy;rw[hx]at ht;dsimp only at ht;split at h
   ·split at h
    ·cases h;trivial
    ·cases h
   ·rename_i ty k' E l _ _ hf;rw[hf]at ht;simp only[jiT,zk]at ht;split at h
    ·cases h;exact jbh ht.1
    ·cases h
   ·cases h
  ·split at h
   ·split at h
    ·split at h
     ·cases h;trivial
     ·cases h
    ·cases h
   ·cases h
  ·cases h
 |makeMap t r=>cases r<;>cases ht
 |lookup t x i ok=>cases ht
 |mapUpdate t m i y=>cases ht
 |_=>simp at h
def bU_ob {op:Op} {r:Res} (ht:obB P op rd hp=true) (h:jdV P op rd hp nx=some r):r.ob:=by
 unfold obB at ht;unfold jdV at h;cases op with
 |load t x =>
  dsimp only at h ht;split at h
  ·rename_i k i e j hx;split at h
   ·rename_i ty ts X m hf;rw[hx]at ht;dsimp only at ht;rw[hf]at ht;cases ht
   ·cases h
  ·cases h
 |store t x y =>
  dsimp only at h ht;split at h
  ·rename_i k i e j u hx hy;split at h
   ·rename_i ty ts X m sz hf hs;rw[hx]at ht;dsimp only at ht;rw[hf]at ht;cases ht
   ·split at h
    ·cases h;trivial
    ·cases h
   ·cases h
  ·cases h
 |_=>simp at h
def bM_ob {op:Op} {r:Res} (ht:obB P op rd hp=true) (h:jdU P op rd hp nx=some r):r.ob:=by
 unfold obB at ht;unfold jdU at h;cases op with
 |makeSlice t l c =>
  dsimp only at h ht;split at h
  ·rename_i elem k n k' m _ hut hn hm;rw[hut,hn,hm]at ht;dsimp only at ht;split at h
   ·rename_i X0 z b e ts h1 h2 h3 h4 h5;rw[h3]at ht;split at h
    ·cases h;simpa using ht
    ·cases h
   ·cases h
  ·cases h
 |buildSlice t n ps=>cases ht
 |load t x =>
  dsimp only at h ht;split at h
  ·rename_i h' i e j hx;rw[hx]at ht;dsimp only at ht;split at h
   ·rename_i ty ts X hf;rw[hf]at ht;have ht:i<X.n:=jbh ht;split at h
    ·split at h
     ·cases h;exact ht
     ·cases h
    ·split at h
     ·split at h
      ·cases h;exact ht
      ·cases h
     ·cases h
    ·cases h
   ·cases h
  ·cases h
 |store t x y =>
  dsimp only at h ht;split at h
  ·rename_i h' i e j u hx hy;rw[hx]at ht;dsimp only at ht;split at h
   ·rename_i ty ts X ho sz hf hs;rw[hf]at ht;split at h
    ·split at h
     ·split at h
      ·split at h
       ·cases h;exact jbh ht
       ·cases h
      ·cases h
     ·split at h
      ·split at h
       ·split at h
        ·cases h;exact jbh ht
        ·rename_i i0 j0;split at h
         ·cases h;simp only[jiT,zk]at ht;exact⟨zb ht.1,jbh ht.2⟩
         ·cases h
       ·cases h
      ·cases h
    ·cases h
   ·rename_i r0 i0 e0 j0 t0 c sz hf hs;rw[hf]at ht;have ht:i<c.n:=jbh ht;split at h
    ·split at h
     ·split at h
      ·split at h
       ·cases h;exact ht
       ·cases h
      ·cases h
     ·cases h
    ·cases h
   ·cases h
  ·cases h
 |call c =>
  dsimp only at h ht;split at h
  ·rename_i s x t t' hc ha hat;rw[hc,ha,hat]at ht;dsimp only at ht;split at h
   ·rename_i elem hb hut;rw[hut]at ht;split at ht
    ·rename_i elem' n m he hn hm;cases he;split at ht
     ·rename_i b h4;simp only[zk]at ht;have a1:=zj ht.1.1;have a2:=zj ht.1.2
      have fin:∀{x y:Nat},x<=n->y<=m->(x+y)*b<=140737488355328∧x+y<=9223372036854775807:=fun l1 l2 =>
       ⟨qx (zW b (jm l1 l2)) a1,qx (jm l1 l2) a2⟩
      have MA:∀{r},jfM P t elem (rd s) (rd x) hp nx=some r->r.ob:=by
       intro r h;unfold jfM at h;split at h
       ·rename_i X0 z e b' ts h0 h1 h2 h3 h4' h5;rw[h4]at h4';cases h4'
        have h0:X0.n=0:=by
         unfold xcT at h1;split at h1
         ·split at h1
          ·split at h1<;>cases h1;rfl
          ·split at h1<;>cases h1<;>rfl
          ·cases h1
         ·cases h1
        have len:∀{v:Option V} {hs:Option Nat} {ty n:Nat} {ts:List Nat} {X:XC},v.bind (mOf hp X0)=some (hs,ty,ts,X)->jcL hp v=some n->X.n<=n:=by
         intro v hs ty n ts X hv hn;cases v with
         |none=>cases hv
         |some v =>
          simp only[zw]at hv;unfold mOf at hv;split at hv
          ·split at hv
           ·rename_i ty2 ts2 X2 hf;cases hv;exact yL (jmi (X:=X) rfl (by rw[hf];rfl) hn).symm
           ·cases hv
          ·cases hv;rw[h0];exact qI _
          ·cases hv
        split at h
        ·rename_i hs ty t1 X1 hx ty' t2 X2 g1 g2;split at h
         ·cases h;exact fin (len g1 hn) (len g2 hm)
         ·cases h
        ·cases h
       ·cases h
      split at h
      ·rename_i hs0 hobj;split at h
       ·rename_i r0 i0 e0 j0 t0 c1 hf;split at h
        ·rename_i hx cx z e b' ty ts X g1 g2 g3 g4 g5;rw[h4]at g4;cases g4;split at h
         ·rename_i c2 hc2;split at h
          ·split at h
           ·cases h
            have hs':rd s=some (.w (.c (.o hs0))):=by
             cases hrs:rd s with
             |none=>simp[hrs]at hobj
             |some v =>
              simp only[hrs,zw]at hobj;unfold V.obj? at hobj;split at hobj
              ·cases hobj;rfl
              ·cases hobj
            have l1:c1.n<=n:=yL ((jiU hs' hf hn).1 c1 rfl).symm;have l2:c2.n<=m:=yL (jjV g1 hc2 hm);exact fin l1 l2
           ·cases h
          ·cases h
         ·cases h
        ·cases h
       ·exact MA h
      ·exact MA h
     ·cases ht
    ·cases ht
   ·cases h
  ·cases h
 |_=>simp at h
def bL_ob {op:Op} {r:Res} (ht:obB P op rd hp=true) (h:jev P op rd hp nx=some r):r.ob:=by
 unfold obB at ht;unfold jev at h;cases op with
 |makeSlice t l c =>
  dsimp only at h ht;split at h
  ·rename_i elem k n k' m _ hut hn hm;rw[hut,hn,hm]at ht;dsimp only at ht;split at h
   ·rename_i z e b h1 h2 h3;rw[h3]at ht;split at h
    ·cases h;simpa using ht
    ·cases h
   ·cases h
  ·cases h
 |buildSlice t n ps=>cases ht
 |slice t x lo hi mx =>
  cases mx with
  |some mx=>cases h
  |none =>
   dsimp only at h ht;split at h
   ·rename_i elem h' l m hut hx hl hm;rw[hl,hm,hut]at ht;dsimp only at ht;split at h
    ·rename_i e n cs sz hf hs;split at ht
     ·rename_i n' hn;rw[jjU hx hf hn]at ht;split at h
      ·cases h;simpa [jjT]using ht
      ·cases h
     ·cases ht
    ·cases h
   ·cases h
 |store t x y =>
  dsimp only at h;split at h
  ·split at h
   ·split at h
    ·cases h;trivial
    ·cases h
   ·cases h
  ·cases h
 |call c =>
  dsimp only at h ht;split at h
  ·rename_i s x t t' hc ha hat;rw[hc,ha,hat]at ht;dsimp only at ht;split at h
   ·rename_i elem _ hb hut;rw[hut]at ht;split at h
    ·rename_i z e b h1 h2 h3;split at h
     ·rename_i hs ty e1 n1 cs1 n2 cs2 g1 g2;split at ht
      ·rename_i elem' n m he hn hm;cases he;rw[h3]at ht;simp only[zk]at ht
       have l1:n1=n:=by
        cases hrs:rd s with
        |none=>simp[hrs]at g1
        |some v =>
         simp only[hrs,zw]at g1;rw[hrs]at hn;unfold lOf at g1;split at g1
         ·rename_i k;split at g1
          ·rename_i hf;cases g1;exact(jjU rfl (by rw[hf];rfl) hn).symm
          ·cases g1
         ·cases g1;simpa [jcL]using hn
         ·cases g1
       have l2:n2=m:=by
        cases hrs:rd x with
        |none=>simp[hrs]at g2
        |some v =>
         simp only[hrs,zw]at g2;rw[hrs]at hm;unfold lRd at g2;split at g2
         ·rename_i k;split at g2
          ·rename_i hf;cases g2;exact(jjU rfl hf hm).symm
          ·cases g2
         ·cases g2;simpa [jcL]using hm
         ·cases g2
       split at h
       ·cases h;rw[<-l1,<-l2]at ht;exact⟨zj ht.1.1,zj ht.1.2⟩
       ·cases h
      ·cases ht
     ·cases h
    ·cases h
   ·cases h
  ·cases h
 |_=>simp at h
def bH_ob {op:Op} {r:Res} (ht:obB P op rd hp=true) (hcall:∀c,op=.call c->c.callee=.builtin .append) (h:jhz P sp op rd hp nx=some r):r.ob:=by
 unfold obB at ht;unfold jhz at h;cases op with
 |box elem x=>cases ht
 |alloc elem=>cases ht
 |buildSlice t n ps=>cases ht
 |makeSlice t l c =>
  dsimp only at h ht;split at h
  ·rename_i elem k n k' m hut hn hm;rw[hut,hn,hm]at ht;dsimp only at ht;split at h
   ·rename_i z e b h1 h2 h3;rw[h3]at ht;split at h
    ·split at h
     ·cases h;simpa using ht
     ·cases h
    ·cases h
   ·cases h
  ·cases h
 |slice t x lo hi mx =>
  cases mx with
  |some mx=>cases h
  |none =>
   dsimp only at h ht;split at h
   ·split at h
    ·split at h
     ·split at h
      ·split at h
       ·cases h;trivial
       ·cases h
      ·cases h
     ·cases h
    ·cases h
   ·rename_i elem h' l m hut hx hl hm;rw[hl,hm,hut]at ht;dsimp only at ht;split at h
    ·rename_i o e hf hs;split at h
     ·rename_i c hc;split at ht
      ·rename_i n hn;rw[(jiU hx hf hn).1 c hc]at ht;split at h
       ·cases h;simpa [jjT]using ht
       ·cases h
      ·cases ht
     ·cases h
    ·cases h
   ·cases h
 |store t x y =>
  dsimp only at h ht;split at h
  ·rename_i h' i e j u hx hy;rw[hx]at ht;dsimp only at ht;split at h
   ·split at h
    ·rename_i ty cs hf;rw[hf,hy]at ht;split at h
     ·rename_i p cs' hst;cases h;unfold jok at hst;split at hst
      ·split at hst
       ·cases hst
       ·rename_i c0 r0 hu;dsimp only[jiT]at ht;exact jvU hst ht
      ·cases hst
     ·split at h
      ·cases h;trivial
      ·cases h
    ·rename_i ty c hf;rw[hf]at ht
     have ht:i<c.n:=by
      cases c with
      |frs k E l =>
       simp only[jiT,zk]at ht;exact jbh ht.1
      |_=>exact jbh ht
     split at h
     ·split at h
      ·split at h
       ·cases h;exact ht
       ·cases h
      ·cases h
     ·cases h
    ·cases h
   ·cases h
  ·cases h
 |call c =>
  dsimp only at h ht;have hcc:=hcall c rfl;rw[hcc]at h ht;split at h
  ·rename_i s x t t' _ ha hat;rw[ha,hat]at ht;dsimp only at ht;split at h
   ·rename_i hte;split at ht
    ·rename_i elem n m hut hn hm;split at ht
     ·rename_i b hb;simp only[zk]at ht;have a1:=zj ht.1.1;have a2:=zj ht.1.2
      have fin:∀{x y:Nat},x<=n->y<=m->(x+y)*b<=140737488355328∧x+y<=9223372036854775807:=fun l1 l2 =>
       ⟨qx (zW b (jm l1 l2)) a1,qx (jm l1 l2) a2⟩
      split at h
      ·rename_i c1 hfv;rw[hfv]at ht;simp only[zk]at ht;unfold jfu at h;split at h
       ·rename_i elem' hx cx hut' g1;rw[hut]at hut';cases hut';split at h
        ·rename_i z e b' h1 h2 h3;rw[hb]at h3;cases h3;split at h
         ·rename_i c2 hc2;split at h
          ·split at h
           ·cases h
            have l1:c1.n<=n:=by
             unfold jjd at hfv;split at hfv
             ·rename_i hh hrs;split at hfv
              ·rename_i rr cc hf;cases hfv;exact yL ((jiU hrs hf hn).1 c1 rfl).symm
              ·cases hfv
             ·cases hfv
            have l2:=jjV g1 hc2 hm;exact⟨jbh ht.2.1,by rw[l2];exact jbh ht.2.2,fin l1 (yL l2)⟩
           ·cases h
          ·cases h
         ·cases h
        ·cases h
       ·cases h
      ·split at h
       ·rename_i elem' hs cs hx cx hut' g1 g2;rw[hut]at hut';cases hut';split at h
        ·rename_i z e b' h1 h2 h3;rw[hb]at h3;cases h3;split at h
         ·rename_i c1 c2 _ hc1 hc2;split at h
          ·split at h
           ·cases h;exact fin (yL (jjV g1 hc1 hn)) (yL (jjV g2 hc2 hm))
           ·cases h
          ·cases h
         ·cases h
        ·cases h
       ·cases h
     ·cases ht
    ·cases ht
   ·cases h
  ·rename_i hc;cases hc
  ·cases h
 |_=>simp at h
def b_ob {op:Op} {r:Res} (ht:obB P op rd hp=true) (h:step P sp op rd hp nx=some r):r.ob:=by
 unfold step at h;split at h
 ·rename_i ob v hv;cases h;unfold ja4 at hv;split at hv
  ·rename_i p hp0;cases hv;exact jyU ht hp0
  ·exact jBf ht hv
 ·split at h
  ·rename_i r' hr;cases h;exact bR_ob ht hr
  ·split at h
   ·rename_i r' hr;cases h;exact bX_ob ht hr
   ·split at h
    ·rename_i r' hr;cases h;exact bL_ob ht hr
    ·split at h
     ·rename_i r' hr;cases h;exact bM_ob ht hr
     ·split at h
      ·rename_i r' hr;cases h;exact bU_ob ht hr
      split at h
      ·rename_i r' hr;cases h;exact bN_ob ht hr
      ·refine bH_ob ht ?_ h;intro c hc;subst hc;unfold obB at ht;dsimp only at ht;split at ht
       ·assumption
       ·cases ht
end
end Go.Sx
end

section
open Go.RowKit
namespace Go.Sx
section force
variable {α:Type}
def fN (n:Nat) (k:Nat->α):α :=
 match n with
 |0=>k 0
 |m+1=>k (m+1)
def fI (n:Int) (k:Int->α):α :=
 match n with
 | .ofNat m=>fN m fun m=>k (.ofNat m)
 | .negSucc m=>fN m fun m=>k (.negSucc m)
def fB (b:Bool) (k:Bool->α):α :=
 match b with
 |true=>k true
 |false=>k false
def fL {β:Type} (f:β->(β->α)->α) (l:List β):(List β->α)->α :=
 j9 (motive:=fun _=>(List β->α)->α) (fun k=>k []) (fun x _ ih k=>f x fun x=>ih fun r=>k (x::r)) l
def fD (x:D) (k:D->α):α :=
 match x with
 | .i q n=>fI n fun n=>k (.i q n)
 | .b b=>fB b fun b=>k (.b b)
 | .f q n=>fN n fun n=>k (.f q n)
 | .s x=>k (.s x)
 | .v x=>k (.v x)
 | .z q p=>k (.z q p)
def fC (x:C) (k:C->α):α :=
 match x with
 | .d x=>fD x fun x=>k (.d x)
 | .p h i e j=>fN h fun h=>fN i fun i=>fN e fun e=>fN j fun j=>k (.p h i e j)
 | .o h=>fN h fun h=>k (.o h)
 | .fn f hs=>fL fN hs fun hs=>k (.fn f hs)
 | .g n i e j=>fN i fun i=>fN j fun j=>k (.g n i e j)
 | .fb f hs=>fL fN hs fun hs=>k (.fb f hs)
def fW (x:W) (k:W->α):α :=
 match x with
 | .c x=>fC x fun x=>k (.c x)
 | .a l=>fL fC l fun l=>k (.a l)
 | .b q e r=>fL fN r fun r=>k (.b q e r)
def fV (x:V) (k:V->α):α :=
 match x with
 | .w x=>fW x fun x=>k (.w x)
 | .t l=>fL fW l fun l=>k (.t l)
def jgz (c:Cont) (k:Cont->α):α :=
 match c with
 | .ints q l=>fL fI l fun l=>k (.ints q l)
 | .recs e l=>fL (fL fI) l fun l=>k (.recs e l)
 | .floats q l=>fL fN l fun l=>k (.floats q l)
 | .strs l=>fL (fun x k=>k x) l fun l=>k (.strs l)
 | .bools l=>fL fB l fun l=>k (.bools l)
 | .lits e l=>fL (fL fD) l fun l=>k (.lits e l)
 | .frs q e l=>fL (fL fN) l fun l=>k (.frs q e l)
def fNC (x:NC) (k:NC->α):α :=
 match x with
 | .d x=>fD x fun x=>k (.d x)
 | .r c=>jgz c fun c=>k (.r c)
def fXC (x:XC) (k:XC->α):α :=
 match x with
 | .st sh l=>fL (fL fNC) l fun l=>k (.st sh l)
 | .ii q l=>fL (fL fI) l fun l=>k (.ii q l)
 | .ff q l=>fL (fL fN) l fun l=>k (.ff q l)
 | .bb q e l=>fL (fL (fL fN)) l fun l=>k (.bb q e l)
 | .rr e l=>fL (fL (fL fI)) l fun l=>k (.rr e l)
def fO (o:O) (k:O->α):α :=
 match o with
 | .box ty cs=>fL fC cs fun cs=>k (.box ty cs)
 | .row ty c=>jgz c fun c=>k (.row ty c)
 | .ext c=>jgz c fun c=>k (.ext c)
 | .view r c f=>fN r fun r=>jgz c fun c=>fB f fun f=>k (.view r c f)
 | .dead=>k .dead
 | .nan q=>k (.nan q)
 | .ebox cs=>fL fC cs fun cs=>k (.ebox cs)
 | .arr ty q e r=>fL fN r fun r=>k (.arr ty q e r)
 | .xext x=>fXC x fun x=>k (.xext x)
 | .map es=>k (.map es)
 | .rrow c=>jgz c fun c=>k (.rrow c)
 | .fext c=>jgz c fun c=>k (.fext c)
 | .xrow ty x=>fXC x fun x=>k (.xrow ty x)
 | .mrow ty ts x ho=>fXC x fun x=>match ho with
  |none=>k (.mrow ty ts x none)
  |some p=>k (.mrow ty ts x (some p))
 | .trow ty ts x m=>fXC x fun x=>fN m fun m=>k (.trow ty ts x m)
 | .sub r i e j ty c=>fN r fun r=>fN i fun i=>fN e fun e=>fN j fun j=>jgz c fun c=>k (.sub r i e j ty c)
 | .lbox ty e n cs=>fL fC cs fun cs=>k (.lbox ty e n cs)
 | .lview r e n cs=>fN r fun r=>fL fC cs fun cs=>k (.lview r e n cs)
 | .elist e n cs=>fL fC cs fun cs=>k (.elist e n cs)
 | .err=>k .err
 | .atom=>k .atom
def fS (o:O) (k:O->α):α :=
 match o with
 | .box ty cs=>k (.box ty cs)
 | .row ty c=>k (.row ty c)
 | .ext c=>k (.ext c)
 | .view r c f=>k (.view r c f)
 | .dead=>k .dead
 | .nan q=>k (.nan q)
 | .ebox cs=>k (.ebox cs)
 | .arr ty q e r=>k (.arr ty q e r)
 | .xext x=>k (.xext x)
 | .map es=>k (.map es)
 | .rrow c=>k (.rrow c)
 | .fext c=>k (.fext c)
 | .xrow ty x=>k (.xrow ty x)
 | .mrow ty ts x ho=>k (.mrow ty ts x ho)
 | .trow ty ts x m=>k (.trow ty ts x m)
 | .sub r i e j ty c=>k (.sub r i e j ty c)
 | .lbox ty e n cs=>k (.lbox ty e n cs)
 | .lview r e n cs=>k (.lview r e n cs)
 | .elist e n cs=>k (.elist e n cs)
 | .err=>k .err
 | .atom=>k .atom
def jbJ (n:Nat) (k:Nat->α):fN n k=k n:=by cases n<;>rfl
def jo7 (n:Int) (k:Int->α):fI n k=k n:=by cases n<;>simp only[fI,jbJ]
def jxd (b:Bool) (k:Bool->α):fB b k=k b:=by cases b<;>rfl
def ja8 {β:Type} {f:β->(β->α)->α} (hf:∀x k,f x k=k x):∀(l:List β) (k:List β->α),fL f l k=k l
 |[],_=>rfl
 |x::r,k=>by
  show f x (fun x=>fL f r fun r=>k (x::r))=_
  rw[hf,ja8 hf r]
def jxe (x:D) (k:D->α):fD x k=k x:=by cases x<;>simp only[fD,jo7,jxd,jbJ]
def jxf (x:C) (k:C->α):fC x k=k x:=by cases x<;>simp only[fC,jxe,jbJ,ja8 jbJ]
def jBg (x:W) (k:W->α):fW x k=k x:=by cases x<;>simp only[fW,jxf,ja8 jxf,ja8 jbJ]
def jdi (x:V) (k:V->α):fV x k=k x:=by cases x<;>simp only[fV,jBg,ja8 jBg]
def jtr (x:Cont) (k:Cont->α):jgz x k=k x:=by
 cases x<;>simp only[jgz,ja8 jo7,ja8 (ja8 jo7),ja8 jbJ,ja8 (fun(x:ByteArray) (k:ByteArray->α)=>rfl),ja8 jxd,ja8 (ja8 jxe),ja8 (ja8 jbJ)]
def jCr (x:NC) (k:NC->α):fNC x k=k x:=by cases x<;>simp only[fNC,jxe,jtr]
def jyV (x:XC) (k:XC->α):fXC x k=k x:=by
 cases x<;>simp only[fXC,ja8 (ja8 jCr),ja8 (ja8 jo7),ja8 (ja8 jbJ),ja8 (ja8 (ja8 jbJ)),ja8 (ja8 (ja8 jo7))]
def jxg (x:O) (k:O->α):fO x k=k x:=by
 cases x with
 |mrow ty ts x ho=>cases ho<;>simp only[fO,jyV]
 |_=>simp only[fO,ja8 jxf,jtr,jbJ,jxd,ja8 jbJ,jyV]
def fS_eq (x:O) (k:O->α):fS x k=k x:=by cases x<;>rfl
def jiV:O->Bool
 | .dead=>true
 |_=>false
def hpF (live:Nat->Bool) (j seen:Nat) (hp:Hp) (k:Hp->α):α :=
 j9 (motive:=fun _=>Nat->Nat->(Hp->α)->α) (fun _ _ k=>k []) (fun x _ ih j seen k=>fN x.1 fun h=>match qT seen h with
  |true=>ih j.pred seen k
  |false=>fN (seen ||| 1 <<< h) fun seen=>match live h with
   |false=>ih j.pred seen k
   |true=>match j with
    |0=>fS x.2 fun o=>match jiV o with
     |true=>ih 0 seen k
     |false=>ih 0 seen fun r=>k ((h,o)::r)
    |j+1=>fO x.2 fun o=>match jiV o with
     |true=>ih j seen k
     |false=>ih j seen fun r=>k ((h,o)::r)) hp j seen k
def jBM {live:Nat->Bool} {j seen:Nat} {k:Hp->α}:hpF live j seen [] k=k []:=rfl
def jAl {live:Nat->Bool} {j seen h:Nat} {o:O} {r:Hp} {k:Hp->α}:hpF live j seen ((h,o)::r) k=fN h fun h=>match qT seen h with
  |true=>hpF live j.pred seen r k
  |false=>fN (seen ||| 1 <<< h) fun seen=>match live h with
   |false=>hpF live j.pred seen r k
   |true=>match j with
    |0=>fS o fun o=>match jiV o with
     |true=>hpF live 0 seen r k
     |false=>hpF live 0 seen r fun r=>k ((h,o)::r)
    |j+1=>fO o fun o=>match jiV o with
     |true=>hpF live j seen r k
     |false=>hpF live j seen r fun r=>k ((h,o)::r):=rfl
def jvW (seen h t:Nat):qT (seen ||| 1 <<< h) t=false<->qT seen t=false∧t≠h:=by
 rw[Nat.testBit_or,Nat.one_shiftLeft,Nat.testBit_two_pow];simp only[Bool.or_eq_false_iff,decide_eq_false_iff_not];exact⟨fun h=>⟨h.1,fun e=>h.2 e.symm⟩,fun h=>⟨h.1,fun e=>h.2 e.symm⟩⟩
def jg8 {live:Nat->Bool}:∀(hp:Hp) (j seen:Nat) (k:Hp->α),∃hp',hpF live j seen hp k=k hp'∧∀h o,find hp' h=some o->find hp h=some o∧qT seen h=false∧live h=true
 |[],j,seen,k=>⟨[],jBM,fun h o hf=>by cases hf⟩
 |(h0,o0)::r,j,seen,k=>by
  rw[jAl,jbJ]
  have skip:∀(j seen':Nat) (k:Hp->α),(∀t,qT seen' t=false->qT seen t=false∧t≠h0)->∃hp',hpF live j seen' r k=k hp'∧∀h o,find hp' h=some o->find ((h0,o0)::r) h=some o∧qT seen h=false∧live h=true:=by
   intro j seen' k hs;obtain⟨hp',h1,h2⟩:=jg8 r j seen' k;refine⟨hp',h1,fun h o hf=>?_⟩;obtain⟨h3,h4,h9⟩:=h2 h o hf;obtain⟨h5,h6⟩:=hs h h4;exact⟨by rw[find,if_neg (fun e=>h6 e.symm)];exact h3,h5,h9⟩
  have keep:∀(j seen':Nat),(∀t,qT seen' t=false->qT seen t=false∧t≠h0)->qT seen h0=false->live h0=true->∃hp',hpF live j seen' r (fun r=>k ((h0,o0)::r))=k hp'∧∀h o,find hp' h=some o->find ((h0,o0)::r) h=some o∧qT seen h=false∧live h=true:=by
   intro j seen' hs h0s hl0;obtain⟨hp',h1,h2⟩:=jg8 r j seen' (fun r=>k ((h0,o0)::r));refine⟨(h0,o0)::hp',h1,fun h o hf=>?_⟩;rw[find]at hf;split at hf
   ·rename_i e;subst e;cases hf;exact⟨by rw[find,if_pos rfl],h0s,hl0⟩
   ·rename_i e;obtain⟨h3,h4,h9⟩:=h2 h o hf;exact⟨by rw[find,if_neg e];exact h3,(hs h h4).1,h9⟩
  cases hs:qT seen h0 with
  |true =>
   refine skip _ _ _ fun t ht=>⟨ht,fun e=>?_⟩
   subst e;rw[ht]at hs;cases hs
  |false =>
   dsimp only;rw[jbJ];have hn:=fun t=>(jvW seen h0 t).1;cases hl0:live h0 with
   |false=>exact skip _ _ _ hn
   |true =>
    cases j with
    |zero =>
     dsimp only;rw[fS_eq];cases jiV o0 with
     |true=>exact skip _ _ _ hn
     |false=>exact keep _ _ hn hs hl0
    |succ j =>
     dsimp only;rw[jxg];cases jiV o0 with
     |true=>exact skip _ _ _ hn
     |false=>exact keep _ _ hn hs hl0
def tmF (seen:Nat) (tm:List (Nat × V)) (k:List (Nat × V)->α):α :=
 j9 (motive:=fun _=>Nat->(List (Nat × V)->α)->α) (fun _ k=>k []) (fun x _ ih seen k=>match qT seen x.1 with
  |true=>ih seen k
  |false=>fV x.2 fun v=>fN (seen ||| 1 <<< x.1) fun seen=>ih seen fun r=>k ((x.1,v)::r)) tm seen k
def jBN {seen:Nat} {k:List (Nat × V)->α}:tmF seen [] k=k []:=rfl
def jAm {seen t:Nat} {v:V} {r:List (Nat × V)} {k:List (Nat × V)->α}:tmF seen ((t,v)::r) k=match qT seen t with
  |true=>tmF seen r k
  |false=>fV v fun v=>fN (seen ||| 1 <<< t) fun seen=>tmF seen r fun r=>k ((t,v)::r):=rfl
def jnG:∀(tm:List (Nat × V)) (seen:Nat) (k:List (Nat × V)->α),∃tm',tmF seen tm k=k tm'∧∀t v,jaE tm' t=some v->jaE tm t=some v∧qT seen t=false
 |[],seen,k=>⟨[],jBN,fun h o hf=>by cases hf⟩
 |(t0,v0)::r,seen,k=>by
  rw[jAm];cases hs:qT seen t0 with
  |true =>
   obtain⟨tm',h1,h2⟩:=jnG r seen k;refine⟨tm',h1,fun t v hf=>?_⟩;obtain⟨h3,h4⟩:=h2 t v hf;refine⟨?_,h4⟩;rw[jaE,if_neg (fun e=>by subst e;rw[h4]at hs;cases hs)];exact h3
  |false =>
   dsimp only;rw[jdi,jbJ];obtain⟨tm',h1,h2⟩:=jnG r (seen ||| 1 <<< t0) (fun r=>k ((t0,v0)::r));refine⟨(t0,v0)::tm',h1,fun t v hf=>?_⟩;rw[jaE]at hf;split at hf
   ·rename_i e;subst e;cases hf;exact⟨by rw[jaE,if_pos rfl],hs⟩
   ·rename_i e;obtain⟨h3,h4⟩:=h2 t v hf;exact⟨by rw[jaE,if_neg e];exact h3,((jvW seen t0 t).1 h4).1⟩
end force
def jql (l:List (Nat × V)) (t:Nat):Option V :=
 j9 (motive:=fun _=>Option V) none (fun x _ ih=>gG (motive:=fun _=>Option V) ih (some x.2) (zt x.1 t)) l
def jiW:∀(l:List (Nat × V)) (t:Nat),jql l t=jaE l t
 |[],_=>rfl
 |(k,v)::r,t=>by
  have ih:=jiW r t;rw[jaE,<-ih]
  show gG (motive:=fun _=>Option V) (jql r t) (some v) (zt k t)=_
  cases h:zt k t with
  |true=>rw[if_pos (zb h)]
  |false=>rw[if_neg (fun e=>by subst e;rw[gd]at h;cases h)]
def jmj (l:Hp) (t:Nat):Option O :=
 j9 (motive:=fun _=>Option O) none (fun x _ ih=>gG (motive:=fun _=>Option O) ih (some x.2) (zt x.1 t)) l
def jdx:∀(l:Hp) (t:Nat),jmj l t=find l t
 |[],_=>rfl
 |(k,v)::r,t=>by
  have ih:=jdx r t;rw[find,<-ih]
  show gG (motive:=fun _=>Option O) (jmj r t) (some v) (zt k t)=_
  cases h:zt k t with
  |true=>rw[if_pos (zb h)]
  |false=>rw[if_neg (fun e=>by subst e;rw[gd]at h;cases h)]
def jlG {α:Type} (l:List α) (n:Nat):Option α :=
 j9 (motive:=fun _=>Nat->Option α) (fun _=>none) (fun x _ ih n=>match n with|0=>some x|n+1=>ih n) l n
def jes {α:Type}:∀(l:List α) (n:Nat),jlG l n=l[n]?
 |[],_=>rfl
 |x::r,0=>rfl
 |x::r,n+1=>by
  have:=jes r n
  show jlG r n=_
  rw[this];simp
def rdQ [Globs] (st:St):zH->Option V
 | .tmp t=>jql st.tm t
 | .const v=>some (.w (ofValue v))
 | .global g=>jbC st (.global g)
 | .func f=>some (.w (.c (.fn f [])))
def jyW [Globs] (st:St):rdQ st=jbC st:=by
 funext x;cases x<;>first|exact jiW _ _|rfl
def jts:List Nat->Nat
 |[]=>0
 |h::r=>1 <<< h ||| jts r
def jBh:C->Nat
 | .p h _ _ _=>1 <<< h
 | .o h=>1 <<< h
 | .fn _ hs=>jts hs
 | .fb _ hs=>jts hs
 |_=>0
def jfW:List C->Nat->Nat
 |[],m=>m
 | .d _::r,m=>jfW r m
 |c::r,m=>jfW r (jBh c ||| m)
def jBi:W->Nat->Nat
 | .c c,m=>jBh c ||| m
 | .a l,m=>jfW l m
 | .b _ _ _,m=>m
def jrT:V->Nat->Nat
 | .w u,m=>jBi u m
 | .t l,m=>l.foldl (fun m u=>jBi u m) m
def jBj:O->Nat->Nat
 | .box _ cs,m=>jfW cs m
 | .ebox cs,m=>jfW cs m
 | .lbox _ _ _ cs,m=>jfW cs m
 | .lview r _ _ cs,m=>jfW cs (1 <<< r ||| m)
 | .elist _ _ cs,m=>jfW cs m
 | .view r _ _,m=>1 <<< r ||| m
 | .sub r _ _ _ _ _,m=>1 <<< r ||| m
 |_,m=>m
def jo8 {α:Type} (n0:Nat) (hp:Hp) (m:Nat) (k:Nat->α):α :=
 j9 (motive:=fun _=>Nat->(Nat->α)->α) (fun m k=>k m) (fun x _ ih m k=>match qh x.1 n0||qT m x.1 with
  |true=>fN (jBj x.2 m) fun m=>ih m k
  |false=>ih m k) hp m k
def jxh {α:Type} {n0 h:Nat} {o:O} {r:Hp} {m:Nat} {k:Nat->α}:jo8 n0 ((h,o)::r) m k=match qh h n0||qT m h with
  |true=>fN (jBj o m) fun m=>jo8 n0 r m k
  |false=>jo8 n0 r m k:=rfl
def jiX {α:Type} (n0:Nat) (hp:Hp):Nat->Nat->(Nat->α)->α
 |0,m,k=>k m
 |n+1,m,k=>jo8 n0 hp m fun m'=>match zt m m' with
  |true=>k m'
  |false=>jiX n0 hp n m' k
def jjW {α:Type} {n0:Nat}:∀(hp:Hp) (m:Nat) (k:Nat->α),∃m',jo8 n0 hp m k=k m'
 |[],m,k=>⟨m,rfl⟩
 |(h,o)::r,m,k=>by
  rw[jxh];split
  ·rw[jbJ];exact jjW r _ k
  ·exact jjW r _ k
def jil {α:Type} {n0:Nat} {hp:Hp}:∀(n m:Nat) (k:Nat->α),∃m',jiX n0 hp n m k=k m'
 |0,m,k=>⟨m,rfl⟩
 |n+1,m,k=>by
  unfold jiX;obtain⟨m',h⟩:=jjW (n0:=n0) hp m (fun m'=>match zt m m' with|true=>k m' | false=>jiX n0 hp n m' k);rw[h];split
  ·exact⟨_,rfl⟩
  ·exact jil n m' k
end Go.Sx
end

section
open Go.RowKit
namespace Go.Sx
section
variable [Globs]
def qInt (op:BinOp) (k:IntKind) (a b:Int):Option V :=
 match op with
 | .add=>some (vi k (k.wrap (a+b)))
 | .sub=>some (vi k (k.wrap (a-b)))
 | .mul=>some (vi k (k.wrap (a*b)))
 | .eql=>some (vb (a==b))
 | .neq=>some (vb (a != b))
 | .lss=>some (vb (a<b))
 | .leq=>some (vb (a<=b))
 | .gtr=>some (vb (a>b))
 | .geq=>some (vb (a>=b))
 |_=>none
def qBin (op:BinOp) (u v:Option V):Option V :=
 match u,v with
 |some (.w (.c (.d (.i k a)))),some (.w (.c (.d (.i k' b))))=>match decide (k=k')with
  |true=>qInt op k a b
  |false=>none
 |_,_=>none
def jyX (P:zy) (s:qf) (f:Nat) (u:Option V):Option V :=
 match u with
 |some (.w (.c (.p h i e j)))=>match P.underlying s with
  |some (.struct fs)=>match jlG fs.toList f with
   |some g=>match szT P g.type with
    |some (_+1)=>some (.w (.c (.p h i e (j+g.offset))))
    |_=>none
   |none=>none
  |_=>none
 |_=>none
def qNil (u:Option V):Option V :=
 match u with
 |some (.w (.c (.p h i e j)))=>some (.w (.c (.p h i e j)))
 |_=>none
def qNot (u:Option V):Option V :=
 match u with
 |some (.w (.c (.d (.b b))))=>some (vb (!b))
 |_=>none
def jBk (P:zy) (t:qf) (hp:Hp) (u:Option V):Option V :=
 match u with
 |some (.w (.c (.p h i e j)))=>match e with
  |0=>none
  |e' + 1=>match jbj P t with
   |some false=>match szT P t with
    |some _=>match jmj hp h with
     |some (.box _ cs)=>match jlG cs (i*(e' + 1)+j)with
      |some c=>some (.w (.c c))
      |none=>none
     |some (.ebox cs)=>match jlG cs (i*(e' + 1)+j)with
      |some c=>some (.w (.c c))
      |none=>none
     |some (.row _ (.ints k l))=>match zt (e' + 1) 1,zt j 0,qh i l.length with
      |true,true,true=>some (vi k (l.getD i 0))
      |_,_,_=>none
     |some (.ext (.ints k l))=>match zt (e' + 1) 1,zt j 0,qh i l.length with
      |true,true,true=>some (vi k (l.getD i 0))
      |_,_,_=>none
     |some (.row _ (.bools l))=>match zt (e' + 1) 1,zt j 0,qh i l.length with
      |true,true,true=>some (vb (l.getD i false))
      |_,_,_=>none
     |some (.ext (.bools l))=>match zt (e' + 1) 1,zt j 0,qh i l.length with
      |true,true,true=>some (vb (l.getD i false))
      |_,_,_=>none
     |_=>none
    |none=>none
   |_=>none
 |_=>none
def jBl (c a b:Option V):Option V :=
 match c with
 |some (.w (.c (.d (.b true))))=>a
 |some (.w (.c (.d (.b false))))=>b
 |_=>none
def qExt (u:Option V) (i:Nat):Option V :=
 match u with
 |some (.t l)=>match jlG l i with
  |some x=>some (.w x)
  |none=>none
 |_=>none
def qFld (P:zy) (t:qf) (f:Nat) (u:Option V):Option V :=
 match u with
 |some (.w (.a cs))=>match P.underlying t with
  |some (.struct fs)=>match jlG fs.toList f with
   |some g=>jbZ P g.type cs g.offset
   |none=>none
  |_=>none
 |_=>none
def qIdx (P:zy) (t:qf) (hp:Hp) (u i:Option V):Option V :=
 match i with
 |some (.w (.c (.d (.i _ n))))=>match u with
  |some (.w (.c (.o h)))=>match P.underlying t with
   |some (.slice elem)=>match(jmj hp h).bind O.cont with
    |some c=>match szT P elem with
     |some size=>match decide (size=c.e),decide (0<=n∧n<(c.n:Int))with
      |true,true=>some (.w (.c (.p h n.toNat c.e 0)))
      |_,_=>none
     |none=>none
    |none=>none
   |_=>none
  |_=>none
 |_=>none
def qStr (P:zy) (t:qf) (u i:Option V):Option V :=
 match u with
 |some (.w (.c (.d (.s s))))=>match i with
  |some (.w (.c (.d (.i _ n))))=>match P.underlying t with
   |some .string=>match decide (0<=n∧n<(s.size:Int))with
    |true=>some (vi .u8 ((s.data.getD n.toNat 0).toNat:Int))
    |false=>none
   |_=>none
  |_=>none
 |_=>none
def qLen (P:zy) (t:qf) (hp:Hp) (u:Option V):Option V :=
 match P.underlying t with
 |some (.slice _)=>match u with
  |some (.w (.c (.o h)))=>match(jmj hp h).bind O.cont with
   |some c=>some (vi .i64 (c.n:Int))
   |none=>none
  |some (.w (.c (.d (.v (.slice none 0 0)))))=>some (vi .i64 0)
  |_=>none
 |some .string=>match u with
  |some (.w (.c (.d (.s s))))=>some (vi .i64 (s.size:Int))
  |_=>none
 |_=>none
def jBm (P:zy) (c:Call) (rd:zH->Option V) (hp:Hp):Option V :=
 match c.callee with
 | .builtin .len=>match c.args.toList with
  |[x]=>match c.argTypes.toList with
   |[t]=>qLen P t hp (rd x)
   |_=>none
  |_=>none
 |_=>none
def qV (P:zy) (op:Op) (rd:zH->Option V) (hp:Hp):Option V :=
 match op with
 | .move x=>rd x
 | .assign x=>rd x
 | .binOp o _ x y _=>qBin o (rd x) (rd y)
 | .fieldAddr s x f=>jyX P s f (rd x)
 | .nilCheck x=>qNil (rd x)
 | .unOp .not _ x=>qNot (rd x)
 | .load t x=>jBk P t hp (rd x)
 | .pick c a b=>jBl (rd c) (rd a) (rd b)
 | .extract t i=>qExt (rd t) i
 | .field t x f=>qFld P t f (rd x)
 | .indexAddr t x ix=>qIdx P t hp (rd x) (rd ix)
 | .index t x i=>qStr P t (rd x) (rd i)
 | .call c=>jBm P c rd hp
 |_=>none
def jqm {P:zy} {sp:jaa} {op:Op} {rd:zH->Option V} {hp:Hp} {nx:Nat} {v:V} (h:qV P op rd hp=some v) :
  jgm P sp op rd hp nx=none∧∃ob,ja4 P op rd hp=some (ob,v)∧ob:=by
 have lift:(∃ob,ja3 P op rd hp=some (ob,v)∧ob)->∃ob,ja4 P op rd hp=some (ob,v)∧ob:=by
  rintro ⟨ob,h1,h2⟩;exact⟨ob,by unfold ja4;rw[h1],h2⟩
 unfold qV at h;split at h
 ·rename_i x;exact⟨rfl,lift ⟨True,by simp[ja3,h],trivial⟩⟩
 ·rename_i x;exact⟨rfl,lift ⟨True,by simp[ja3,h],trivial⟩⟩
 ·rename_i o t x y yt;unfold qBin at h;split at h
  ·rename_i k a k' b hx hy;split at h
   ·rename_i hk;have hk:=of_decide_eq_true hk;subst hk;refine⟨by simp[jgm,hx,hy],lift ?_⟩;unfold qInt at h;simp only[ja3,hx,hy,V.int?,jfJ];split at h<;>cases h<;>exact⟨_,rfl,trivial⟩
   ·cases h
  ·cases h
 ·rename_i s x f;unfold jyX at h
  try simp only[jdx,jes]at h
  split at h
  ·rename_i k i e j hx;split at h
   ·rename_i fs hu;split at h
    ·rename_i g hg;split at h
     ·rename_i sz hs;cases h;exact⟨rfl,lift ⟨True,by simp only[ja3,hu,hx,hg,hs],trivial⟩⟩
     ·cases h
    ·cases h
   ·cases h
  ·cases h
 ·rename_i x;unfold qNil at h;split at h
  ·rename_i hx;cases h;exact⟨rfl,lift ⟨True,by simp only[ja3,hx],trivial⟩⟩
  ·cases h
 ·rename_i t x;unfold qNot at h;split at h
  ·rename_i b hx;cases h;exact⟨rfl,lift ⟨True,by simp[ja3,hx,V.bool?],trivial⟩⟩
  ·cases h
 ·rename_i t x;unfold jBk at h
  try simp only[jdx,jes]at h
  split at h
  ·rename_i k i e j hx;split at h
   ·cases h
   ·rename_i e';split at h
    ·rename_i hag;split at h
     ·rename_i sz hs;split at h
      ·rename_i ty cs hf;split at h
       ·rename_i c hc;cases h;exact⟨rfl,lift ⟨True,by simp[ja3,hx,hf,jdd,hag,hs,jet,hc],trivial⟩⟩
       ·cases h
      ·rename_i cs hf;split at h
       ·rename_i c hc;cases h;exact⟨rfl,lift ⟨True,by simp[ja3,hx,hf,jdd,hag,hs,jet,hc],trivial⟩⟩
       ·cases h
      all_goals first
       |(cases h;done)
       |(
         rename_i hf;split at h
         ·rename_i e1 e2 e3;have e1:=zb e1;have e2:=zb e2;have e3:=of_decide_eq_true (show decide _=true from by simpa using e3);cases h;obtain rfl:e'=0:=by omega
          subst e2;exact⟨rfl,lift ⟨_,by simp[ja3,hx,hf,jdd,hag,hs,O.cont,Cont.e,Cont.n,Cont.cell,vi,vb],e3⟩⟩
         ·cases h)
     ·cases h
    ·cases h
  ·cases h
 ·rename_i c x y;unfold jBl at h;split at h
  ·rename_i hc;exact⟨rfl,lift ⟨True,by simp[ja3,hc,V.bool?,h],trivial⟩⟩
  ·rename_i hc;exact⟨rfl,lift ⟨True,by simp[ja3,hc,V.bool?,h],trivial⟩⟩
  ·cases h
 ·rename_i t i;unfold qExt at h
  try simp only[jdx,jes]at h
  split at h
  ·rename_i l ht;split at h
   ·rename_i x hx;cases h;exact⟨rfl,lift ⟨True,by simp[ja3,ht,hx],trivial⟩⟩
   ·cases h
  ·cases h
 ·rename_i t x f;unfold qFld at h
  try simp only[jdx,jes]at h
  split at h
  ·rename_i cs hx;split at h
   ·rename_i fs hu;split at h
    ·rename_i g hg;exact⟨rfl,lift ⟨True,by simp[ja3,hx,hu,hg,V.agg?,h],trivial⟩⟩
    ·cases h
   ·cases h
  ·cases h
 ·rename_i t x ix;unfold qIdx at h
  try simp only[jdx,jes]at h
  split at h
  ·rename_i k n hi;split at h
   ·rename_i h' hx;split at h
    ·rename_i elem hu;split at h
     ·rename_i c hc;split at h
      ·rename_i size hs;split at h
       ·rename_i e1 e2;have e1:=of_decide_eq_true e1;have e2:=of_decide_eq_true e2;cases h;exact⟨rfl,lift ⟨_,by simp[ja3,hx,hi,hu,hc,hs,V.int?,e1],e2⟩⟩
       ·cases h
      ·cases h
     ·cases h
    ·cases h
   ·cases h
  ·cases h
 ·rename_i t x i;unfold qStr at h;split at h
  ·rename_i s hx;split at h
   ·rename_i k n hi;split at h
    ·rename_i hu;split at h
     ·rename_i e2;have e2:=of_decide_eq_true e2;cases h;exact⟨rfl,lift ⟨_,by simp[ja3,hx,hi,hu,V.int?,V.str?],e2⟩⟩
     ·cases h
    ·cases h
   ·cases h
  ·cases h
 ·rename_i c;unfold jBm at h;split at h
  ·rename_i hc;split at h
   ·rename_i x ha;split at h
    ·rename_i t hat;refine⟨by simp[jgm,hc],lift ?_⟩;unfold qLen at h
     try simp only[jdx,jes]at h
     simp only[ja3,hc,ha,hat];split at h
     ·rename_i el hu;split at h
      ·rename_i h' hx;split at h
       ·rename_i c' hcc;cases h;exact⟨True,by simp[hu,hx,hcc],trivial⟩
       ·cases h
      ·rename_i hx;cases h;exact⟨True,by simp[hu,hx,V.nils?],trivial⟩
      ·cases h
     ·rename_i hu;split at h
      ·rename_i s hx;cases h;exact⟨True,by simp[hu,hx,V.str?],trivial⟩
      ·cases h
     ·cases h
    ·cases h
   ·cases h
  ·cases h
 ·cases h
end
end Go.Sx
end

section
open Go.RowKit
namespace Go.Sx
def stF {α:Type} (j:Nat) (st:St) (k:St->α):α :=
 hpF (fun _=>true) j 0 st.hp fun hp=>fN st.nx fun nx=>k ⟨st.tm,hp,nx⟩
def stG {α:Type} (st:St) (k:St->α):α :=
 tmF 0 st.tm fun tm=>fN st.nx fun nx=>k ⟨tm,st.hp,nx⟩
def jnH {α:Type} (tm:List (Nat × V)) (hp:Hp) (nx:Nat) (k:St->α):α :=
 match hp with
 |(h,o)::r=>fO o fun o=>fN nx fun nx=>k ⟨tm,(h,o)::r,nx⟩
 |[]=>fN nx fun nx=>k ⟨tm,[],nx⟩
def jqn {α:Type} (o:zX) (r:Res) (st:St) (k:St->α):α :=
 fV r.v fun v=>putG o.op (st.put o.dst ⟨True,v,r.hp,r.nx⟩) k
where
 putG (op:Op) (st:St) (k:St->α):α :=
  match op with
  | .store _ _ _=>stF 1 st k
  | .call c=>match c.callee with
   | .value _=>fN st.nx fun nx=>k ⟨st.tm,st.hp,nx⟩
   | .builtin .append=>stF 2 st k
   |_=>k st
  | .box _ _=>jnH st.tm st.hp st.nx k
  | .alloc _=>jnH st.tm st.hp st.nx k
  | .makeSlice _ _ _=>jnH st.tm st.hp st.nx k
  | .buildSlice _ _ _=>jnH st.tm st.hp st.nx k
  | .slice _ _ _ _ _=>jnH st.tm st.hp st.nx k
  |_=>k st
def cOp [Globs] (P:zy) (sp:jaa) (N:Nat) (o:zX) (st:St):Option St :=
 match jb0 N o.dst with
 |false=>none
 |true =>
  match qV P o.op (rdQ st) st.hp with
  |some v=>fV v fun v=>some (st.put o.dst ⟨True,v,st.hp,st.nx⟩)
  |none=>match jgm P sp o.op (rdQ st) st.hp st.nx with
   |some t=>jqn o t.sel st some
   |none=>match step P sp o.op (rdQ st) st.hp st.nx with
    |some r=>match ja7 o.op (rdQ st) st.hp,obB P o.op (rdQ st) st.hp with
     |true,_=>jqn o r st some
     |false,true=>jqn o r st some
     |false,false=>none
    |none=>none
def jo9 (N:Nat) (o:zX) (st:St):Option St :=
 match jb0 N o.dst with
 |true=>some (st.put o.dst ⟨True,vu,st.hp,st.nx⟩)
 |false=>none
def cOne [Globs] (P:zy) (sp:jaa) (N:Nat) (all:List zX) (o:zX) (st:St):Option St :=
 match o.guard with
 |none=>cOp P sp N o st
 |some (j,want) =>
  match(jlG all j).bind (·.dst)with
  |none=>none
  |some t=>match jql st.tm t with
   |some (.w (.c (.d (.b b))))=>match b,want with
    |true,true=>cOp P sp N o st
    |false,false=>cOp P sp N o st
    |true,false=>jo9 N o st
    |false,true=>jo9 N o st
   |some (.w (.c (.d (.v (.tuple _)))))=>jo9 N o st
   |_=>none
def cOps [Globs] (P:zy) (sp:jaa) (N:Nat) (all:List zX) (l:List zX) (st:St):Option St :=
 j9 (motive:=fun _=>St->Option St) (fun st=>some st) (fun o _ ih st=>kO (motive:=fun _=>Option St) none (fun st'=>ih st') (cOne P sp N all o st)) l st
def obC [Globs] (P:zy) (op:Op) (rd:zH->Option V) (hp:Hp) (r:Rec):Option Rec :=
 match ja7 op rd hp,obB P op rd hp with
 |true,_=>fV r.v fun v=>some { r with v:=v }
 |false,true=>fV r.v fun v=>some { r with v:=v }
 |false,false=>none
def jfD (q:Nat->Bool) (st0:St) (tr:List Rec) (h:Nat):Bool :=
 j9 (motive:=fun _=>Bool) true (fun _ tr ih=>gG (motive:=fun _=>Bool) ih (q tr.length) (qn (jab st0 tr) h)) tr
def jg9 (q:Nat->Bool) (st0:St):∀(tr:List Rec) (h:Nat),jfD q st0 tr h=jas q st0 tr h
 |[],_=>rfl
 |_::tr,h=>by
  have ih:=jg9 q st0 tr h;simp only[jas,<-ih]
  show gG (motive:=fun _=>Bool) (jfD q st0 tr h) (q tr.length) (qn (jab st0 tr) h)=_
  cases qn (jab st0 tr) h<;>rfl
def jdQ (bef:List Nat) (st0:St) (tr:List Rec) (v:V) (hp:Hp) (nx:Nat):Bool :=
 qn (jab st0 tr) nx&&v.allB (fun h=>qh h nx&&(qn (jab st0 tr) h||jfD (fun j=>bef.contains j) st0 tr h)) &&
  hp.all (fun x=>qh x.1 nx&&x.2.allB fun h=>qh h nx&&(qn (jab st0 tr) h||jfD (fun j=>bef.contains j) st0 tr h))
def jlH (bef:List Nat) (st0:St) (tr:List Rec) (v:V) (hp:Hp) (nx:Nat):jdQ bef st0 tr v hp nx=ja5 bef st0 tr v hp nx:=by
 unfold jdQ ja5;rw[show jfD (fun j=>bef.contains j) st0 tr=jas (fun j=>bef.contains j) st0 tr from funext (jg9 _ _ tr)]
def jmk (bef:List Nat) (st0:St) (tr:List Rec):Hp :=
 match jdg bef tr with
 |true=>(jan st0 tr).filter fun x=>jfD (fun j=>bef.contains j) st0 tr x.1
 |false=>(jan st0 tr).filter fun x=>jfD (fun j=>bef.contains j) st0 tr x.1&&jbE st0 bef x.1 tr
def jAn (bef:List Nat) (st0:St) (tr:List Rec):jmk bef st0 tr=jdq bef st0 tr:=by
 unfold jmk jdq;rw[show jfD (fun j=>bef.contains j) st0 tr=jas (fun j=>bef.contains j) st0 tr from funext (jg9 _ _ tr)];cases jdg bef tr<;>rfl
def jrU (L:List zX) (t:Nat):Nat->Option Nat
 |0=>none
 |i+1=>match jbT L i with
  |some d=>if d=t then some i else jrU L t i
  |none=>jrU L t i
def jeJ (L:List zX) (bef:List Nat) (i t:Nat):Bool :=
 match jrU L t i with
 |some j=>bef.contains j
 |none=>true
def jiY (L:List zX) (tab:List (List Nat)):Nat->List zX->Bool
 |_,[]=>true
 |i,o::r=>(jaq L o).all (fun t=>jeJ L (tab.getD i []) i t)&&jiY L tab (i+1) r
def rdF [Globs] (st0:St) (nm:List Nat) (tm:List (Nat × V)):zH->Option V
 | .tmp t=>match nm.contains t with
  |true=>jql tm t
  |false=>none
 |x=>jbC st0 x
def mkF [Globs] (L:List zX) (tab:List (List Nat)) (st0:St) (o:zX) (n:Nat) (tr:List Rec):Option Bool :=
 match ja9 tab n false false 0 L with
 |true=>some false
 |false=>jpT L tab st0 o tr
def jxk (P:zy) (op:Op) (rd:zH->Option V) (bef:List Nat) (st0:St) (tr:List Rec):Option Rec :=
 match qLoadOp op with
 |true=>match loadAt op rd with
  |none=>none
  |some h=>match jmj (jan st0 tr) h with
   |none=>none
   |some x=>match jfD (fun j=>bef.contains j) st0 tr h&&jbE st0 bef h tr with
    |false=>none
    |true=>match qV P op rd [(h,x)]with
     |some v=>fV v fun v=>match jdQ bef st0 tr v [] (jab st0 tr)with
      |true=>some ⟨v,jan st0 tr,jab st0 tr,0,[],none⟩
      |false=>none
     |none=>none
 |false=>none
where
 qLoadOp:Op->Bool
  | .load _ _=>true
  | .indexAddr _ _ _=>true
  | .call c=>match c.callee with
   | .builtin .len=>true
   |_=>false
  |_=>false
def qdop (P:zy) (op:Op) (rd:zH->Option V) (hp:Hp) (bef:List Nat) (st0:St) (tr:List Rec):Option Rec :=
 match qV P op rd hp with
 |some v=>fV v fun v=>match jdQ bef st0 tr v [] (jab st0 tr)with
  |true=>some ⟨v,jan st0 tr,jab st0 tr,0,[],none⟩
  |false=>none
 |none=>none
def jnI [Globs] (P:zy) (sp:jaa) (N:Nat) (L:List zX) (tab:List (List Nat)) (st0:St) (o:zX) (n:Nat) (bef:List Nat) (rd:zH->Option V) (tr:List Rec):Option Rec :=
 match jb0 N o.dst with
 |false=>none
 |true =>
  match qdop P o.op rd [] bef st0 tr with
  |some r=>some r
  |none =>
  match ja4 P o.op rd []with
  |some (_,v)=>match jdQ bef st0 tr v [] (jab st0 tr)with
   |true=>obC P o.op rd [] ⟨v,jan st0 tr,jab st0 tr,0,[],none⟩
   |false=>none
  |none =>
   match jaA o.op with
   |true=>match jkW o.op with
    |true=>match ja4 P o.op rd (jfP bef st0 tr)with
     |some (_,v)=>match jdQ bef st0 tr v [] (jab st0 tr)with
      |true=>obC P o.op rd (jfP bef st0 tr) ⟨v,jan st0 tr,jab st0 tr,0,[],none⟩
      |false=>none
     |none=>none
    |false=>none
   |false =>
    match jaH o.op with
    |true=>match jxk P o.op rd bef st0 tr with
     |some r=>some r
     |none=>match loadAt o.op rd with
     |none=>none
     |some h=>match find (jan st0 tr) h with
      |none=>none
      |some x=>match jfD (fun j=>bef.contains j) st0 tr h&&jbE st0 bef h tr with
       |false=>none
       |true=>match ja4 P o.op rd [(h,x)]with
        |none=>match jfw tab n 0 L&&jdg bef tr&&jam sp o.op rd with
         |false=>none
         |true=>match step P sp o.op rd (jmk bef st0 tr) (jab st0 tr)with
          |some res=>match jdQ bef st0 tr res.v (jaZ (jab st0 tr) res.hp) res.nx with
           |true=>obCall P sp o.op rd (jmk bef st0 tr) ⟨res.v,jaZ (jab st0 tr) res.hp++jan st0 tr,res.nx,1,jaZ (jab st0 tr) res.hp,none⟩
           |false=>none
          |none=>none
        |some (_,v)=>match jdQ bef st0 tr v [] (jab st0 tr)with
         |true=>obC P o.op rd [(h,x)] ⟨v,jan st0 tr,jab st0 tr,0,[],none⟩
         |false=>none
    |false =>
    match jam sp o.op rd with
    |true=>match step P sp o.op rd (jmk bef st0 tr) (jab st0 tr)with
     |some res=>match jdQ bef st0 tr res.v (jaZ (jab st0 tr) res.hp) res.nx&&joA bef tr (jaZ (jab st0 tr) res.hp)with
      |true=>obCall P sp o.op rd (jmk bef st0 tr) ⟨res.v,jaZ (jab st0 tr) res.hp++jan st0 tr,res.nx,1,jaZ (jab st0 tr) res.hp,none⟩
      |false=>none
     |none=>none
    |false=>match mkF L tab st0 o n tr with
     |none=>none
     |some mk=>match step P sp o.op rd (jan st0 tr) (jab st0 tr)with
      |some res=>match jdQ bef st0 tr res.v res.hp res.nx&&jpU L tab st0 o tr mk res.hp with
       |true=>obCall P sp o.op rd (jan st0 tr) ⟨res.v,res.hp,res.nx,2,[],jbK L tab st0 o tr⟩
       |false=>none
      |none=>none
where
 obCall [Globs] (P:zy) (sp:jaa) (op:Op) (rd:zH->Option V) (hp:Hp) (r:Rec):Option Rec :=
  match op with
  | .call c=>match c.callee with
   | .value _=>fV r.v fun v=>some { r with v:=v }
   |_=>obC P op rd hp r
  |op=>obC P op rd hp r
def jlI (N:Nat) (st0:St) (o:zX) (tr:List Rec):Option Rec :=
 match jb0 N o.dst with
 |false=>none
 |true=>some ⟨vu,jan st0 tr,jab st0 tr,0,[],none⟩
def jjX (o:zX) (r:Rec) (tm:List (Nat × V)):List (Nat × V) :=
 match o.dst with
 |some d=>(d,r.v)::tm
 |none=>tm
def jeK [Globs] (P:zy) (sp:jaa) (N:Nat) (L:List zX) (tab:List (List Nat)) (st0:St):List zX->Nat->List (Nat × V)->List Rec->Option (List (Nat × V) × List Rec)
 |[],_,tm,tr=>some (tm,tr)
 |o::rest,n,tm,tr =>
  match o.guard with
  |none=>match jnI P sp N L tab st0 o n (tab.getD n []) (rdF st0 (jaq L o) tm) tr with
   |some r=>jeK P sp N L tab st0 rest (n+1) (jjX o r tm) (r::tr)
   |none=>none
  |some (g,want) =>
   match jbT L g with
   |none=>none
   |some t =>
    match jql tm t with
    |some (.w (.c (.d (.b b)))) =>
     match b,want with
     |true,true=>match jnI P sp N L tab st0 o n (tab.getD n []) (rdF st0 (jaq L o) tm) tr with
      |some r=>jeK P sp N L tab st0 rest (n+1) (jjX o r tm) (r::tr)
      |none=>none
     |true,false=>match jlI N st0 o tr with
      |some r=>jeK P sp N L tab st0 rest (n+1) (jjX o r tm) (r::tr)
      |none=>none
     |false,true=>match jlI N st0 o tr with
      |some r=>jeK P sp N L tab st0 rest (n+1) (jjX o r tm) (r::tr)
      |none=>none
     |false,false=>match jnI P sp N L tab st0 o n (tab.getD n []) (rdF st0 (jaq L o) tm) tr with
      |some r=>jeK P sp N L tab st0 rest (n+1) (jjX o r tm) (r::tr)
      |none=>none
    |some (.w (.c (.d (.v (.tuple _)))))=>match jlI N st0 o tr with
     |some r=>jeK P sp N L tab st0 rest (n+1) (jjX o r tm) (r::tr)
     |none=>none
    |_=>none
def jyY [Globs] (P:zy) (sp:jaa) (N:Nat) (ops:Array zX) (st:St):Option St :=
 match jcq ops.toList (jgU ops.toList []) 0 ops.toList&&jdB 0 ops.toList&&jiY ops.toList (jgU ops.toList []) 0 ops.toList with
 |true=>match jeK P sp N ops.toList (jgU ops.toList []) st ops.toList 0 st.tm []with
  |some (tm,tr)=>some ⟨tm,jan st tr,jab st tr⟩
  |none=>none
 |false=>none
def jxl [Globs] (P:zy) (sp:jaa) (N:Nat) (ops:Array zX) (st:St):Option St :=
 match jsG ops.toList with
 |[]=>jyY P sp N ops st
 |_::_=>none
def jpa (body:St->Option (Ex × St)) (n:Nat) (st:St):Option (Ex × St) :=
 Nat.rec (motive:=fun _=>St->Option (Ex × St)) (fun _=>none) (fun _ ih st=>match body st with
  |some (.normal,st')=>stG st' fun st'=>ih st'
  |x=>x) n st
def jxm [Globs] (P:zy) (sp:jaa) (N:Nat) (ops:Array zX) (draw:Bool) (st:St):Option (Ex × St) :=
 match draw with
 |false=>match cOps P sp N ops.toList ops.toList st with
  |some st'=>some (.normal,st')
  |none=>none
 |true=>match jxl P sp N ops st with
  |some st'=>stF 3 st' fun st'=>some (.normal,st')
  |none=>none
def jcW (r:Option (Ex × St)) (y:St->Option (Ex × St)):Option (Ex × St) :=
 match r with
 |some (.normal,st')=>y st'
 |x=>x
def jtt [Globs] (c:zH) (x y:St->Option (Ex × St)) (st:St):Option (Ex × St) :=
 match rdQ st c with
 |some (.w (.c (.d (.b true))))=>x st
 |some (.w (.c (.d (.b false))))=>y st
 |_=>none
def jqo (id:Nat) (r:Option (Ex × St)):Option (Ex × St) :=
 match r with
 |some (.exit j,st')=>match zt j id with
  |true=>some (.normal,st')
  |false=>some (.exit j,st')
 |x=>x
def cx [Globs] (P:zy) (sp:jaa) (N fuel:Nat) (c:yb):St->Option (Ex × St) :=
 Code.rec (motive:=fun _=>St->Option (Ex × St)) (fun st=>some (.normal,st)) (fun _ ops draw st=>jxm P sp N ops draw st)
  (fun _ _ x y st=>jcW (x st) y) (fun c _ _ x y st=>jtt c x y st) (fun id _ x st=>jqo id (x st)) (fun _ x st=>jpa x fuel st)
  (fun _ _ _ _ _ _ _=>none) (fun id st=>some (.exit id,st)) (fun _ _ _=>none) (fun _ st=>some (.normal,st)) (fun _ _=>none) (fun st=>some (.ret,st)) (fun _ _=>none) c
def jqp (P:zy) (st:St):jc->Option W
 | .tmp t=>match jaE st.tm t with
  |some (.w u)=>some u
  |_=>none
 | .cell t ty=>match jaE st.tm t with
  |some (.w (.c (.p h i e j)))=>match find st.hp h with
   |some o=>match jdd P ty o i e j,jxc P ty o i e j with
    |some (_,.w u),true=>some u
    |_,_=>none
   |none=>none
  |_=>none
def jdH (P:zy) (st:St):List jc->Option (List W)
 |[]=>some []
 |r::rs=>match jqp P st r,jdH P st rs with
  |some x,some l=>some (x::l)
  |_,_=>none
def outF {α:Type} (n0:Nat) (v:V) (st:St) (k:Hp->α):α :=
 jiX n0 st.hp 6 (jrT v 0) fun m=>hpF (fun h=>qh h n0||qT m h) 0 0 st.hp k
def jha (hp:Hp) (v:V):V :=
 match v with
 | .w (.c (.o h))=>match find hp h with
  |some (.box _ _)=>.w (.c (.p h 0 1 0))
  |some (.ebox _)=>.w (.c (.p h 0 1 0))
  |some (.arr _ _ _ _)=>.w (.c (.p h 0 1 0))
  |_=>.w (.c (.o h))
 |v=>v
def inl [Globs] (P:zy) (sp:jaa) (fn:jQ) (body:yb) (fuel:Nat):Spec:=fun args hp nx =>
 match qn args.length fn.ntmps with
 |false=>none
 |true=>match cx P sp fn.ntmps fuel body ⟨jbO 0 (args.map (jha hp)),hp,nx⟩with
  |some (e,st)=>match e with
   | .exit _=>none
   |_=>match jdH P st fn.results.toList,qn nx st.nx with
    |some l,true=>fV (ja0 l) fun v=>outF nx v st fun hp'=>some (.leaf ⟨True,v,hp',st.nx⟩)
    |_,_=>none
  |none=>none
def roO:O->O
 | .row _ c=>extR c
 | .ext c=>extR c
 | .view _ c _=>extR c
 | .rrow c=>extR c
 | .fext c=>extR c
 | .sub _ _ _ _ _ c=>extR c
 | .box _ cs=>.ebox cs
 | .ebox cs=>.ebox cs
 | .lbox _ e n cs=>lstR e n cs
 | .lview _ e n cs=>lstR e n cs
 | .elist e n cs=>.elist e n cs
 | .xext x=>.xext x
 |_=>.dead
where
 extR (c:Cont):O:=match c.e with
  |0=>.dead
  |_+1=>.ext c
 lstR (e n:Nat) (cs:List C):O:=match e with
  |0=>.dead
  |e+1=>.elist (e+1) n cs
def jgb (hp:Hp):Hp:=hp.map fun x=>(x.1,roO x.2)
def outN {α:Type} (n0:Nat) (v:V) (st:St) (k:Hp->α):α :=
 jiX n0 st.hp 6 (jrT v 0) fun m=>hpF (fun h=>qn n0 h&&qT m h) 0 0 st.hp k
def jtu (v:V) (hp:Hp) (nx:Nat) (hp':Hp):Option RT :=
 match hp'.all (fun x=>je3 x.2)with
 |true=>some (.leaf ⟨True,v,hp' ++ hp,nx⟩)
 |false=>none
def jtv [Globs] (P:zy) (sp:jaa) (fn:jQ) (body:yb) (fuel:Nat):Spec:=fun args hp nx =>
 match qn args.length fn.ntmps with
 |false=>none
 |true=>match cx P sp fn.ntmps fuel body ⟨jbO 0 (args.map (jha hp)),jgb hp,nx⟩with
  |some (e,st)=>match e with
   | .exit _=>none
   |_=>match jdH P st fn.results.toList,qn nx st.nx with
    |some l,true=>fV (ja0 l) fun v=>outN nx v st (jtu v hp st.nx)
    |_,_=>none
  |none=>none
def jnJ [Globs] (P:zy) (ov:jaa) (ro:Nat->Bool) (fuel:Nat):Nat->jaa
 |0=>fun _=>none
 |n+1=>fun f=>match ov f with
  |some x=>some x
  |none=>match P.funcs[f]? with
   |some fn=>match fn.body,fn.name == "runtime.NumGoroutine" with
    |some body,false=>match ro f with
     |true=>some (true,jtv P (jnJ P ov ro fuel n) fn body fuel)
     |false=>some (false,inl P (jnJ P ov ro fuel n) fn body fuel)
    |_,_=>none
   |none=>none
end Go.Sx
end

section
open Go.RowKit
namespace Go.Sx
structure SubSt (s s0:St):Prop where
 tm:∀t v,jaE s.tm t=some v->jaE s0.tm t=some v
 hp:∀h o,find s.hp h=some o->find s0.hp h=some o
 nx:s.nx=s0.nx
def SubSt.refl (s:St):SubSt s s:=⟨fun _ _ h=>h,fun _ _ h=>h,rfl⟩
def SubSt.trans {a b c:St} (h:SubSt a b) (k:SubSt b c):SubSt a c:=⟨fun t v x=>k.tm t v (h.tm t v x),fun t v x=>k.hp t v (h.hp t v x),h.nx.trans k.nx⟩
def jnK {α:Type} (j:Nat) (st:St) (k:St->α):∃s,stF j st k=k s∧SubSt s st:=by
 unfold stF;obtain⟨hp',h1,h2⟩:=jg8 (live:=fun _=>true) st.hp j 0 (fun hp=>fN st.nx fun nx=>k ⟨st.tm,hp,nx⟩);exact⟨⟨st.tm,hp',st.nx⟩,by rw[h1,jbJ],fun _ _ h=>h,fun h o hf=>(h2 h o hf).1,rfl⟩
def jAq {α:Type} (st:St) (k:St->α):∃s,stG st k=k s∧SubSt s st:=by
 unfold stG;obtain⟨tm',h1,h2⟩:=jnG st.tm 0 (fun tm=>fN st.nx fun nx=>k ⟨tm,st.hp,nx⟩);exact⟨⟨tm',st.hp,st.nx⟩,by rw[h1,jbJ],fun t v hf=>(h2 t v hf).1,fun _ _ h=>h,rfl⟩
def jfX {α:Type} (tm:List (Nat × V)) (hp:Hp) (nx:Nat) (k:St->α):jnH tm hp nx k=k ⟨tm,hp,nx⟩:=by
 unfold jnH;cases hp with
 |nil=>exact jbJ _ _
 |cons x r =>
  obtain⟨h,o⟩:=x
  show fO o _=_
  rw[jxg,jbJ]
def jq1 {α:Type} (o:zX) (r:Res) (st:St) (k:St->α):∃s,jqn o r st k=k s∧SubSt s (st.put o.dst r):=by
 have e:st.put o.dst ⟨True,r.v,r.hp,r.nx⟩=st.put o.dst r:=by cases o.dst<;>rfl
 unfold jqn;rw[jdi,e];unfold jqn.putG;split
 ·exact jnK _ _ _
 ·split
  ·rw[jbJ];exact⟨_,rfl,SubSt.refl _⟩
  ·exact jnK _ _ _
  ·exact⟨_,rfl,SubSt.refl _⟩
 ·exact⟨_,jfX _ _ _ _,SubSt.refl _⟩
 ·exact⟨_,jfX _ _ _ _,SubSt.refl _⟩
 ·exact⟨_,jfX _ _ _ _,SubSt.refl _⟩
 ·exact⟨_,jfX _ _ _ _,SubSt.refl _⟩
 ·exact⟨_,jfX _ _ _ _,SubSt.refl _⟩
 ·exact⟨_,rfl,SubSt.refl _⟩
def jbY (sp:jaa):Prop:=∀f M S args hp nx t,sp f=some (M,S)->S args hp nx=some t->t.sel.ob
section
variable [Globs] {P:zy} {B:Kd} {N n0:Nat} {sp:jaa} {U U0:Env} {w w0:zx} {a:Act} {st:St} {ds:List x7}
def RelD.subSt {s:St} (h:RelD ds U B N n0 st a w) (hs:SubSt s st):RelD ds U B N n0 s a w:=by
 obtain⟨B1,g,hh⟩:=h.heap;refine⟨fun t v hv=>?_,h.size,h.defers,⟨B1,g,?_⟩,h.le,by rw[hs.nx];exact h.n0⟩
 ·rw[hs.nx];exact h.tm t v (hs.tm t v hv)
 ·rw[hs.nx];exact hh.sub fun k o hf=>hs.hp k o hf
def jxo {op:Op} {rd:zH->Option V} {hp:Hp} {nx:Nat} {t:RT} (hfr:jbY sp) (h:jgm P sp op rd hp nx=some t):t.sel.ob:=by
 unfold jgm at h;split at h
 ·split at h
  ·split at h
   ·rename_i r _ _;cases h;cases r.isSome<;>trivial
   ·cases h
  ·cases h
 ·split at h
  ·rename_i b _ _ _;cases h;cases jpL b<;>trivial
  ·cases h
 ·split at h
  ·split at h
   ·split at h
    ·rename_i hsg;exact hfr _ _ _ _ _ _ _ hsg h
    ·cases h
   ·split at h
    ·rename_i hsg;exact hfr _ _ _ _ _ _ _ hsg h
    ·cases h
   ·cases h
  ·cases h
 ·cases h
def RT.sel_run:∀{t:RT} {k:Res->Prop},k t.sel->t.run k
 | .leaf _,_,h=>h
 | .br b x y,k,h=>by
  cases b
  ·exact RT.sel_run (t:=y) h
  ·exact RT.sel_run (t:=x) h
def jAr {o:zX} {st':St} (hfr:jbY sp) (h:cOp P sp N o st=some st'):∃s0,SubSt st' s0∧jex P sp N o st fun s=>s=s0:=by
 unfold cOp at h;rw[jyW]at h;split at h
 ·cases h
 ·rename_i hd;split at h
  ·rename_i v hq;rw[jdi]at h;cases h;obtain⟨hT,ob,hV,hob⟩:=jqm (P:=P) (sp:=sp) (nx:=st.nx) hq;refine⟨_,SubSt.refl _,?_⟩;unfold jex;rw[hT];have hs:step P sp o.op (jbC st) st.hp st.nx=some ⟨ob,v,st.hp,st.nx⟩:=by unfold step;rw[hV]
   simp only[hs,hd];have e:st.put o.dst ⟨ob,v,st.hp,st.nx⟩=st.put o.dst ⟨True,v,st.hp,st.nx⟩:=by cases o.dst<;>rfl
   split
   ·exact e
   ·exact⟨⟨hob⟩,e⟩
  ·split at h
   ·rename_i t ht;obtain⟨s,h1,h2⟩:=jq1 o t.sel st some;rw[h1]at h;cases h;refine⟨_,h2,?_⟩;unfold jex;simp only[ht,hd];exact RT.sel_run ⟨⟨jxo hfr ht⟩,rfl⟩
   ·rename_i hT;split at h
    ·rename_i r hr;obtain⟨s,h1,h2⟩:=jq1 o r st some;split at h
     ·rename_i ht;rw[h1]at h;cases h;refine⟨_,h2,?_⟩;unfold jex;simp only[hT,hr,hd,ht]
     ·rename_i ht hb;rw[h1]at h;cases h;refine⟨_,h2,?_⟩;unfold jex;simp only[hT,hr,hd,ht];exact⟨⟨b_ob hb hr⟩,trivial⟩
     ·cases h
    ·cases h
def jlJ {o:zX} {st':St} {K:Act->zx->Prop} {Q:jP->Act->zx->Prop} (hsp:jac P sp) (hfr:jbY sp) (hr:RelD ds U B N n0 st a w) (hag:jae n0 U0 U) (hbl:Bel B w0 w) (h:cOp P sp N o st=some st')
  (hK:∀U' a' w',RelD ds U' B N n0 st' a' w'->jae n0 U0 U'->Bel B w0 w'->K a' w'):o.wp P a w K Q:=by
 obtain⟨s0,h1,h2⟩:=jAr hfr h;refine jcz hsp hr hag hbl h2 fun U' s a' w' q1 q2 q3 q4=>?_;subst q4;exact hK U' a' w' (q1.subSt h1) q2 q3
def jim {o:zX} {st':St} {K:Act->zx->Prop} (hr:RelD ds U B N n0 st a w) (hag:jae n0 U0 U) (hbl:Bel B w0 w) (h:jo9 N o st=some st')
  (hK:∀U' a' w',RelD ds U' B N n0 st' a' w'->jae n0 U0 U'->Bel B w0 w'->K a' w'):K (a.put o.dst qe) w:=by
 unfold jo9 at h;split at h
 ·rename_i hd;cases h;exact hK U _ w (hr.skip hd) hag hbl
 ·cases h
def jpb {all:List zX} {st':St} {Q:jP->Act->zx->Prop} (hsp:jac P sp) (hfr:jbY sp)
  (hQ:∀U' a' w',RelD ds U' B N n0 st' a' w'->jae n0 U0 U'->Bel B w0 w'->Q .normal a' w') :
  ∀(l:List zX) (U:Env) (st:St) (a:Act) (w:zx),RelD ds U B N n0 st a w->jae n0 U0 U->Bel B w0 w->cOps P sp N all l st=some st'->gA P all.toArray Q l a w
 |[],U,st,a,w,hr,hag,hbl,h=>by
  cases (show some st=some st' from h);exact hQ U a w hr hag hbl
 |o::r,U,st,a,w,hr,hag,hbl,h=>by
  have h:kO (motive:=fun _=>Option St) none (fun st1=>cOps P sp N all r st1) (cOne P sp N all o st)=some st':=h;cases h1:cOne P sp N all o st with
  |none=>rw[h1]at h;cases h
  |some st1 =>
   rw[h1]at h;have h:cOps P sp N all r st1=some st':=h;have ih:=fun U' a' w' (h1:RelD ds U' B N n0 st1 a' w') h2 h3=>jpb (all:=all) hsp hfr hQ r U' st1 a' w' h1 h2 h3 h;unfold gA;unfold cOne at h1;split at h1
   ·rename_i hg;have hw:xy o (jd all.toArray a.tmps)=true:=by simp[xy,hg]
    rw[if_pos hw];exact .inl (jlJ hsp hfr hr hag hbl h1 ih)
   ·rename_i j want hg;have hwanted:∀ob,jd all.toArray a.tmps j=ob->xy o (jd all.toArray a.tmps)=(ob==some want):=fun ob hob=>by simp[xy,hg,hob]
    rw[jes]at h1;split at h1
    ·cases h1
    ·rename_i t ht;rw[jiW]at h1;split at h1
     ·rename_i b hget;have hgo:je0 all j st=some (t,.w (.c (.d (.b b)))):=by unfold je0;rw[ht];simp[hget]
      obtain⟨hy,_⟩:=jdX hr hgo (.inr rfl);have hw:=hwanted _ hy;have hval:(V.w (.c (.d (.b b)))).val U=.bool b:=rfl;rw[hval]at hw;cases b<;>cases want<;>dsimp only at h1
      ·rw[if_pos (by rw[hw];rfl)];exact .inl (jlJ hsp hfr hr hag hbl h1 ih)
      ·rw[if_neg (by rw[hw];simp)];exact jim hr hag hbl h1 ih
      ·rw[if_neg (by rw[hw];simp)];exact jim hr hag hbl h1 ih
      ·rw[if_pos (by rw[hw];rfl)];exact .inl (jlJ hsp hfr hr hag hbl h1 ih)
     ·rename_i vs hget;have hgo:je0 all j st=some (t,.w (.c (.d (.v (.tuple vs))))):=by unfold je0;rw[ht];simp[hget]
      obtain⟨hy,_⟩:=jdX hr hgo (.inr rfl);have hw:=hwanted _ hy;have hval:(V.w (.c (.d (.v (.tuple vs))))).val U=.tuple vs:=rfl;rw[hval]at hw;rw[if_neg (by rw[hw];simp)];exact jim hr hag hbl h1 ih
     ·cases h1
end
end Go.Sx
end

section
open Go.RowKit
namespace Go.Sx
section
variable [Globs] {P:zy} {B:Kd} {N n0:Nat} {sp:jaa} {U U0:Env} {w w0:zx} {a:Act} {st:St} {ds:List x7}
def jfY {t:Bool} {ob k:Prop} (h:t=true∨ob) (hk:k):obT t ob k:=by
 cases t with
 |true=>exact hk
 |false=>exact⟨⟨h.elim (fun h=>by cases h) id⟩,hk⟩
def jjY {op:Op} {rd:zH->Option V} {hp:Hp} {r r':Rec} (h:obC P op rd hp r=some r'):r'=r∧(ja7 op rd hp=true∨obB P op rd hp=true):=by
 unfold obC at h;split at h
 ·rename_i ht;rw[jdi]at h;cases h;exact⟨rfl,.inl ht⟩
 ·rename_i ht hb;rw[jdi]at h;cases h;exact⟨rfl,.inr hb⟩
 ·cases h
def jxp {op:Op} {rd:zH->Option V} {hp:Hp} {ob:Prop} {v:V} (ht:obB P op rd hp=true) (h:ja4 P op rd hp=some (ob,v)):ob:=by
 unfold ja4 at h;split at h
 ·rename_i p hp0;cases h;exact jyU ht hp0
 ·exact jBf ht h
def jin {op:Op} {rd:zH->Option V} {hp:Hp} {nx:Nat} {r r':Rec} {res:Res} (hfr:jbY sp) (hs:step P sp op rd hp nx=some res) (h:jnI.obCall P sp op rd hp r=some r'):r'=r∧(ja7 op rd hp=true∨res.ob):=by
 unfold jnI.obCall at h
 have gen:obC P op rd hp r=some r'->r'=r∧(ja7 op rd hp=true∨res.ob):=fun h=>by
  obtain⟨h1,h2⟩:=jjY h;exact⟨h1,h2.imp id fun hb=>b_ob hb hs⟩
 split at h
 ·rename_i c;split at h
  ·rename_i f hc;rw[jdi]at h;cases h;refine⟨rfl,.inr ?_⟩;have h1:ja4 P (.call c) rd hp=none:=by simp[ja4,ja3,jfs,hc]
   have h2:jdf P (.call c) rd hp nx=none:=by simp[jdf]
   have h3:jdS P (.call c) rd hp nx=none:=by simp[jdS]
   have h4:jev P (.call c) rd hp nx=none:=by simp[jev,hc]
   have h5:jdU P (.call c) rd hp nx=none:=by simp[jdU,hc]
   have h7:jdV P (.call c) rd hp nx=none:=by simp[jdV]
   have h6:jdT P (.call c) rd hp nx=none:=by simp[jdT,hc]
   unfold step at hs;simp only[h1,h2,h3,h4,h5,h6,h7]at hs;unfold jhz at hs;dsimp only at hs;simp only[hc]at hs;split at hs
   ·split at hs
    ·rename_i M S hsg;obtain⟨t,ht,hl⟩:=zD.1 hs;have:=hfr _ _ _ _ _ _ _ hsg ht;cases t with
     |leaf r0=>cases hl;exact this
     |br=>cases hl
    ·cases hs
   ·split at hs
    ·rename_i M S hsg;obtain⟨t,ht,hl⟩:=zD.1 hs;have:=hfr _ _ _ _ _ _ _ hsg ht;cases t with
     |leaf r0=>cases hl;exact this
     |br=>cases hl
    ·cases hs
   ·cases hs
  ·exact gen h
 ·exact gen h
def jyZ {op:Op} {rd:zH->Option V} {hp:Hp} {bef:List Nat} {st0:St} {tr:List Rec} {r:Rec} (h:qdop P op rd hp bef st0 tr=some r) :
  ∃v ob,ja4 P op rd hp=some (ob,v)∧ob∧ja5 bef st0 tr v [] (jab st0 tr)=true∧r=⟨v,jan st0 tr,jab st0 tr,0,[],none⟩:=by
 unfold qdop at h;split at h
 ·rename_i v hq;rw[jdi]at h;split at h
  ·rename_i ho;cases h;rw[jlH]at ho;obtain⟨_,ob,h1,h2⟩:=jqm (P:=P) (sp:=fun _=>none) (nx:=0) hq;exact⟨v,ob,h1,h2,ho,rfl⟩
  ·cases h
 ·cases h
def jxq {op:Op} {rd:zH->Option V} {bef:List Nat} {st0:St} {tr:List Rec} {r:Rec} (h:jxk P op rd bef st0 tr=some r) :
  ∃h x v ob,loadAt op rd=some h∧find (jan st0 tr) h=some x∧(jas (fun j=>bef.contains j) st0 tr h&&jbE st0 bef h tr)=true∧ja4 P op rd [(h,x)]=some (ob,v)∧ob∧ja5 bef st0 tr v [] (jab st0 tr)=true∧r=⟨v,jan st0 tr,jab st0 tr,0,[],none⟩:=by
 unfold jxk at h;split at h
 ·split at h
  ·cases h
  ·rename_i k hk;split at h
   ·cases h
   ·rename_i x hx;rw[jdx]at hx;split at h
    ·cases h
    ·rename_i hb;rw[jg9]at hb;split at h
     ·rename_i v hq;rw[jdi]at h;split at h
      ·rename_i ho;cases h;rw[jlH]at ho;obtain⟨_,ob,h1,h2⟩:=jqm (P:=P) (sp:=fun _=>none) (nx:=0) hq;exact⟨k,x,v,ob,hk,hx,hb,h1,h2,ho,rfl⟩
      ·cases h
     ·cases h
 ·cases h
def jpc {tab:List (List Nat)} {i:Nat} {lf:Bool}:∀{l:List zX} {k:Nat},ja9 tab i false false k l=true->ja9 tab i lf false k l=true
 |[],_,_=>rfl
 |o::r,k,h=>by
  simp only[ja9,zk,xn]at h ⊢;refine⟨?_,jpc h.2⟩;rcases h.1 with ((((h1|h1)|h1)|h1)|h1)|h1
  ·exact .inl (.inl (.inl (.inl (.inl h1))))
  ·exact .inl (.inl (.inl (.inl (.inr h1))))
  ·exact .inl (.inl (.inl (.inr h1)))
  ·exact .inl (.inl (.inr h1))
  ·cases h1.1
  ·cases h1.1.1
def jCB {L:List zX} {tab:List (List Nat)} {st0:St} {o:zX} {tr:List Rec}:mkF L tab st0 o tr.length tr=jpT L tab st0 o tr:=by
 unfold mkF;split
 ·rename_i h;unfold jpT;rw[jpc h]
 ·rfl
def jml {L:List zX} {bef:List Nat} {st0:St} {t:Nat}:∀{tr:List Rec},jeJ L bef tr.length t=true->jci L bef st0 t tr=jaE (jd4 L st0 tr) t
 |[],_=>rfl
 |r::tr,h=>by
  unfold jeJ at h;simp only[z4,jrU]at h;simp only[jci,jd4];cases hd:jbT L tr.length with
  |none =>
   rw[hd]at h;dsimp only at h ⊢;exact jml (by unfold jeJ;exact h)
  |some d =>
   rw[hd]at h;dsimp only at h ⊢
   by_cases e:d=t
   ·rw[if_pos e]at h ⊢;dsimp only at h;rw[h];simp only[jaE,if_pos e]
   ·rw[if_neg e]at h ⊢;simp only[jaE,if_neg e];exact jml (by unfold jeJ;exact h)
def jlK {L:List zX} {tab:List (List Nat)}:∀{l:List zX} {k:Nat},jiY L tab k l=true->∀m o,l[m]?=some o->∀t∈jaq L o,jeJ L (tab.getD (k+m) []) (k+m) t=true
 |[],_,_,_,_,h=>by simp at h
 |o' :: r,k,hs,m,o,h=>by
  simp only[jiY,zk]at hs;cases m with
  |zero =>
   simp at h;subst h;exact fun t ht=>zq.1 hs.1 t ht
  |succ m =>
   intro t ht;have:=jlK hs.2 m o (by simpa using h) t ht;rw[show k+(m+1)=k+1+m by omega];exact this
def jCC {L:List zX} {tab:List (List Nat)} {st0:St} {o:zX} {tr:List Rec} (h:∀t∈jaq L o,jeJ L (tab.getD tr.length []) tr.length t=true) :
  rdF st0 (jaq L o) (jd4 L st0 tr)=jbb L (jaq L o) (tab.getD tr.length []) st0 tr:=by
 funext x;cases x with
 |tmp t =>
  simp only[rdF,jbb];cases hc:(jaq L o).contains t with
  |false=>rfl
  |true =>
   dsimp only;rw[jiW,jml (h t (by simpa using hc))]
 |_=>rfl
def jq2 {L:List zX} {tab:List (List Nat)} {st0:St} {o:zX} {tr:List Rec} {r:Rec} {k:Rec->Prop} (hfr:jbY sp) (hrd:∀t∈jaq L o,jeJ L (tab.getD tr.length []) tr.length t=true) (h:jnI P sp N L tab st0 o tr.length (tab.getD tr.length []) (rdF st0 (jaq L o) (jd4 L st0 tr)) tr=some r) (hk:k r):dop P sp N L tab st0 o tr k:=by
 rw[jCC hrd]at h;unfold jnI at h;simp only[jlH,jg9,jAn,jCB]at h;unfold dop;split at h
 ·cases h
 ·rename_i hd;rw[hd];dsimp only;split at h
  ·rename_i r' hq;cases h;obtain⟨v,ob,h1,h2,h3,rfl⟩:=jyZ hq;rw[h1];dsimp only;rw[h3];exact jfY (.inr h2) hk
  ·split at h
   ·rename_i ob v hv;split at h
    ·rename_i ho;rw[hv];dsimp only;rw[ho];obtain⟨rfl,h2⟩:=jjY h;exact jfY (h2.imp id fun hb=>jxp hb hv) hk
    ·cases h
   ·rename_i hv;rw[hv];dsimp only;split at h
    ·rename_i hsp;rw[hsp];dsimp only;split at h
     ·rename_i hb;rw[hb];dsimp only;split at h
      ·rename_i ob v hv2;rw[hv2];dsimp only;split at h
       ·rename_i ho;rw[ho];obtain⟨rfl,h2⟩:=jjY h;exact jfY (h2.imp id fun hb=>jxp hb hv2) hk
       ·cases h
      ·cases h
     ·cases h
    ·rename_i hsp;rw[hsp];dsimp only;split at h
     ·rename_i hl;rw[hl];dsimp only;split at h
      ·rename_i r' hq;cases h;obtain⟨k',x,v,ob,q1,q2,q3,q4,q5,q6,rfl⟩:=jxq hq;rw[q1];dsimp only;rw[q2];dsimp only;rw[q3];dsimp only;rw[q4];dsimp only;rw[q6];exact jfY (.inr q5) hk
      ·split at h
       ·cases h
       rename_i h' hla;rw[hla];dsimp only;split at h
       ·cases h
       ·rename_i x hx;rw[hx];dsimp only;split at h
        ·cases h
        ·rename_i hb;rw[hb];dsimp only;split at h
         ·rename_i hv2;rw[hv2];dsimp only;split at h
          ·cases h
          ·rename_i hmk;rw[hmk];dsimp only;split at h
           ·rename_i res hs;rw[hs];dsimp only;split at h
            ·rename_i ho;rw[ho];obtain⟨rfl,h2⟩:=jin hfr hs h;exact jfY h2 hk
            ·cases h
           ·cases h
         ·rename_i ob v hv2;rw[hv2];dsimp only;split at h
          ·rename_i ho;rw[ho];obtain⟨rfl,h2⟩:=jjY h;exact jfY (h2.imp id fun hb=>jxp hb hv2) hk
          ·cases h
     ·rename_i hl;rw[hl];dsimp only;split at h
      ·rename_i hm;rw[hm];dsimp only;split at h
       ·rename_i res hs;rw[hs];dsimp only;split at h
        ·rename_i ho;rw[ho];obtain⟨rfl,h2⟩:=jin hfr hs h;exact jfY h2 hk
        ·cases h
       ·cases h
      ·rename_i hm;rw[hm];dsimp only;split at h
       ·cases h
       ·rename_i hf;rw[hf];dsimp only;split at h
        ·rename_i res hs;rw[hs];dsimp only;split at h
         ·rename_i ho;rw[ho];obtain⟨rfl,h2⟩:=jin hfr hs h;exact jfY h2 hk
         ·cases h
        ·cases h
def jm7 {st0:St} {o:zX} {tr:List Rec} {r:Rec} {k:Rec->Prop} (h:jlI N st0 o tr=some r) (hk:k r):jjr N st0 o tr k:=by
 unfold jlI at h;unfold jjr;split at h
 ·cases h
 ·rename_i hd;cases h;rw[hd];exact hk
def jBO {L:List zX} {st0:St} {o:zX} {r:Rec} {tr:List Rec} (h:L[tr.length]?=some o):jjX o r (jd4 L st0 tr)=jd4 L st0 (r::tr):=by
 simp only[jjX,jd4,jbT,h,zw];cases o.dst<;>rfl
def jpd {L:List zX} {tab:List (List Nat)} {st0:St} (hfr:jbY sp) (hrd:jiY L tab 0 L=true):∀(l:List zX) (tr:List Rec) (tm':List (Nat × V)) (tr':List Rec) (k:List Rec->Prop),L=L.take tr.length++l->tr.length+l.length=L.length ->
  jeK P sp N L tab st0 l tr.length (jd4 L st0 tr) tr=some (tm',tr')->(tm'=jd4 L st0 tr'->k tr')->je4 P sp N L tab st0 l tr k
 |[],tr,tm',tr',k,_,_,h,hk=>by
  unfold jeK at h;cases h;exact hk rfl
 |o::r,tr,tm',tr',k,hL,hlen,h,hk=>by
  have hlt:tr.length<L.length:=by simp at hlen;omega
  have ho:L[tr.length]?=some o:=by
   rw[hL,qa (by simp;omega)];simp[yY (Nat.le_of_lt hlt)]
  have hro:∀t∈jaq L o,jeJ L (tab.getD tr.length []) tr.length t=true:=fun t ht=>by
   have:=jlK hrd tr.length o ho t ht;simpa using this
  have next:∀rc,jeK P sp N L tab st0 r (tr.length+1) (jjX o rc (jd4 L st0 tr)) (rc::tr)=some (tm',tr')->je4 P sp N L tab st0 r (rc::tr) k:=fun rc hrc=>by
   refine jpd hfr hrd r (rc::tr) tm' tr' k ?_ (by simp at hlen ⊢;omega) (by rw[<-jBO ho];exact hrc) hk
   have h1:L.take (tr.length+1)=L.take tr.length++[o]:=by
    rw[xY hlt]
    congr 2
    have:=zJ hlt;rw[this]at ho;exact xT ho
   simp only[z4,h1,List.append_assoc,List.singleton_append];exact hL
  unfold jeK at h;unfold je4;split at h
  ·rename_i hg;rw[hg];dsimp only;split at h
   ·rename_i rc hc;exact jq2 hfr hro hc (next rc h)
   ·cases h
  ·rename_i g want hg;rw[hg];dsimp only;split at h
   ·cases h
   ·rename_i t ht;rw[ht];dsimp only
    have hnm:t∈jaq L o:=by
     unfold jaq;rw[hg];simp[ht]
    rw[jiW,<-jml (hro t hnm)]at h;split at h
    ·rename_i b hs;have hset:jdh L t (vb b) tr=tr:=jgp hs;rw[hs];dsimp only
     cases b<;>cases want<;>dsimp only[Br]at h ⊢ <;> split at h<;>rw[hset]<;>first
      |(rename_i rc hc;exact jq2 hfr hro hc (next rc h))
      |(rename_i rc hc;exact jm7 hc (next rc h))
      |cases h
    ·rename_i vs hs;rw[hs];dsimp only;split at h
     ·rename_i rc hc;exact jm7 hc (next rc h)
     ·cases h
    ·cases h
def jxr {ops:Array zX} {s0:St} (hfr:jbY sp) (h:jxl P sp N ops st=some s0):jca P sp N ops st fun s=>s=s0:=by
 unfold jxl at h;unfold jca;split at h
 ·rename_i hf;rw[hf];dsimp only;unfold jyY at h;unfold jkX;split at h
  ·rename_i hs;rw[zk]at hs;rw[hs.1];dsimp only;split at h
   ·rename_i tm tr htr;cases h;exact jpd hfr hs.2 ops.toList [] tm tr _ (by simp) (by simp) htr fun e=>by rw[e];rfl
   ·cases h
  ·cases h
 ·cases h
def jcF {fuel:Nat} (hsp:jac P sp) (hfr:jbY sp) (hdr:jeo P B N n0 U0 w0 (jca P sp N)) :
  ∀(c:yb) (st:St) (U:Env) (a:Act) (w:zx) (e:Ex) (st':St),cx P sp N fuel c st=some (e,st')->RelD ds U B N n0 st a w->jae n0 U0 U->Bel B w0 w ->
   c.wp P (Qx ds U0 B N n0 w0 fun e' s=>e'=e∧s=st') a w
 | .skip,st,U,a,w,e,st',h,hr,hag,hbl=>by
  cases (show some (Ex.normal,st)=some (e,st')from h);exact wp_skip ⟨.normal,U,st,rfl,⟨rfl,rfl⟩,hr,hag,hbl⟩
 | .label l,st,U,a,w,e,st',h,hr,hag,hbl=>by
  cases (show some (Ex.normal,st)=some (e,st')from h);exact wp_label ⟨.normal,U,st,rfl,⟨rfl,rfl⟩,hr,hag,hbl⟩
 | .region id ops draw,st,U,a,w,e,st',h,hr,hag,hbl=>by
  have h:jxm P sp N ops draw st=some (e,st'):=h;unfold jxm at h;cases draw with
  |false =>
   dsimp only at h;split at h
   ·rename_i s1 hs;cases h;refine g8 ?_;have:=jpb (P:=P) (Q:=Qx ds U0 B N n0 w0 fun e' s=>e'=.normal∧s=st') (all:=ops.toList) hsp hfr (fun U' a' w' h1 h2 h3=>⟨.normal,U',st',rfl,⟨rfl,rfl⟩,h1,h2,h3⟩) ops.toList U st a w hr hag hbl hs;simpa using this
   ·cases h
  |true =>
   dsimp only at h;split at h
   ·rename_i s1 hs;obtain⟨s2,h1,h2⟩:=jnK 3 s1 (fun s=>some (Ex.normal,s));rw[h1]at h;cases h
    exact hdr id ops st _ U a w _ (jxr hfr hs) hr hag hbl (fun U' s a' w' q1 q2 q3 q4=>by
     subst q4;exact⟨.normal,U',st',rfl,⟨rfl,rfl⟩,q1.subSt h2,q2,q3⟩)
   ·cases h
 | .seq x y,st,U,a,w,e,st',h,hr,hag,hbl=>by
  have h:jcW (cx P sp N fuel x st) (cx P sp N fuel y)=some (e,st'):=h;unfold jcW at h;refine gP ?_;split at h
  ·rename_i s1 hs;refine xG (jcF hsp hfr hdr x st U a w _ _ hs hr hag hbl) ?_;rintro e1 a1 w1 ⟨ex,U1,s2,rfl,⟨rfl,rfl⟩,hr1,hag1,hbl1⟩;exact jcF hsp hfr hdr y s2 U1 a1 w1 _ _ h hr1 hag1 hbl1
  ·rename_i hne;refine xG (jcF hsp hfr hdr x st U a w _ _ h hr hag hbl) ?_;rintro e1 a1 w1 ⟨ex,U1,s2,rfl,⟨rfl,rfl⟩,hr1,hag1,hbl1⟩;cases ex with
   |normal=>exact(hne _ h).elim
   |exit j=>exact⟨.exit j,U1,_,rfl,⟨rfl,rfl⟩,hr1,hag1,hbl1⟩
   |ret=>exact⟨.ret,U1,_,rfl,⟨rfl,rfl⟩,hr1,hag1,hbl1⟩
 | .cond c x y,st,U,a,w,e,st',h,hr,hag,hbl=>by
  have h:jtt c (cx P sp N fuel x) (cx P sp N fuel y) st=some (e,st'):=h;unfold jtt at h;rw[jyW]at h;split at h
  ·rename_i hc;exact wp_cond_true (jkT hr (b:=true) (by rw[hc];rfl)) (jcF hsp hfr hdr x st U a w _ _ h hr hag hbl)
  ·rename_i hc;exact wp_cond_false (jkT hr (b:=false) (by rw[hc];rfl)) (jcF hsp hfr hdr y st U a w _ _ h hr hag hbl)
  ·cases h
 | .block id c,st,U,a,w,e,st',h,hr,hag,hbl=>by
  have h:jqo id (cx P sp N fuel c st)=some (e,st'):=h;unfold jqo at h;refine wp_block ?_;split at h
  ·rename_i j s1 hs;refine xG (jcF hsp hfr hdr c st U a w _ _ hs hr hag hbl) ?_;rintro e1 a1 w1 ⟨ex,U1,s2,rfl,⟨rfl,rfl⟩,hr1,hag1,hbl1⟩;simp only[Ex.toExit,Exit.inBlock];split at h
   ·rename_i hj;cases h;rw[if_pos (zb hj)];exact⟨.normal,U1,_,rfl,⟨rfl,rfl⟩,hr1,hag1,hbl1⟩
   ·rename_i hj;cases h;rw[if_neg (fun e=>by subst e;rw[gd]at hj;cases hj)];exact⟨.exit j,U1,_,rfl,⟨rfl,rfl⟩,hr1,hag1,hbl1⟩
  ·rename_i hne;refine xG (jcF hsp hfr hdr c st U a w _ _ h hr hag hbl) ?_;rintro e1 a1 w1 ⟨ex,U1,s2,rfl,⟨rfl,rfl⟩,hr1,hag1,hbl1⟩;cases ex with
   |normal=>exact⟨.normal,U1,_,rfl,⟨rfl,rfl⟩,hr1,hag1,hbl1⟩
   |exit j=>exact(hne _ _ h).elim
   |ret=>exact⟨.ret,U1,_,rfl,⟨rfl,rfl⟩,hr1,hag1,hbl1⟩
 | .loop c,st,U,a,w,e,st',h,hr,hag,hbl=>by
  have h:jpa (cx P sp N fuel c) fuel st=some (e,st'):=h;refine wp_loop_rounds fuel ?_
  have key:∀(n:Nat) (st:St) (U:Env) (a:Act) (w:zx),jpa (cx P sp N fuel c) n st=some (e,st')->RelD ds U B N n0 st a w->jae n0 U0 U->Bel B w0 w->Code.rounds P c (Qx ds U0 B N n0 w0 fun e' s=>e'=e∧s=st') n a w:=by
   intro n
   induction n with
   |zero=>intro st U a w h;cases (show none=some (e,st')from h)
   |succ n ih =>
    intro st U a w h hr hag hbl
    have h:(match cx P sp N fuel c st with
     |some (.normal,st1)=>stG st1 fun st1=>jpa (cx P sp N fuel c) n st1
     |x=>x)=some (e,st'):=h
    rw[rounds_succ];split at h
    ·rename_i s1 hs;obtain⟨s2,h1,h2⟩:=jAq s1 (fun s=>jpa (cx P sp N fuel c) n s);rw[h1]at h;refine xG (jcF hsp hfr hdr c st U a w _ _ hs hr hag hbl) ?_;rintro e1 a1 w1 ⟨ex,U1,s3,rfl,⟨rfl,rfl⟩,hr1,hag1,hbl1⟩;exact ih s2 U1 a1 w1 h (hr1.subSt h2) hag1 hbl1
    ·rename_i hne;refine xG (jcF hsp hfr hdr c st U a w _ _ h hr hag hbl) ?_;rintro e1 a1 w1 ⟨ex,U1,s2,rfl,⟨rfl,rfl⟩,hr1,hag1,hbl1⟩;cases ex with
     |normal=>exact(hne _ h).elim
     |exit j=>exact⟨.exit j,U1,_,rfl,⟨rfl,rfl⟩,hr1,hag1,hbl1⟩
     |ret=>exact⟨.ret,U1,_,rfl,⟨rfl,rfl⟩,hr1,hag1,hbl1⟩
  exact key fuel st U a w h hr hag hbl
 | .exit id,st,U,a,w,e,st',h,hr,hag,hbl=>by
  cases (show some (Ex.exit id,st)=some (e,st')from h);exact wp_exit ⟨.exit id,U,st,rfl,⟨rfl,rfl⟩,hr,hag,hbl⟩
 | .ret,st,U,a,w,e,st',h,hr,hag,hbl=>by
  cases (show some (Ex.ret,st)=some (e,st')from h);exact wp_ret ⟨.ret,U,st,rfl,⟨rfl,rfl⟩,hr,hag,hbl⟩
 | .scope c,st,U,a,w,e,st',h,_,_,_=>by cases (show none=some (e,st')from h)
 | .goto l,st,U,a,w,e,st',h,_,_,_=>by cases (show none=some (e,st')from h)
 | .rangeFunc f ps x y,st,U,a,w,e,st',h,_,_,_=>by cases (show none=some (e,st')from h)
 | .refuse s,st,U,a,w,e,st',h,_,_,_=>by cases (show none=some (e,st')from h)
end
end Go.Sx
end

section
open Go.RowKit
namespace Go.Sx
section
variable [Globs] {P:zy} {B:Kd} {sp:jaa} {U:Env} {w:zx} {hp:Hp} {nx:Nat}
def jtw {st:St} {r:jc} {u:W} (h:jqp P st r=some u):∃ob,jiA P st r=some (ob,u)∧ob:=by
 unfold jqp at h;unfold jiA;split at h
 ·split at h
  ·rename_i u' hg;cases h;exact⟨True,by simp only[hg],trivial⟩
  ·cases h
 ·split at h
  ·rename_i k i e j hg;split at h
   ·rename_i o hf;split at h
    ·rename_i ob u' hr hb;cases h;exact⟨ob,by simp only[hg,hf,hr],jvV hr hb⟩
    ·cases h
   ·cases h
  ·cases h
def jlL {st:St}:∀{rs:List jc} {l:List W},jdH P st rs=some l->∃l',jdO P st rs=some l'∧l'.map (·.2)=l∧∀k:Prop,k->jiB l' k
 |[],l,h=>by
  simp only[jdH,zi]at h;subst h;exact⟨[],rfl,rfl,fun _ h=>h⟩
 |r::rs,l,h=>by
  simp only[jdH]at h;split at h
  ·rename_i x l1 h1 h2;cases h;obtain⟨ob,q1,q2⟩:=jtw h1;obtain⟨l',q3,q4,q5⟩:=jlL h2;refine⟨(ob,x)::l',by simp only[jdO,q1,q3],by simp[q4],fun k hk=>⟨⟨q2⟩,q5 k hk⟩⟩
  ·cases h
def jq3 (hh:HRel U B hp nx w) {v:V} (hv:v.lt nx):(jha hp v).val U=v.val U∧(jha hp v).lt nx:=by
 unfold jha;split
 ·rename_i h;split
  ·rename_i ty cs hf;obtain⟨q1,_,k,q3,_⟩:=hh.ok h _ hf;exact⟨by simp[V.val,W.val,C.val,q3,base],q1⟩
  ·rename_i cs hf;obtain⟨q1,_,k,o,q3,_⟩:=hh.ok h _ hf;exact⟨by simp[V.val,W.val,C.val,q3,base],q1⟩
  ·rename_i ty k e r hf;obtain⟨q1,_,k,q3,_⟩:=hh.ok h _ hf;exact⟨by simp[V.val,W.val,C.val,q3,base],q1⟩
  ·exact⟨rfl,hv⟩
 ·exact⟨rfl,hv⟩
def jgA (hh:HRel U B hp nx w) {args:List V} (hlt:∀x∈args,V.lt nx x):(args.map (jha hp)).map (V.val U)=args.map (V.val U)∧∀x∈args.map (jha hp),V.lt nx x:=by
 refine⟨?_,fun x hx=>?_⟩
 ·rw[xI];exact List.map_congr_left fun v hv=>(jq3 hh (hlt v hv)).1
 ·obtain⟨v,hv,rfl⟩:=qu.1 hx;exact(jq3 hh (hlt v hv)).2
def jnL {f fuel:Nat} {fn:jQ} {body:yb} {args:List V} {e:Ex} {st:St} {l:List W} (hsp:jac P sp) (hfr:jbY sp) (hdr:∀U w,jeo P B fn.ntmps nx U w (jca P sp fn.ntmps))
  (hf:P.funcs[f]?=some fn) (hb:fn.body=some body) (hlen:args.length<=fn.ntmps) (hcx:cx P sp fn.ntmps fuel body ⟨jbO 0 args,hp,nx⟩=some (e,st)) (he:∀j,e≠.exit j) (hl:jdH P st fn.results.toList=some l)
  (hlt:∀x∈args,V.lt nx x) (hh:HRel U B hp nx w) (hB:Old B w) :
  Calls P f (args.map (V.val U)).toArray w fun e w'=>∃U',e=.returned ((ja0 l).val U')∧(ja0 l).lt st.nx∧jae nx U U'∧(∃B',Grow B B' false w' w'∧HRel U' B' st.hp st.nx w')∧Bel B w w':=by
 refine calls_of_wp hf hb ?_;have hrel:=jep (n0:=nx) hlen hlt (zu _) U w hh hB;refine xG (jcF hsp hfr (hdr U w) body _ U _ w e st hcx hrel (jae.refl _ _) (Bel.refl _ _)) ?_;rintro e1 a1 w1 ⟨ex,U1,s,rfl,⟨rfl,rfl⟩,hr1,hag1,hbl1⟩;obtain⟨l',q1,q2,q3⟩:=jlL hl
 have fin:a1.defers=[]∧∃v,(results fn a1.tmps).run P w1=.ok v w1∧∃U',xO v=.returned ((ja0 l).val U')∧(ja0 l).lt s.nx∧jae nx U U'∧(∃B',Grow B B' false w1 w1∧HRel U' B' s.hp s.nx w1)∧Bel B w w1:=by
  have hra:=jgn hr1 _ l' True q1 (q3 True trivial);refine⟨hr1.defers,(ja0 l).val U1,?_,U1,rfl,je2 (fun y hy=>?_),hag1,hr1.heap,hbl1⟩
  ·rw[jcR];simp only[jjn,yA,zn,gX,hra.1,zh,zp,<-q2,xI];rfl
  ·rw[<-q2]at hy;obtain⟨z,hz,rfl⟩:=qu.1 hy;exact hra.2.1 z hz
 cases ex with
 |normal=>exact fin
 |exit j=>exact(he j rfl).elim
 |ret=>exact fin
def jq4 {α:Type} (n0:Nat) (v:V) (st:St) (k:Hp->α):∃hp',outF n0 v st k=k hp'∧∀h o,find hp' h=some o->find st.hp h=some o:=by
 unfold outF;obtain⟨m,h1⟩:=jil (n0:=n0) (hp:=st.hp) 6 (jrT v 0) (fun m=>hpF (fun h=>qh h n0||qT m h) 0 0 st.hp k);rw[h1];obtain⟨hp',h2,h3⟩:=jg8 (live:=fun h=>qh h n0||qT m h) st.hp 0 0 k;exact⟨hp',h2,fun h o hf=>(h3 h o hf).1⟩
def jq5 {α:Type} (n0:Nat) (v:V) (st:St) (k:Hp->α):∃hp',outN n0 v st k=k hp'∧∀h o,find hp' h=some o->find st.hp h=some o∧n0<=h:=by
 unfold outN;obtain⟨m,h1⟩:=jil (n0:=n0) (hp:=st.hp) 6 (jrT v 0) (fun m=>hpF (fun h=>qn n0 h&&qT m h) 0 0 st.hp k);rw[h1];obtain⟨hp',h2,h3⟩:=jg8 (live:=fun h=>qn n0 h&&qT m h) st.hp 0 0 k;refine⟨hp',h2,fun h o hf=>⟨(h3 h o hf).1,?_⟩⟩;have:=(h3 h o hf).2.2;simp only[zk]at this;exact zj this.1
def jAs {fn:jQ} {body:yb} {fuel:Nat} {args:List V} {t:RT} (h:inl P sp fn body fuel args hp nx=some t):t.sel.ob:=by
 unfold inl at h;split at h
 ·cases h
 ·split at h
  ·rename_i e st hcx;split at h
   ·cases h
   ·split at h
    ·rename_i l hl hle;rw[jdi]at h;obtain⟨hp',h1,_⟩:=jq4 nx (ja0 l) st (fun hp'=>some (RT.leaf ⟨True,ja0 l,hp',st.nx⟩));rw[h1]at h;cases h;trivial
    ·cases h
  ·cases h
def jCD {f fuel:Nat} {fn:jQ} {body:yb} (hm:P.follows .mixedOrders=true) (hsp:jac P sp) (hfr:jbY sp) (hf:P.funcs[f]?=some fn) (hb:fn.body=some body) (hn:(fn.name == "runtime.NumGoroutine")=false) :
  jaf P f false (inl P sp fn body fuel):=by
 refine .inl ⟨jcD hf hb hn,fun U B w args hp nx t hS hob hlt hh hB=>?_⟩;unfold inl at hS;split at hS
 ·cases hS
 ·rename_i hlen;have hlen:=zj hlen;split at hS
  ·rename_i e st hcx
   have go:∀l,(∀j,e≠.exit j)->jdH P st fn.results.toList=some l->qn nx st.nx=true->(fV (ja0 l) fun v=>outF nx v st fun hp'=>some (RT.leaf ⟨True,v,hp',st.nx⟩))=some t ->
     Calls P f (args.map (V.val U)).toArray w fun e w'=>∃U',e=.returned (t.sel.v.val U')∧Left U B nx w t.sel false U' w':=by
    intro l he hl hle hS;rw[jdi]at hS;obtain⟨hp',h1,h2⟩:=jq4 nx (ja0 l) st (fun hp'=>some (RT.leaf ⟨True,ja0 l,hp',st.nx⟩));rw[h1]at hS;cases hS;obtain⟨ha1,ha2⟩:=jgA hh hlt;have hc:=jnL (f:=f) (args:=args.map (jha hp)) hsp hfr (fun U w=>jbG hm hsp) hf hb (by simpa using hlen) hcx he hl ha2 hh hB;rw[ha1]at hc;refine hc.mono ?_;rintro e' w' ⟨U',rfl,q2,q3,⟨B',g,q4⟩,q5⟩;exact⟨U',rfl,q3,q2,zj hle,⟨B',g.weak,q4.sub h2⟩,q5,(fun h=>by cases h),fun h=>by cases h⟩
   split at hS
   ·cases hS
   ·rename_i hne;split at hS
    ·rename_i l hl hle;exact go l (fun j e=>hne j e) hl hle hS
    ·cases hS
  ·cases hS
def jqq (hp:Hp) (h:Nat):find (jgb hp) h=(find hp h).map roO:=by
 induction hp with
 |nil=>rfl
 |cons x r ih =>
  obtain⟨k,o⟩:=x;simp only[jgb,zM,find]at *;split
  ·rfl
  ·exact ih
def jvX (v:zF) (o:O):(roO o).blk v=none:=by
 cases o<;>simp only[roO]<;>first
  |rfl
  |(unfold roO.extR;split<;>rfl)
  |(unfold roO.lstR;split<;>rfl)
def jy0 (hh:HRel U B hp nx w) (hB:Old B w):HRel U (kd fun k=>k<w.heap.size) (jgb hp) nx w:=by
 have row:∀h o c,find hp h=some o->o.cont=some c->h<nx∧(roO.extR c).lt nx∧(roO.extR c).ok U (kd fun k=>k<w.heap.size) w h:=by
  intro h o c hf hc;obtain⟨q1,q2,q3⟩:=hh.ok h o hf;have hr:=jaX q3 hc;unfold roO.extR;split
  ·exact⟨q1,trivial,trivial⟩
  ·rename_i e he;exact⟨q1,trivial,hr,jaJ.lt hr (by omega)⟩
 have lst:∀h o e n cs,find hp h=some o->o.lst=some (e,n,cs)->(∀c∈cs,C.lt nx c)->h<nx∧(roO.lstR e n cs).lt nx∧(roO.lstR e n cs).ok U (kd fun k=>k<w.heap.size) w h:=by
  intro h o e n cs hf hl hlt;obtain⟨q1,q2,q3⟩:=hh.ok h o hf;obtain⟨h1,h2,h3⟩:=jb2 q3 hl;unfold roO.lstR;split
  ·exact⟨q1,trivial,trivial⟩
  ·rename_i e';refine⟨q1,hlt,h1,fun a n' cap heq hn=>?_,h2,h3⟩;obtain⟨a',cap',hv,_,hadr⟩:=h1;rw[hv]at heq;cases heq;obtain⟨b,off,e9⟩:=hadr hn;cases e9;have hlen:0<cs.length:=by rw[h2];exact Nat.mul_pos hn (Nat.succ_pos _)
   have:=h3 0 cs[0] (zJ hlen);rw[hv]at this;exact qj w _ this
 refine⟨fun h o' hf=>?_,fun h o k o' b _ hf' _ _ hb'=>?_,hh.glob.sub fun g hg=>hB g (.inl hg)⟩
 ·rw[jqq]at hf;obtain⟨o,ho,rfl⟩:=z5.1 hf;obtain⟨q1,q2,q3⟩:=hh.ok h o ho;cases o with
  |row ty c=>exact row h _ c ho rfl
  |ext c=>exact row h _ c ho rfl
  |view r c fl=>exact row h _ c ho rfl
  |rrow c=>exact row h _ c ho rfl
  |fext c=>exact row h _ c ho rfl
  |sub r i e j ty c=>exact row h _ c ho rfl
  |box ty cs =>
   obtain⟨k,h1,h2,h3⟩:=q3;refine⟨q1,q2,k,0,h1,(zA.1 h3).1,fun j c hj=>?_⟩;rw[zP,cell_of_row w k _ _ ty (0,0) h3];simp[hj]
  |ebox cs =>
   obtain⟨k,o,h1,h2,h3⟩:=q3;exact⟨q1,q2,k,o,h1,hB k (.inl h2),h3⟩
  |lbox ty e n cs=>exact lst h _ e n cs ho rfl q2
  |lview r e n cs=>exact lst h _ e n cs ho rfl q2.2
  |elist e n cs=>exact⟨q1,q2,q3.1,jaS (fun k hk=>hB k (.inl hk)) q3.2.1,q3.2.2⟩
  |xext X=>exact⟨q1,trivial,IsX.mono (fun k hk=>hB k (.inl hk)) q3⟩
  |_=>exact⟨q1,trivial,trivial⟩
 ·rw[jqq]at hf';obtain⟨o1,_,rfl⟩:=z5.1 hf';rw[jvX]at hb';cases hb'
def jnM (l r:Hp) (h:Nat):find (l++r) h=match find l h with|some o=>some o|none=>find r h:=by
 induction l with
 |nil=>rfl
 |cons x l ih =>
  obtain⟨k,o⟩:=x;simp only[qm,find];split
  ·rfl
  ·exact ih
def jvY {B1:Kd} {o:O} {h:Nat} (ho:je3 o=true) (hok:o.ok U B1 w h) (hB:∀k,¬B1.all k->¬B.all k):o.ok U B w h:=by
 cases o with
 |row ty c=>exact⟨hok.1,fun k hk=>hB k (hok.2 k hk)⟩
 |box ty cs=>obtain⟨k,h1,h2,h3⟩:=hok;exact⟨k,h1,hB k h2,h3⟩
 |lbox ty e n cs=>exact⟨hok.1,fun k hk=>hB k (hok.2 k hk)⟩
 |arr ty k e r=>obtain⟨g,h1,h2,h3⟩:=hok;exact⟨g,h1,hB g h2,h3⟩
 |_=>cases ho
def jAt {w':zx} {U':Env} {B1:Kd} {hp1 hp':Hp} {nx1:Nat} (hh:HRel U B hp nx w) (hB:Old B w) (hbel:xA w.heap.size w w') (hag:jae nx U U') (hle:nx<=nx1) (h1:HRel U' B1 hp1 nx1 w') (hB1:∀k,¬B1.all k->w.heap.size<=k)
  (hs:∀h o,find hp' h=some o->find hp1 h=some o∧nx<=h) (hk:hp'.all (fun x=>je3 x.2)=true) :
  HRel U' B (hp' ++ hp) nx1 w'∧∀h o k,nx<=h->find (hp' ++ hp) h=some o->o.blk (U' h)=some k->w.heap.size<=k:=by
 have hold:=(hh.below hbel hB).agree hag;have hBn:∀k,¬B1.all k->¬B.all k:=fun k hk hc=>by have:=hB k hc;have:=hB1 k hk;omega
 have own:∀h o,find hp' h=some o->je3 o=true:=fun h o hf=>zq.1 hk _ (jjm hf);have new:∀h o k,find hp' h=some o->o.blk (U' h)=some k->w.heap.size<=k:=fun h o k hf hb=>hB1 k (O.blk_lt (h1.ok h o (hs h o hf).1).2.2 hb).2
 have oldlt:∀h o k,find hp h=some o->o.blk (U' h)=some k->k<w.heap.size:=fun h o k hf hb=>by
  have q:=hh.ok h o hf;rw[hag h q.1]at hb;exact(O.blk_lt q.2.2 hb).1
 have part:∀h o,find (hp' ++ hp) h=some o->find hp' h=some o∨find hp h=some o:=fun h o hf=>by
  rw[jnM]at hf;cases hq:find hp' h with
  |some o1=>simp only[hq]at hf;exact .inl hf
  |none=>simp only[hq]at hf;exact .inr hf
 refine⟨⟨fun h o hf=>?_,fun h o h' o' k hf hf' hne hb hb'=>?_,hold.glob⟩,fun h o k hn hf hb=>?_⟩
 ·rcases part h o hf with hq|hq
  ·have q:=h1.ok h o (hs h o hq).1;exact⟨q.1,q.2.1,jvY (own h o hq) q.2.2 hBn⟩
  ·have q:=hold.ok h o hq;exact⟨zC q.1 hle,O.lt_mono hle q.2.1,q.2.2⟩
 ·rcases part h o hf with hq|hq<;>rcases part h' o' hf' with hq' | hq'
  ·exact h1.apart h o h' o' k (hs h o hq).1 (hs h' o' hq').1 hne hb hb'
  ·have:=new h o k hq hb;have:=oldlt h' o' k hq' hb';omega
  ·have:=oldlt h o k hq hb;have:=new h' o' k hq' hb';omega
  ·exact hold.apart h o h' o' k hq hq' hne hb hb'
 ·rcases part h o hf with hq|hq
  ·exact new h o k hq hb
  ·have:=(hh.ok h o hq).1;omega
def jBP {f fuel:Nat} {fn:jQ} {body:yb} (hm:P.follows .mixedOrders=true) (hsp:jac P sp) (hfr:jbY sp) (hf:P.funcs[f]?=some fn) (hb:fn.body=some body) (hn:(fn.name == "runtime.NumGoroutine")=false) :
  jaf P f true (jtv P sp fn body fuel):=by
 refine .inl ⟨jcD hf hb hn,fun U B w args hp nx t hS hob hlt hh hB=>?_⟩;unfold jtv at hS;split at hS
 ·cases hS
 ·rename_i hlen;have hlen:=zj hlen;split at hS
  ·rename_i e st hcx;split at hS
   ·cases hS
   ·rename_i hne;split at hS
    ·rename_i l hl hle;have hle:=zj hle;rw[jdi]at hS;obtain⟨hp',h1,h2⟩:=jq5 nx (ja0 l) st (jtu (ja0 l) hp st.nx);rw[h1]at hS;unfold jtu at hS;split at hS
     ·rename_i hk;cases hS;obtain⟨ha1,ha2⟩:=jgA hh hlt;have hro:=jy0 hh hB;have hc:=jnL (f:=f) (args:=args.map (jha hp)) (B:=kd fun k=>k<w.heap.size) hsp hfr (fun U w=>jbG hm hsp) hf hb (by simpa using hlen) hcx (fun j e=>hne j e) hl ha2 hro (fun k hk=>(jbe.1 hk));rw[ha1]at hc;refine hc.mono ?_;rintro e' w' ⟨U',rfl,q2,q3,⟨B1,g,q4⟩,q5⟩;have hbel:xA w.heap.size w w':=Bel.below q5;have hB1:∀k,¬B1.all k->w.heap.size<=k:=fun k hk=>xQ fun hlt=>hk (.inl (g.le.kp k hlt));obtain⟨r1,r2⟩:=jAt hh hB hbel q3 hle q4 hB1 h2 hk;exact⟨U',rfl,q3,q2,hle,HRel.gr r1,jbV hbel hB,fun _=>hbel,fun _=>r2⟩
     ·cases hS
    ·cases hS
  ·cases hS
def jy1 {fn:jQ} {body:yb} {fuel:Nat} {args:List V} {t:RT} (h:jtv P sp fn body fuel args hp nx=some t):t.sel.ob:=by
 unfold jtv at h;split at h
 ·cases h
 ·split at h
  ·rename_i e st hcx;split at h
   ·cases h
   ·split at h
    ·rename_i l hl hle;rw[jdi]at h;obtain⟨hp',h1,_⟩:=jq5 nx (ja0 l) st (jtu (ja0 l) hp st.nx);rw[h1]at h;unfold jtu at h;split at h
     ·cases h;trivial
     ·cases h
    ·cases h
  ·cases h
def jqr {ov:jaa} {ro:Nat->Bool} {fuel:Nat} (hm:P.follows .mixedOrders=true) (hov:jac P ov) (hfo:jbY ov):∀n,jac P (jnJ P ov ro fuel n)∧jbY (jnJ P ov ro fuel n)
 |0=>⟨(fun f M S h=>by cases h),(fun f M S args hp nx t h=>by cases h)⟩
 |n+1=>by
  obtain⟨ih1,ih2⟩:=jqr hm hov hfo (ro:=ro) (fuel:=fuel) n;refine⟨fun f M S h=>?_,fun f M S args hp nx t h hS=>?_⟩
  ·unfold jnJ at h;split at h
   ·rename_i x hx;cases h;exact hov f M S hx
   ·split at h
    ·rename_i fn hf;split at h
     ·rename_i body hb hn;split at h
      ·cases h;exact jBP hm ih1 ih2 hf hb hn
      ·cases h;exact jCD hm ih1 ih2 hf hb hn
     ·cases h
    ·cases h
  ·unfold jnJ at h;split at h
   ·rename_i x hx;cases h;exact hfo f M S args hp nx t hx hS
   ·split at h
    ·split at h
     ·split at h
      ·cases h;exact jy1 hS
      ·cases h;exact jAs hS
     ·cases h
    ·cases h
end
end Go.Sx
end

section
open Go.RowKit
namespace Go.Sx
section
variable {P:zy} {U:Env} {B:Kd} {nx:Nat} {hp:Hp} {w:zx}
def jy2 (I J:Globs) (ht:I.tab=J.tab) (hh:I.held=J.held) {B:Bd} {w:zx} (h:@jbx I B w):@jbx J B w:=by
 cases I;cases J;cases ht;cases hh;exact h
def jlM (I J:Globs) (ht:I.tab=J.tab) (hd:I.held=J.held) (h:@HRel I U B hp nx w):@HRel J U B hp nx w :=
 @HRel.mk J _ _ _ _ _ (@HRel.ok I _ _ _ _ _ h) (@HRel.apart I _ _ _ _ _ h) (jy2 I J ht hd (@HRel.glob I _ _ _ _ _ h))
def jq6 (I J:Globs) (ht:I.tab=J.tab) (hd:I.held=J.held) {f:Nat} {M:Bool} {S:Spec} (h:@jaf I P f M S):@jaf J P f M S:=by
 rcases h with h|h
 ·refine .inl (@RunOK.mk J _ _ _ _ (@RunOK.enter I _ _ _ _ h) fun U B w args hp nx t hS ho hl hh hB=>?_);refine(@RunOK.sound I _ _ _ _ h U B w args hp nx t hS ho hl (jlM J I ht.symm hd.symm hh) hB).mono ?_;rintro e w' ⟨U',e1,hL⟩;obtain⟨B',g,q⟩:=@Left.heap I _ _ _ _ _ _ _ _ hL;exact⟨U',e1,@Left.mk J _ _ _ _ _ _ _ _ (@Left.agree I _ _ _ _ _ _ _ _ hL) (@Left.lt I _ _ _ _ _ _ _ _ hL) (@Left.le I _ _ _ _ _ _ _ _ hL) ⟨B',g,jlM I J ht hd q⟩ (@Left.below I _ _ _ _ _ _ _ _ hL) (@Left.mono I _ _ _ _ _ _ _ _ hL) (@Left.fresh I _ _ _ _ _ _ _ _ hL)⟩
 ·exact .inr fun U B w args hp nx t hS ho hl hh hB=>h U B w args hp nx t hS ho hl (jlM J I ht.symm hd.symm hh) hB
end
def jxs (hp:Hp) (k:NK) (c:C):Option NC :=
 match c with
 | .d (.v (.slice none 0 0))=>jl9 k
 | .d x=>match jbw k (.d x)with
  |true=>some (.d x)
  |false=>none
 | .o h=>match find hp h with
  |some (.ext c)=>match jbw k (.r c)with
   |true=>some (.r c)
   |false=>none
  |_=>none
 |_=>none
def jhb (hp:Hp):List NK->List C->Option (List NC)
 |[],[]=>some []
 |k::ks,c::cs=>match jxs hp k c,jhb hp ks cs with
  |some x,some l=>some (x::l)
  |_,_=>none
 |_,_=>none
def jmm (hp:Hp) (sh:List NK):Nat->List C->Option (List (List NC))
 |0,cs=>match cs with
  |[]=>some []
  |_=>none
 |n+1,cs=>match jhb hp sh (cs.take sh.length),jmm hp sh n (cs.drop sh.length)with
  |some r,some l=>some (r::l)
  |_,_=>none
def jpe (hp:Hp) (e n:Nat) (cs:List C):List XC->Option XC
 |[]=>none
 |x::l=>match zt x.e e,zt e x.sh.length,qh 0 e with
  |true,true,true=>match jmm hp x.sh n cs with
   |some rs=>some (x.mk rs)
   |none=>jpe hp e n cs l
  |_,_,_=>jpe hp e n cs l
def jmn (hp:Hp) (xs:List XC) (o:O):O :=
 match o with
 | .elist e n cs=>match jpe hp e n cs xs with
  |some X=>.xext X
  |none=>o
 |_=>o
def hpQ (xs:List XC) (hp:Hp):Hp:=hp.map fun x=>(x.1,jmn hp xs x.2)
def fHp {α:Type} (hp:Hp):(Hp->α)->α:=fL (fun x k=>fN x.1 fun n=>fO x.2 fun o=>k (n,o)) hp
def jBn (o:O):O:=match je3 o with
 |true=>o
 |false=>match o with
  | .dead=>.dead
  |_=>.atom
def jlN (hp:Hp):Hp:=hp.map fun x=>(x.1,jBn x.2)
def jfj (xs:List XC) (shs:List SV) (g:List Lf->Option (List RR)):Spec:=fun args hp nx =>
 match jjD (hpQ xs (jgb hp)) shs (args.map (jha hp))with
 |some (ls,am)=>match g ls with
  |some rs=>match jcn am rs nx with
   |b=>fV (ja0 b.ws) fun v=>fHp (jlN b.hp) fun hp'=>fN b.n fun n=>match hp'.all (fun x=>qn nx x.1)with
    |true=>some (.leaf ⟨True,v,hp' ++ hp,n⟩)
    |false=>none
  |none=>none
 |none=>none
section
variable [Globs] {P:zy} {U:Env} {B:Kd} {nx:Nat} {hp:Hp} {w:zx}
def jxt (hh:HRel U B hp nx w) {k:NK} {c:C} {x:NC} (h:jxs hp k c=some x):jbw k x=true∧x.at B.kp w (c.val U):=by
 unfold jxs at h;split at h
 ·have:=jjg h;exact⟨this.1,this.2 _ _⟩
 ·split at h
  ·rename_i hk;cases h;exact⟨hk,rfl⟩
  ·cases h
 ·rename_i h0;split at h
  ·rename_i c0 hf;split at h
   ·rename_i hk;cases h;exact⟨hk,(hh.ok _ _ hf).2.2⟩
   ·cases h
  ·cases h
 ·cases h
def jm8 (hh:HRel U B hp nx w):∀{sh:List NK} {cs:List C} {r:List NC},jhb hp sh cs=some r ->
  jcx sh r∧cs.length=sh.length∧∀(j:Nat) (x:NC) (c:C),r[j]?=some x->cs[j]?=some c->x.at B.kp w (c.val U)
 |[],[],r,h=>by
  simp only[jhb,zi]at h;subst h;exact⟨⟨rfl,fun j k x h=>by simp at h⟩,rfl,fun j x c h=>by simp at h⟩
 |[],c::cs,r,h=>by simp[jhb]at h
 |k::sh,[],r,h=>by simp[jhb]at h
 |k::sh,c::cs,r,h=>by
  simp only[jhb]at h;split at h
  ·rename_i x l hx hl;simp only[zi]at h;subst h;obtain⟨a1,a3⟩:=jxt hh hx;obtain⟨b1,b2,b4⟩:=jm8 hh hl;refine⟨⟨by simp[b1.1],fun j k' x' hj hx'=>?_⟩,by simp[b2],fun j x' c' hj hc=>?_⟩
   ·cases j with
    |zero=>simp at hj hx';subst hj;subst hx';exact a1
    |succ j=>exact b1.2 j k' x' (by simpa using hj) (by simpa using hx')
   ·cases j with
    |zero =>
     simp at hj hc;subst hj;subst hc;exact a3
    |succ j=>exact b4 j x' c' (by simpa using hj) (by simpa using hc)
  ·cases h
def jpf (hh:HRel U B hp nx w) {sh:List NK}:∀{n:Nat} {cs:List C} {rs:List (List NC)},jmm hp sh n cs=some rs ->
  rs.length=n∧(∀r∈rs,jcx sh r)∧∀(i j:Nat) (c:C),i<n->j<sh.length->cs[i*sh.length+j]?=some c->((rs.getD i []).getD j (.d (.v qe))).at B.kp w (c.val U)
 |0,cs,rs,h=>by
  cases cs with
  |nil =>
   simp only[jmm,zi]at h;subst h;exact⟨rfl,(fun _ h=>by cases h),fun i j c hi=>by omega⟩
  |cons c cs=>simp[jmm]at h
 |n+1,cs,rs,h=>by
  simp only[jmm]at h;split at h
  ·rename_i r l hr hl;simp only[zi]at h;subst h;obtain⟨a1,a2,a3⟩:=jm8 hh hr;obtain⟨b1,b2,b3⟩:=jpf hh hl;refine⟨by simp[b1],fun r' hr'=>?_,fun i j c hi hj hc=>?_⟩
   ·rcases qv.1 hr' with e|e
    ·subst e;exact a1
    ·exact b2 r' e
   ·cases i with
    |zero =>
     rw[Nat.zero_mul,zP]at hc;have hjr:j<r.length:=by rw[a1.1];exact hj
     have e1:(r.getD j (.d (.v qe)))=r[j]:=by simp[za,hjr]
     show(r.getD j _).at _ _ _
     rw[e1];exact a3 j _ c (zJ hjr) (by rw[yN hj];exact hc)
    |succ i =>
     show((l.getD i []).getD j _).at _ _ _
     refine b3 i j c (by omega) hj ?_;rw[List.getElem?_drop];rw[<-hc]
     congr 1
     rw[qo];omega
  ·cases h
def jjZ (hh:HRel U B hp nx w) {h e n:Nat} {cs:List C} (hok:(O.elist e n cs).ok U B w h):∀{xs:List XC} {X:XC},jpe hp e n cs xs=some X->IsX B.kp w (U h) X
 |[],X,hp=>by cases hp
 |x::l,X,hq=>by
  unfold jpe at hq;split at hq
  ·rename_i h1 h2 h3;have h1:=zb h1;have h2:=zb h2;split at hq
   ·rename_i rs hrs;cases hq;obtain⟨q1,q2,q3,q4⟩:=hok;obtain⟨a,cap,hv,hc,hadr⟩:=q1;obtain⟨r1,r2,r3⟩:=jpf hh hrs;obtain⟨m1,m2,m3⟩:=x.cell_mk r2;refine⟨a,cap,by rw[m1,r1];exact hv,by rw[m1,r1];exact hc,fun hn=>?_⟩;rw[m1,r1]at hn;obtain⟨b,off,rfl⟩:=hadr hn;refine⟨b,off,rfl,?_,fun i j hi hj=>?_⟩
    ·exact q2 _ n cap hv hn
    ·rw[m1]at hi;rw[m2]at hj ⊢;have hi':i<n:=by rw[<-r1];exact hi
     have hlt:i*x.e+j<cs.length:=by
      rw[q3,<-h1]
      calc i*x.e+j<i*x.e+x.e:=by omega
       _=(i+1)*x.e:=by rw[qo];omega
       _<=n*x.e:=zW _ hi'
     have hget:=zJ hlt;have:=q4 _ _ hget;rw[hv]at this;refine⟨_,this,?_⟩;rw[m3 i j hi hj];exact r3 i j _ hi' (by rw[<-h2,<-h1];exact hj) (by rw[<-h2,<-h1];exact hget)
   ·exact jjZ hh hok hq
  ·exact jjZ hh hok hq
def jAu (xs:List XC) (hp0 hp:Hp) (h:Nat):find (hp.map fun x=>(x.1,jmn hp0 xs x.2)) h=(find hp h).map (jmn hp0 xs):=by
 induction hp with
 |nil=>rfl
 |cons x r ih =>
  obtain⟨k,o⟩:=x;simp only[zM,find]at *;split
  ·rfl
  ·exact ih
def jy3 {xs:List XC} (hh:HRel U B hp nx w) (hn:∀h o,find hp h=some o->o.blk (U h)=none):HRel U B (hpQ xs hp) nx w:=by
 have key:∀h o',find (hpQ xs hp) h=some o'->∃o,find hp h=some o∧o'=jmn hp xs o:=fun h o' hf=>by
  unfold hpQ at hf;rw[jAu]at hf;obtain⟨o,ho,rfl⟩:=z5.1 hf;exact⟨o,ho,rfl⟩
 have nob:∀h o',find (hpQ xs hp) h=some o'->o'.blk (U h)=none:=fun h o' hf=>by
  obtain⟨o,ho,rfl⟩:=key h o' hf;have:=hn h o ho;unfold jmn;split
  ·split
   ·rfl
   ·exact this
  ·exact this
 refine⟨fun h o' hf=>?_,fun h o k o' b hf hf' _ hb=>?_,hh.glob⟩
 ·obtain⟨o,ho,rfl⟩:=key h o' hf;obtain⟨q1,q2,q3⟩:=hh.ok h o ho;unfold jmn;split
  ·split
   ·rename_i X hX;exact⟨q1,trivial,jjZ hh q3 hX⟩
   ·exact⟨q1,q2,q3⟩
  ·exact⟨q1,q2,q3⟩
 ·rw[nob h o hf]at hb;cases hb
def jy4 {α:Type} (hp:Hp) (k:Hp->α):fHp hp k=k hp:=by
 unfold fHp;rw[ja8 fun x k=>by rw[jbJ,jxg]]
def jCE {h:Nat} {o:O} (hf:find (jgb hp) h=some o) (v:zF):o.blk v=none:=by
 rw[jqq]at hf;obtain⟨o1,_,rfl⟩:=z5.1 hf;exact jvX v o1
def jAv (f:O->O) (hp:Hp) (h:Nat):find (hp.map fun x=>(x.1,f x.2)) h=(find hp h).map f:=by
 induction hp with
 |nil=>rfl
 |cons x r ih =>
  obtain⟨k,o⟩:=x;simp only[zM,find]at *;split
  ·rfl
  ·exact ih
def jy5 {w':zx} {U':Env} {B1:Kd} {hp1 hp':Hp} {nx1:Nat} (hh:HRel U B hp nx w) (hB:Old B w) (hbel:xA w.heap.size w w') (hag:jae nx U U') (hle:nx<=nx1) (h1:HRel U' B1 hp1 nx1 w') (hB1:∀k,¬B1.all k->w.heap.size<=k)
  (hs:∀h o,find hp' h=some o->((h<nx1∧o.ok U' B w' h∧o.lt nx1∧∀v,o.blk v=none)∨(find hp1 h=some o∧je3 o=true))∧nx<=h) :
  HRel U' B (hp' ++ hp) nx1 w'∧∀h o k,nx<=h->find (hp' ++ hp) h=some o->o.blk (U' h)=some k->w.heap.size<=k:=by
 have hold:=(hh.below hbel hB).agree hag;have hBn:∀k,¬B1.all k->¬B.all k:=fun k hk hc=>by have:=hB k hc;have:=hB1 k hk;omega
 have new:∀h o k,find hp' h=some o->o.blk (U' h)=some k->w.heap.size<=k:=fun h o k hf hb=>by
  rcases(hs h o hf).1 with ⟨_,_,_,hn⟩|⟨hf1,_⟩
  ·rw[hn]at hb;cases hb
  ·exact hB1 k (O.blk_lt (h1.ok h o hf1).2.2 hb).2
 have oldlt:∀h o k,find hp h=some o->o.blk (U' h)=some k->k<w.heap.size:=fun h o k hf hb=>by
  have q:=hh.ok h o hf;rw[hag h q.1]at hb;exact(O.blk_lt q.2.2 hb).1
 have part:∀h o,find (hp' ++ hp) h=some o->find hp' h=some o∨find hp h=some o:=fun h o hf=>by
  rw[jnM]at hf;cases hq:find hp' h with
  |some o1=>simp only[hq]at hf;exact .inl hf
  |none=>simp only[hq]at hf;exact .inr hf
 refine⟨⟨fun h o hf=>?_,fun h o h' o' k hf hf' hne hb hb'=>?_,hold.glob⟩,fun h o k hn hf hb=>?_⟩
 ·rcases part h o hf with hq|hq
  ·rcases(hs h o hq).1 with ⟨hlt,q1,q2,_⟩|⟨hf1,hk⟩
   ·exact⟨hlt,q2,q1⟩
   ·have q:=h1.ok h o hf1;exact⟨q.1,q.2.1,jvY hk q.2.2 hBn⟩
  ·have q:=hold.ok h o hq;exact⟨zC q.1 hle,O.lt_mono hle q.2.1,q.2.2⟩
 ·rcases part h o hf with hq|hq<;>rcases part h' o' hf' with hq' | hq'
  ·rcases(hs h o hq).1 with ⟨_,_,_,hn⟩|⟨hf1,_⟩
   ·rw[hn]at hb;cases hb
   rcases(hs h' o' hq').1 with ⟨_,_,_,hn⟩|⟨hf1',_⟩
   ·rw[hn]at hb';cases hb'
   exact h1.apart h o h' o' k hf1 hf1' hne hb hb'
  ·have:=new h o k hq hb;have:=oldlt h' o' k hq' hb';omega
  ·have:=oldlt h o k hq hb;have:=new h' o' k hq' hb';omega
  ·exact hold.apart h o h' o' k hq hq' hne hb hb'
 ·rcases part h o hf with hq|hq
  ·exact new h o k hq hb
  ·have:=(hh.ok h o hq).1;omega
def jvb {α:Type} {a b:List α} (h:a++b=b):a=[]:=by
 have:=congrArg zg h;rw[qb]at this;exact List.length_eq_zero_iff.1 (by omega)
def jBQ {f:Nat} {xs:List XC} {shs:List SV} {g0:List Lf->Option GT} {g:List Lf->Option (List RR)} (hs:jaf P f true (jai shs g0))
  (hg:∀ls rs,g ls=some rs->∃t,g0 ls=some t∧t.sel.2=rs∧t.sel.1):jaf P f true (jfj xs shs g):=by
 have key:∀args hp nx t,jfj xs shs g args hp nx=some t->∃(t0:RT) (b:Rw),jai shs g0 (args.map (jha hp)) (hpQ xs (jgb hp)) nx=some t0∧t0.sel.ob∧t0.sel.v=ja0 b.ws∧t0.sel.hp=b.hp++hpQ xs (jgb hp)∧t0.sel.nx=b.n ∧
   t=.leaf ⟨True,ja0 b.ws,jlN b.hp++hp,b.n⟩∧(jlN b.hp).all (fun x=>qn nx x.1)=true:=by
  intro args hp nx t h;unfold jfj at h;split at h
  ·rename_i ls am hto;split at h
   ·rename_i rs hrs;obtain⟨t0,h0,h1,h2⟩:=hg ls rs hrs;rw[jdi,jy4,jbJ]at h;split at h
    ·rename_i hall;cases h;refine⟨t0.toRT am (hpQ xs (jgb hp)) nx,jcn am rs nx,?_,?_,?_,?_,?_,rfl,hall⟩
     ·unfold jai;rw[hto];simp only[h0]
     all_goals rw[jbH]
     ·exact h2
     all_goals rw[<-h1]
    ·cases h
   ·cases h
  ·cases h
 have rel:∀{U:Env} {B:Kd} {w:zx} {hp:Hp} {nx:Nat},HRel U B hp nx w->Old B w->HRel U (kd fun k=>k<w.heap.size) (hpQ xs (jgb hp)) nx w:=fun hh hB =>
  jy3 (jy0 hh hB) fun h o hf=>jCE hf _
 rcases hs with hs|hs
 ·refine .inl ⟨hs.enter,fun U B w args hp nx t hS hob hlt hh hB=>?_⟩;obtain⟨t0,b,h0,h1,h2,h3,h4,rfl,h5⟩:=key args hp nx t hS;obtain⟨ha1,ha2⟩:=jgA hh hlt;have hc:=hs.sound U (kd fun k=>k<w.heap.size) w _ _ nx t0 h0 h1 ha2 (rel hh hB) (fun k hk=>jbe.1 hk);rw[ha1]at hc;refine hc.mono ?_;rintro e w' ⟨U',rfl,hL⟩;obtain⟨B1,gB,q4⟩:=hL.heap;have hbel:xA w.heap.size w w':=hL.mono rfl;have hB1:∀k,¬B1.all k->w.heap.size<=k:=fun k hk=>xQ fun hlt=>hk (.inl (gB.le.kp k hlt));have hall:=zq.1 h5;rw[h3,h4]at q4
  obtain⟨r1,r2⟩:=jy5 (hp':=jlN b.hp) hh hB hbel hL.agree (by have:=hL.le;rw[h4]at this;exact this) q4 hB1 fun h o hf=>by
   have hn:=zj (hall _ (jjm hf));unfold jlN at hf;rw[jAv]at hf;obtain⟨o1,ho1,rfl⟩:=z5.1 hf;have hfa:find (b.hp++hpQ xs (jgb hp)) h=some o1:=by rw[jnM,ho1]
   refine⟨?_,hn⟩;unfold jBn;split
   ·rename_i hk;exact .inr ⟨hfa,hk⟩
   ·refine .inl ⟨(q4.ok h o1 hfa).1,?_⟩;split
    ·exact⟨trivial,trivial,fun _=>rfl⟩
    ·rename_i hnd;refine⟨?_,trivial,fun _=>rfl⟩
     have h1:C.one (b.hp++hpQ xs (jgb hp)) (.o h)=true:=by
      unfold C.one;simp only[hfa]
     exact C.one_val q4 h1
  refine⟨U',by rw[h2];rfl,hL.agree,?_,?_,HRel.gr r1,jbV hbel hB,fun _=>hbel,fun _=>r2⟩
  ·have:=hL.lt;rw[h2,h4]at this;exact this
  ·have:=hL.le;rw[h4]at this;exact this
 ·refine .inr fun U B w args hp nx t hS hob hlt hh hB=>?_;obtain⟨t0,b,h0,h1,h2,h3,h4,rfl,h5⟩:=key args hp nx t hS;obtain⟨ha1,ha2⟩:=jgA hh hlt;obtain⟨ob,v,e1,e2,e3⟩:=hs U (kd fun k=>k<w.heap.size) w _ _ nx t0 h0 h1 ha2 (rel hh hB) (fun k hk=>jbe.1 hk);rw[e1]at h2 h3 h4;have hb:=jvb h3.symm;rw[hb];have hv:v=ja0 b.ws:=h2;refine⟨True,v,?_,e2,by rw[<-ha1];exact e3⟩
  show Res.mk _ _ _ _=_
  rw[hv,<-h4];rfl
def jy6 {xs:List XC} {shs:List SV} {g:List Lf->Option (List RR)} {args:List V} {t:RT} (h:jfj xs shs g args hp nx=some t):t.sel.ob:=by
 unfold jfj at h;split at h
 ·split at h
  ·rw[jdi,jy4,jbJ]at h;split at h
   ·cases h;trivial
   ·cases h
  ·cases h
 ·cases h
end
end Go.Sx
end

section
open Go.RowKit
namespace Go.Sx
def jhM:yb->List yb
 | .seq a b=>jhM a++jhM b
 |c=>[c]
section
variable [Globs] {P:zy} {sp:jaa}
def cxL (P:zy) (sp:jaa) (N fuel:Nat):List yb->St->Option (Ex × St)
 |[],st=>some (.normal,st)
 |c::l,st=>jcW (cx P sp N fuel c st) (cxL P sp N fuel l)
def jAw (r:Option (Ex × St)):jcW r (fun st=>some (.normal,st))=r:=by
 unfold jcW;split<;>rfl
def jvc (r:Option (Ex × St)) (f g:St->Option (Ex × St)):jcW (jcW r f) g=jcW r fun st=>jcW (f st) g:=by
 unfold jcW;cases r with
 |none=>rfl
 |some x =>
  obtain⟨e,st⟩:=x;cases e<;>rfl
def jpg {N fuel:Nat}:∀(l l2:List yb) (st:St),cxL P sp N fuel (l++l2) st=jcW (cxL P sp N fuel l st) (cxL P sp N fuel l2)
 |[],l2,st=>rfl
 |c::l,l2,st=>by
  simp only[qm,cxL];rw[jvc]
  congr 1
  funext s;exact jpg l l2 s
def jvZ {N fuel:Nat} (c:yb) (st:St):cxL P sp N fuel [c] st=cx P sp N fuel c st:=jAw _
def jBR {N fuel:Nat} (c:yb):∀st:St,cxL P sp N fuel (jhM c) st=cx P sp N fuel c st:=by
 induction c with
 |seq a b iha ihb =>
  intro st;simp only[jhM];rw[jpg,iha]
  show jcW (cx P sp N fuel a st) _=jcW (cx P sp N fuel a st) (cx P sp N fuel b)
  congr 1
  funext s;exact ihb s
 |_=>exact fun st=>jvZ _ st
def jeb {N fuel:Nat} {c:yb} {l:List yb} {st st':St} {r:Option (Ex × St)} (h:cx P sp N fuel c st=some (.normal,st')) (hl:cxL P sp N fuel l st'=r):cxL P sp N fuel (c::l) st=r:=by
 simp only[cxL,h,jcW];exact hl
def jy7 {f fuel:Nat} {fn:jQ} {body:yb} {x:D} {e:Ex} {st:St} {g:List Lf->Option GT} (hm:P.follows .mixedOrders=true) (hsp:jac P sp) (hfr:jbY sp) (hf:P.funcs[f]?=some fn) (hb:fn.body=some body) (hn:(fn.name == "runtime.NumGoroutine")=false)
  (hcx:cxL P sp fn.ntmps fuel (jhM body) ⟨[],[],0⟩=some (e,st)) (he:∀j,e≠.exit j) (hl:jdH P st fn.results.toList=some [.c (.d x)])
  (hg:∀ls t,g ls=some t->ls=[]∧∃ob,t=.leaf ob [.c (.d x)]):jaf P f true (jai [] g):=by
 refine jtk hf hb hn fun ls t h=>?_;obtain⟨rfl,ob,rfl⟩:=hg ls t h;refine⟨ob,x,rfl,fun _ b hbl U w hh=>?_⟩;simp only[jeF,zi]at hbl;subst hbl;rw[jBR]at hcx;have hc:=jnL (f:=f) (args:=[]) (B:=kd fun k=>k<w.heap.size) (U:=U) (w:=w) hsp hfr (fun U w=>jbG hm hsp) hf hb (qI _) hcx he hl (fun _ h=>by cases h) hh (fun k hk=>jbe.1 hk);refine hc.mono ?_;rintro e' w' ⟨U',rfl,q2,q3,q4,q5⟩;exact⟨rfl,Bel.below q5⟩
end
end Go.Sx
end

section
open Go Go.RowKit
namespace Go.Sx
section
variable [Globs] {P:zy} {sp:jaa} {U U0:Env} {B:Kd} {nx N n0:Nat} {hp:Hp} {w w0:zx} {st:St} {a:Act} {ds:List x7}
def jy8 {o:zX} {t yt:qf} {x:zH} {u:V} {aa:Option Addr} {n cap:Nat} {K:Act->zx->Prop} {Q:jP->Act->zx->Prop} (hop:o.op=.binOp .eql t x (.const (.slice none 0 0)) yt) (hd:jb0 N o.dst=true) (hit:jl6 P t=true)
  (hx:jbC st x=some u) (hv:u.val U=.slice aa n cap) (hr:RelD ds U B N n0 st a w)
  (hK:RelD ds U B N n0 (st.put o.dst ⟨True,vb aa.isNone,st.hp,st.nx⟩) (a.put o.dst (.bool aa.isNone)) w->K (a.put o.dst (.bool aa.isNone)) w):o.wp P a w K Q:=by
 obtain⟨ms,hms⟩:∃ms,P.underlying t=some (.slice ms):=by
  unfold jl6 at hit;split at hit
  ·rename_i ms h';exact⟨ms,h'⟩
  ·cases hit
 have h1:=hr.reads _ _ hx;have e1:a.eval x=.slice aa n cap:=by rw[h1.2,hv]
 have e2:a.eval (.const (.slice none 0 0))=.slice none 0 0:=rfl
 have heq:(gh t (.slice aa n cap) (.slice none 0 0)).run P w=.ok aa.isNone w:=by
  unfold gh;rw[show Op.maxDepth=9999+1 from rfl,Op.equalIn];cases aa<;>simp only[zn,run_underlying hms,zh,zp]<;>rfl
 have hg:(eqGuard .eql t x (.const (.slice none 0 0)) (.slice aa n cap) (.slice none 0 0)).run P w=.ok () w:=by
  cases x<;>rfl
 have hb:(binOp .eql t (.slice aa n cap) (.slice none 0 0)).run P w=.ok (.bool aa.isNone) w:=by
  simp only[binOp,zn,heq,zh,zp]
 have hrun:(qr a.eval o).run P w=.ok (.value (.bool aa.isNone)) w:=by
  unfold qr;simp only[hop,e1,e2,zn,hg,hb,zh,zp]
 obtain⟨B1,g,hh⟩:=hr.heap;have hl:Left U B1 st.nx w ⟨True,vb aa.isNone,st.hp,st.nx⟩ false U w:=⟨jae.refl _ _,trivial,zu _,⟨B1,Grow.refl _ _ _ _,hh⟩,Bel.refl _ _,(fun h=>by cases h),fun h=>by cases h⟩
 have:=hr.put1 (o:=o) g hd hl;unfold Oper.wp;rw[hrun];exact hK this
def jio {f:Nat} {fn:jQ} {body:yb} {args:List V} {hp0:Hp} {nx0:Nat} {post:V->Hp->Nat->Prop}
  (hf:P.funcs[f]?=some fn) (hb:fn.body=some body) (hlen:args.length<=fn.ntmps)
  (hlt:∀x∈args,V.lt nx0 x) (hn0:n0<=nx0) (U:Env) (w:zx) (hh:HRel U B hp0 nx0 w) (hB:Old B w)
  (h:∀a:Act,Rel U B fn.ntmps n0 ⟨jbO 0 args,hp0,nx0⟩ a w->body.wp P (Qx [] U B fn.ntmps n0 w (jcm P fn.results.toList post)) a w) :
  Calls P f (args.map (V.val U)).toArray w fun e w'=>∃U' v hp' nx',e=.returned (v.val U')∧v.lt nx'∧jae n0 U U'∧(∃B',Grow B B' false w' w'∧HRel U' B' hp' nx' w')∧Bel B w w'∧Old B w'∧post v hp' nx':=by
 refine calls_of_wp hf hb ?_;have hrel:=jep (n0:=n0) hlen hlt hn0 U w hh hB;refine xG (h _ hrel) ?_;rintro e a' w' ⟨x,U',st',rfl,hk,hr',hag',hbl'⟩
 have fin:∀l:List (Prop × W),jdO P st' fn.results.toList=some l->jiB l (post (ja0 (l.map (·.2))) st'.hp st'.nx) ->
   a'.defers=[]∧∃v,(results fn a'.tmps).run P w'=.ok v w'∧∃U' v' hp' nx',xO v=.returned (v'.val U')∧v'.lt nx'∧jae n0 U U'∧(∃B',Grow B B' false w' w'∧HRel U' B' hp' nx' w')∧Bel B w w'∧Old B w'∧post v' hp' nx':=by
  intro l hl ho;have hra:=jgn hr' _ l _ hl ho;refine⟨hr'.defers,(ja0 (l.map (·.2))).val U',?_,U',ja0 (l.map (·.2)),st'.hp,st'.nx,rfl,je2 (fun y hy=>?_),hag',hr'.heap,hbl',hr'.le,hra.2.2⟩
  ·rw[jcR];simp only[jjn,yA,zn,gX,hra.1,zh,zp,xI];rfl
  ·obtain⟨z,hz,rfl⟩:=qu.1 hy;exact hra.2.1 z hz
 cases x with
 |normal =>
  simp only[jcm]at hk;split at hk
  ·rename_i l hl;exact fin l hl hk
  ·exact hk.elim
 |exit j=>exact hk.elim
 |ret =>
  simp only[jcm]at hk;split at hk
  ·rename_i l hl;exact fin l hl hk
  ·exact hk.elim
def jy9 {f:Nat} {fn:jQ} {body:yb} {shs:List SV} {g:List Lf->Option GT} (hf:P.funcs[f]?=some fn) (hb:fn.body=some body) (hn:(fn.name == "runtime.NumGoroutine")=false)
  (h:∀ls t,g ls=some t->t.sel.1->∀b:Bv,jeF shs 0 ls=some b->(∀x∈b.vs,V.lt b.n x)->∀U w,HRel U (kd fun k=>k<w.heap.size) b.hp b.n w->Old (kd fun k=>k<w.heap.size) w ->
   Calls P f (b.vs.map (V.val U)).toArray w fun e w'=>∃U' v hp' nx',e=.returned (v.val U')∧v.lt nx'∧jae b.n U U'∧(∃B',Grow (kd fun k=>k<w.heap.size) B' false w' w'∧HRel U' B' hp' nx' w')∧Bel (kd fun k=>k<w.heap.size) w w'∧Old (kd fun k=>k<w.heap.size) w'∧jf1 b.n t.sel.2 v hp') :
  jaf P f true (jai shs g):=by
 refine .inl ⟨jcD hf hb hn,fun U B w args hp nx t hS hob hlt hh hB=>?_⟩;unfold jai at hS;split at hS
 ·rename_i ls am hto;split at hS
  ·rename_i t' hg;cases hS;rw[jbH]at hob ⊢;have hob:t'.sel.1:=hob;obtain⟨b,U0,hbl,q⟩:=jhG hh hB shs args ls am hto hlt 0 (fun _=>qe) [];rw[yD]at hbl;have hbn:b.n=am.length:=by have:=q.nn;omega
   have hh0:HRel U0 (kd fun k=>k<w.heap.size) b.hp b.n w:=by
    refine⟨fun x o hf=>?_,fun x o x' o' k hf hf' _ hb=>?_,jjC hh.glob hB⟩
    ·obtain⟨_,a2,a3,a4,_⟩:=q.heap x o hf;exact⟨a2,a3,a4⟩
    ·obtain⟨_,_,_,_,a5⟩:=q.heap x o hf;rw[a5]at hb;cases hb
   have hcalls:=h ls t' hg hob b hbl q.lt U0 w hh0 (fun k hk=>jbe.1 hk);rw[q.val]at hcalls;refine hcalls.mono ?_;rintro e w' ⟨U',v,hp',nx',rfl,hvlt,hag,⟨Bc,gB,hh'⟩,hbel,hold,hfit⟩;have hbw:xA w.heap.size w w':=hbel.below;have hBc:Old Bc w':=gB.old hold
   have hfr:∀k,Bc.fr k->w.heap.size<=k:=fun k hk=>by
    rcases gB.out k hk with h1|h1
    ·exact h1.elim
    ·exact xQ h1
   have hmu:∀k,Bc.mu k≠none->w.heap.size<=k:=fun k hk=>xQ fun hlt=>hk (Bc.dis k (gB.le.kp k hlt))
   let Bn:Kd:=⟨fun k=>B.kp k∨Bc.fr k,fun k=>B.fr k∨Bc.fr k,fun k=>match B.mu k with|some g=>some g|none=>Bc.mu k,fun k hk=>hk.imp (B.sub k) id,fun k hk=>by
    have h1:B.mu k=none:=by
     rcases hk with hk|hk
     ·exact B.dis k hk
     ·have h2:=hfr k hk;cases hm2:B.mu k with
      |none=>rfl
      |some g=>exact absurd (hB k (.inr (by rw[hm2];simp))) (yc h2)
    have h2:Bc.mu k=none:=by
     rcases hk with hk|hk
     ·exact Bc.dis k (gB.le.kp k (hB k (.inl hk)))
     ·exact Bc.dis k (Bc.sub k hk)
    show(match B.mu k with|some g=>some g|none=>Bc.mu k)=none
    rw[h1,h2]⟩
   have hmn:∀k,Bn.mu k=match B.mu k with|some g=>some g|none=>Bc.mu k:=fun _=>rfl
   have hBn:B.Le Bn:=⟨fun k hk=>.inl hk,fun k hk=>.inl hk⟩
   have hBm:B.LeM Bn:=fun k g hk=>by rw[hmn,hk]
   have hna:∀k,Bn.all k->B.all k∨(w.heap.size<=k∧Bc.all k):=fun k hk=>by
    rcases hk with (hk|hk)|hk
    ·exact .inl (.inl hk)
    ·exact .inr ⟨hfr k hk,.inl (Bc.sub k hk)⟩
    ·rw[hmn]at hk;cases hm2:B.mu k with
     |none=>rw[hm2]at hk;exact .inr ⟨hmu k hk,.inr hk⟩
     |some g=>exact .inl (.inr (by rw[hm2];simp))
   have gn:Grow B Bn true w w':=⟨hBn,fun k hk=>(hna k hk).imp id fun h=>hBc k h.2,fun k hk=>hk.imp id fun h hb=>absurd (hB k (.inl hb)) (yc (hfr k h)),fun _=>⟨fun k hk=>(hna k hk).imp id fun h=>h.1,hBm⟩⟩
   have hh1:HRel U Bn hp nx w':=(hh.below hbw hB).moreB hBn hBm fun h o k hf hk hb=>by
    have h1:=O.blk_lt (hh.ok h o hf).2.2 hk;rcases hna k hb with hb|hb
    ·exact h1.2 hb
    ·exact absurd h1.1 (yc hb.1)
   obtain⟨ws,hws,hfw⟩:∃ws,(ja0 ws).val U'=v.val U'∧jme b.n hp' t'.sel.2 ws []:=by
    match v,hfit with
    | .w u,hfit=>exact⟨[u],rfl,hfit⟩
    | .t [],hfit=>exact⟨[],rfl,hfit⟩
    | .t (x::y::l),hfit=>exact⟨x::y::l,rfl,hfit⟩
   have hin:CIn U U' Bn hp hp' nx w.heap.size b.n am w' []:=by
    refine⟨hh1,fun k o b hk hbk=>.inl (O.blk_lt (hh.ok k o hk).2.2 hbk).1,fun i hi=>?_⟩;have hi2:i<am.length:=by omega
    have h1:=q.own i hi2;rw[zP]at h1;refine⟨?_,by rw[hag i hi];exact h1.symm⟩;have:am.getD i (.d (.v qe))=am[i]:=by simp[za,hi2]
    rw[this];exact q.xlt _ (xC hi2)
   obtain⟨us2,U2,k⟩:=jjF (B:=Bn) (m:=w.heap.size) (fun k hk=>gB.le.kp k hk) (fun k hk=>(hna k hk).elim (fun h=>.inl (gB.le.kp k (hB k h))) (fun h=>h.2)) (fun k hk=>.inr hk) (fun k g hk=>by
    rw[hmn];cases hm2:B.mu k with
    |none=>exact hk
    |some g'=>exact absurd (hB k (.inr (by rw[hm2];simp))) (yc (hmu k (by rw[hk];simp)))) hh' t'.sel.2 ws [] hfw nx hp U hin
   refine⟨U2,?_,k.agree,je2 k.lt,k.le,⟨Bn,gn,k.heap⟩,jbV hbw hB,fun _=>hbw,fun _ h o b hle hf hbk=>?_⟩
   ·show xO _=xO ((ja0 (jcn am t'.sel.2 nx).ws).val U2)
    rw[<-hws,jcR,jcR];simp only[k.val]
   ·have hf:find ((jcn am t'.sel.2 nx).hp++hp) h=some o:=hf;rw[jat]at hf;cases hg2:find (jcn am t'.sel.2 nx).hp h with
    |some o2=>rw[hg2]at hf;cases hf;exact k.fresh h o b hg2 hbk
    |none =>
     rw[hg2]at hf;have:=(hh.ok h o hf).1;omega
  ·cases hS
 ·cases hS
def jcP {o:zX} {r:List zX} {all:Array zX} {Q:jP->Act->zx->Prop} (hg:o.guard=none) (h:o.wp P a w (fun a' w'=>gA P all Q r a' w') Q):gA P all Q (o::r) a w:=by
 unfold gA;rw[if_pos (by simp[xy,hg])];exact .inl h
def jhN:yb->Option (List zX)
 | .region _ ops false=>some ops.toList
 |_=>none
def jnN {c:yb} {l:List zX} {Q:jP->Act->zx->Prop} (hc:jhN c=some l) (h:gA P l.toArray Q l a w):c.wp P Q a w:=by
 unfold jhN at hc;split at hc
 ·cases hc;refine g8 ?_;simpa using h
 ·cases hc
def jtx {fuel:Nat} {loops:jfv} {drawn:Array zX->St->(St->Prop)->Prop} (hsp:jac P sp) (hdr:jeo P B N n0 U0 w0 drawn) {x y:yb} {cur:Nat} {gs:List Nat} {k:Ex->St->Prop}
  (h:sx P sp N n0 fuel loops drawn (.seq x y) cur gs st k) (hr:RelD ds U B N n0 st a w) (hag:jae n0 U0 U) (hbl:Bel B w0 w):x.wp P (Exit.then (y.wp P (Qx ds U0 B N n0 w0 k)) (Qx ds U0 B N n0 w0 k)) a w:=by
 unfold sx at h;refine xG (jba hsp hdr x cur gs st _ U a w h hr hag hbl) ?_;rintro e a' w' ⟨ex,U',st',rfl,hk,hr',hag',hbl'⟩;cases ex with
 |normal=>exact jba hsp hdr y cur gs st' k U' a' w' hk hr' hag' hbl'
 |exit j=>exact⟨.exit j,U',st',rfl,hk,hr',hag',hbl'⟩
 |ret=>exact⟨.ret,U',st',rfl,hk,hr',hag',hbl'⟩
def jCF (P:zy) (sp:jaa) (N:Nat) (R1 CD:yb) (o1 o2:zX) (x:zH) (rs:List jc) (c:Cont) (post:List RR):Prop :=
 sx P sp N 1 1 (fun _ _ _=>none) (jca P sp N) R1 0 [] ⟨jbO 0 [.w (.c (.o 0))],[(0,.ext c)],1⟩ fun ex st=>ex=.normal∧jex P sp N o1 st fun st=>jbC st x=some (.w (.c (.o 0))) ∧
  (Ob (c.n=0)->sx P sp N 1 1 (fun _ _ _=>none) (jca P sp N) CD 0 [] (st.put o2.dst ⟨True,vb true,st.hp,st.nx⟩) (jcm P rs fun v hp _=>jf1 1 post v hp)) ∧
  sx P sp N 1 1 (fun _ _ _=>none) (jca P sp N) CD 0 [] (st.put o2.dst ⟨True,vb false,st.hp,st.nx⟩) (jcm P rs fun v hp _=>jf1 1 post v hp)
def jnO {f:Nat} {fn:jQ} {R1 R2 C D:yb} {o1 o2:zX} {t yt:qf} {x:zH} {c0:Cont} {g:List Lf->Option GT} (hm:P.follows .mixedOrders=true) (hsp:jac P sp) (hf:P.funcs[f]?=some fn) (hb:fn.body=some (.seq R1 (.seq (.seq R2 C) D))) (hn:(fn.name == "runtime.NumGoroutine")=false)
  (hlen:1<=fn.ntmps) (hR2:jhN R2=some [o1,o2]) (hg1:o1.guard=none) (hg2:o2.guard=none) (hop:o2.op=.binOp .eql t x (.const (.slice none 0 0)) yt) (hd:jb0 fn.ntmps o2.dst=true) (hit:jl6 P t=true)
  (hg:∀ls t,g ls=some t->∃c ob post,ls=[.r c]∧t=.leaf ob post∧(ob->jCF P sp fn.ntmps R1 (.seq C D) o1 o2 x fn.results.toList c post)):jaf P f true (jai [.c (.r c0)] g):=by
 refine jy9 hf hb hn fun ls t ht ho b hbl hlt U w hh hB=>?_;obtain⟨c,ob,post,rfl,rfl,hv⟩:=hg ls t ht;have hv:=hv ho;simp only[jeF,jsK,jeE,zQ,jgt,zi]at hbl;subst hbl;have hh:HRel U (kd fun k=>k<w.heap.size) [(0,.ext c)] 1 w:=hh;refine jio (args:=[.w (.c (.o 0))]) hf hb hlen hlt (zu _) U w hh hB fun a hr=>?_;obtain⟨aa,cap,hval,hcap,hcell⟩:=(hh.ok 0 _ rfl).2.2.1;refine gP (xG (jba hsp (jbG hm hsp) R1 0 [] _ _ U a w hv hr (jae.refl _ _) (Bel.refl _ _)) ?_);rintro e a1 w1 ⟨ex,U1,st1,rfl,⟨rfl,hdo⟩,hr1,hag1,hbl1⟩;refine gP (gP (jnN hR2 (jcP hg1 (jcz hsp hr1 hag1 hbl1 hdo fun U2 st2 a2 w2 hr2 hag2 hbl2 hk=>?_))));obtain⟨hx,hk1,hk2⟩:=hk
 have hval2:(V.w (.c (.o 0))).val U2=.slice aa c.n cap:=by
  show U2 0=_
  rw[hag2 0 (by omega)];exact hval
 refine jcP hg2 (jy8 (u:=.w (.c (.o 0))) hop hd hit hx hval2 hr2 fun hr3=>?_)
 have fin:C.wp P (Exit.then (D.wp P (Qx [] U (kd fun k=>k<w.heap.size) fn.ntmps 1 w (jcm P fn.results.toList fun v hp _=>jf1 1 post v hp))) (Qx [] U (kd fun k=>k<w.heap.size) fn.ntmps 1 w (jcm P fn.results.toList fun v hp _=>jf1 1 post v hp))) (a2.put o2.dst (.bool aa.isNone)) w2:=by
  cases aa with
  |none =>
   refine jtx hsp (jbG hm hsp) (hk1 ⟨?_⟩) hr3 hag2 hbl2;refine Nat.eq_zero_of_not_pos fun hn=>?_;obtain⟨b,off,e,_⟩:=hcell hn;cases e
  |some p=>exact jtx hsp (jbG hm hsp) hk2 hr3 hag2 hbl2
 unfold gA;exact fin
end
end Go.Sx
end

section
namespace Go.Sh
open Go Go.Proofs Go.RowKit Go.Sx Go.Sx09
def cl1 (f:jQ):zX:=((jhN (Sx09.sub [1,0,0] (Sx09.bodyOf f))).getD []).getD 0 default
def cl2 (f:jQ):zX:=((jhN (Sx09.sub [1,0,0] (Sx09.bodyOf f))).getD []).getD 1 default
def jhc:List SV:=[.c (.r (.ints .i64 []))]
def jaI (l:List (Int)):Option (List (Int)):=if l.length*8<=140737488355328 then some l else none
def jeL:List Lf->Option GT
 |[.r (.ints .i64 l)]=>some (.leaf (ok (jaI l)) [.c (.row 3 (.ints .i64 (val (jaI l))))])
 |_=>none
abbrev sp_136:jaa->jaa:=jaG 136 true (jai jhc jeL)
def jkf:jaf Tryz.prog 136 true (jai jhc jeL):=by
 refine jnO (sp:=sp0) (fn:=Tryz.f136) (R1:=Sx09.sub [0] (Sx09.bodyOf Tryz.f136)) (R2:=Sx09.sub [1,0,0] (Sx09.bodyOf Tryz.f136)) (C:=Sx09.sub [1,0,1] (Sx09.bodyOf Tryz.f136)) (D:=Sx09.sub [1,1] (Sx09.bodyOf Tryz.f136)) (o1:=cl1 Tryz.f136) (o2:=cl2 Tryz.f136) (t:=31) (yt:=31) (x:=.tmp 3)
  mixed jau Tryz.func136 (by kernel_rfl) (by kernel_rfl) (zj (by kernel_rfl)) (by kernel_rfl) (by kernel_rfl) (by kernel_rfl) (by kernel_rfl) (by kernel_rfl) (by kernel_rfl) fun ls t h=>?_
 unfold jeL at h;split at h
 ·rename_i l;cases h;refine⟨_,_,_,rfl,rfl,fun ho=>?_⟩
  have hl:l.length*8<=140737488355328:=by
   unfold ok jaI at ho;split at ho
   ·assumption
   ·cases ho
  have hv:val (jaI l)=l:=by
   unfold jaI;rw[if_pos hl];rfl
  rw[hv];refine jJ (by kernel_rfl:(Ex.normal=Ex.normal∧some (V.w (W.c (Sx.C.o 0)))=some (V.w (W.c (Sx.C.o 0)))∧(Ob (l.length=0)->Ob True∧Ob (l.length=0)∧True)∧Ob ((([]:List (Int)).length+l.length)*8<=140737488355328∧([]:List (Int)).length+l.length<=9223372036854775807)∧Ob True∧Ob (([]:List (Int))++l=l)∧True)=_) ?_;exact⟨rfl,rfl,fun h=>⟨⟨trivial⟩,h,trivial⟩,⟨by simp only[qD];omega⟩,⟨trivial⟩,⟨rfl⟩,trivial⟩
 ·cases h
def sp_136_ok {sp:jaa} (h:jac Tryz.prog sp):jac Tryz.prog (sp_136 sp):=jap jkf h
def jhd:List SV:=[.c (.r (.recs 5 []))]
def jbr (l:List (List Int)):Option (List (List Int)):=if l.length*40<=140737488355328 then some l else none
def jeM:List Lf->Option GT
 |[.r (.recs 5 l)]=>some (.leaf (ok (jbr l)) [.c (.row 148 (.recs 5 (val (jbr l))))])
 |_=>none
abbrev sp_137:jaa->jaa:=jaG 137 true (jai jhd jeM)
def jkg:jaf Tryz.prog 137 true (jai jhd jeM):=by
 refine jnO (sp:=sp0) (fn:=Tryz.f137) (R1:=Sx09.sub [0] (Sx09.bodyOf Tryz.f137)) (R2:=Sx09.sub [1,0,0] (Sx09.bodyOf Tryz.f137)) (C:=Sx09.sub [1,0,1] (Sx09.bodyOf Tryz.f137)) (D:=Sx09.sub [1,1] (Sx09.bodyOf Tryz.f137)) (o1:=cl1 Tryz.f137) (o2:=cl2 Tryz.f137) (t:=116) (yt:=116) (x:=.tmp 3)
  mixed jau Tryz.func137 (by kernel_rfl) (by kernel_rfl) (zj (by kernel_rfl)) (by kernel_rfl) (by kernel_rfl) (by kernel_rfl) (by kernel_rfl) (by kernel_rfl) (by kernel_rfl) fun ls t h=>?_
 unfold jeM at h;split at h
 ·rename_i l;cases h;refine⟨_,_,_,rfl,rfl,fun ho=>?_⟩
  have hl:l.length*40<=140737488355328:=by
   unfold ok jbr at ho;split at ho
   ·assumption
   ·cases ho
  have hv:val (jbr l)=l:=by
   unfold jbr;rw[if_pos hl];rfl
  rw[hv];refine jJ (by kernel_rfl:(Ex.normal=Ex.normal∧some (V.w (W.c (Sx.C.o 0)))=some (V.w (W.c (Sx.C.o 0)))∧(Ob (l.length=0)->Ob True∧Ob (l.length=0)∧True)∧Ob ((([]:List (List Int)).length+l.length)*40<=140737488355328∧([]:List (List Int)).length+l.length<=9223372036854775807)∧Ob True∧Ob (([]:List (List Int))++l=l)∧True)=_) ?_;exact⟨rfl,rfl,fun h=>⟨⟨trivial⟩,h,trivial⟩,⟨by simp only[qD];omega⟩,⟨trivial⟩,⟨rfl⟩,trivial⟩
 ·cases h
def sp_137_ok {sp:jaa} (h:jac Tryz.prog sp):jac Tryz.prog (sp_137 sp):=jap jkg h
def jlO:List SV:=[.c (.r (.recs 4 []))]
def jdI (l:List (List Int)):Option (List (List Int)):=if l.length*32<=140737488355328 then some l else none
def jhe:List Lf->Option GT
 |[.r (.recs 4 l)]=>some (.leaf (ok (jdI l)) [.c (.row 174 (.recs 4 (val (jdI l))))])
 |_=>none
def jrG:jaf Tryz.prog 144 true (jai jlO jhe):=by
 refine jnO (sp:=sp0) (fn:=Tryz.f144) (R1:=Sx09.sub [0] (Sx09.bodyOf Tryz.f144)) (R2:=Sx09.sub [1,0,0] (Sx09.bodyOf Tryz.f144)) (C:=Sx09.sub [1,0,1] (Sx09.bodyOf Tryz.f144)) (D:=Sx09.sub [1,1] (Sx09.bodyOf Tryz.f144)) (o1:=cl1 Tryz.f144) (o2:=cl2 Tryz.f144) (t:=158) (yt:=158) (x:=.tmp 3)
  mixed jau Tryz.func144 (by kernel_rfl) (by kernel_rfl) (zj (by kernel_rfl)) (by kernel_rfl) (by kernel_rfl) (by kernel_rfl) (by kernel_rfl) (by kernel_rfl) (by kernel_rfl) fun ls t h=>?_
 unfold jhe at h;split at h
 ·rename_i l;cases h;refine⟨_,_,_,rfl,rfl,fun ho=>?_⟩
  have hl:l.length*32<=140737488355328:=by
   unfold ok jdI at ho;split at ho
   ·assumption
   ·cases ho
  have hv:val (jdI l)=l:=by
   unfold jdI;rw[if_pos hl];rfl
  rw[hv];refine jJ (by kernel_rfl:(Ex.normal=Ex.normal∧some (V.w (W.c (Sx.C.o 0)))=some (V.w (W.c (Sx.C.o 0)))∧(Ob (l.length=0)->Ob True∧Ob (l.length=0)∧True)∧Ob ((([]:List (List Int)).length+l.length)*32<=140737488355328∧([]:List (List Int)).length+l.length<=9223372036854775807)∧Ob True∧Ob (([]:List (List Int))++l=l)∧True)=_) ?_;exact⟨rfl,rfl,fun h=>⟨⟨trivial⟩,h,trivial⟩,⟨by simp only[qD];omega⟩,⟨trivial⟩,⟨rfl⟩,trivial⟩
 ·cases h
end Go.Sh
end

section
namespace Go.Sh
open Go Go.Proofs Go.RowKit Go.Sx
open Go.IntKind (wrap)
def jbt (u1:List (List NC)) (x0:Int × List Int) (r0:List Int × Bool) (x1:(Int × List Int)):Option ((Int × List Int) ⊕ (Unit ⊕ (List Int))) :=
 if x1.1<(↑(zg (nL u1 (zf (za r0.1 x0.1.toNat (0:Int))) (2:Nat))):Int)then
  if 0<=x1.1∧x1.1<(↑(zg (nL u1 (zf (za r0.1 x0.1.toNat (0:Int))) (2:Nat))):Int)then
  if zf x1.1<zg (nL u1 (zf (za r0.1 x0.1.toNat (0:Int))) (2:Nat))then
   if 0<=za (nL u1 (zf (za r0.1 x0.1.toNat (0:Int))) (2:Nat)) x1.1.toNat (0:Int)∧za (nL u1 (zf (za r0.1 x0.1.toNat (0:Int))) (2:Nat)) x1.1.toNat 0<(↑x1.2.length:Int)then
   if zf (za (nL u1 (zf (za r0.1 x0.1.toNat (0:Int))) (2:Nat)) x1.1.toNat (0:Int))<zg x1.2 then
    if 0<=x1.1∧x1.1<(↑(zg (nL u1 (zf (za r0.1 x0.1.toNat (0:Int))) (3:Nat))):Int)then
    if zf x1.1<zg (nL u1 (zf (za r0.1 x0.1.toNat (0:Int))) (3:Nat))then
     if x1.1>0 then
     if 0<=x0.1∧x0.1<(↑r0.1.length:Int)then
      if zf x0.1<zg r0.1 then
      if 0<=za r0.1 x0.1.toNat (0:Int)∧za r0.1 x0.1.toNat 0<(↑x1.2.length:Int)then
       if zf (za r0.1 x0.1.toNat (0:Int))<zg x1.2 then
       if(wrap .i64 (wrap .i64 (za x1.2 (zf (za (nL u1 (zf (za r0.1 x0.1.toNat (0:Int))) (2:Nat)) x1.1.toNat (0:Int))) 0+za (nL u1 (zf (za r0.1 x0.1.toNat (0:Int))) (3:Nat)) x1.1.toNat (0:Int))+nI u1 (zf (za r0.1 x0.1.toNat (0:Int))) (5:Nat))!=za x1.2 (zf (za r0.1 x0.1.toNat (0:Int))) (0:Int))=true then
        some (.inr ((.inl ())))
       else
        if 0<=x0.1∧x0.1<(↑r0.1.length:Int)then
        if zf x0.1<zg r0.1 then
         if 0<=za r0.1 x0.1.toNat (0:Int)∧za r0.1 x0.1.toNat 0<(↑x1.2.length:Int)then
         if zf (za r0.1 x0.1.toNat (0:Int))<zg x1.2 then
          some (.inl ((wrap .i64 (x1.1+1),xM x1.2 (zf (za r0.1 x0.1.toNat (0:Int))) (wrap .i64 (wrap .i64 (za x1.2 (zf (za (nL u1 (zf (za r0.1 x0.1.toNat (0:Int))) (2:Nat)) x1.1.toNat (0:Int))) 0+za (nL u1 (zf (za r0.1 x0.1.toNat (0:Int))) (3:Nat)) x1.1.toNat (0:Int))+nI u1 (zf (za r0.1 x0.1.toNat (0:Int))) (5:Nat))))))
         else none
         else none
        else none
        else none
       else none
      else none
      else none
     else none
     else
     if 0<=x0.1∧x0.1<(↑r0.1.length:Int)then
      if zf x0.1<zg r0.1 then
      if 0<=za r0.1 x0.1.toNat (0:Int)∧za r0.1 x0.1.toNat 0<(↑x1.2.length:Int)then
       if zf (za r0.1 x0.1.toNat (0:Int))<zg x1.2 then
       some (.inl ((wrap .i64 (x1.1+1),xM x1.2 (zf (za r0.1 x0.1.toNat (0:Int))) (wrap .i64 (wrap .i64 (za x1.2 (zf (za (nL u1 (zf (za r0.1 x0.1.toNat (0:Int))) (2:Nat)) x1.1.toNat (0:Int))) 0+za (nL u1 (zf (za r0.1 x0.1.toNat (0:Int))) (3:Nat)) x1.1.toNat (0:Int))+nI u1 (zf (za r0.1 x0.1.toNat (0:Int))) (5:Nat))))))
       else none
      else none
      else none
     else none
    else none
    else none
   else none
   else none
  else none
  else none
 else
  some (.inr (.inr x1.2))
def jlP (x0:Int × List Int) (u11:Unit):Option ((Int × List Int) ⊕ (Unit ⊕ (List Int))) :=
 some (.inr ((.inl ())))
def jdy (x0:Int × List Int) (u45:List Int):Option ((Int × List Int) ⊕ (Unit ⊕ (List Int))) :=
 some (.inl ((wrap .i64 (x0.1+1),u45)))
def jhf (x0:Int × List Int):(Unit ⊕ (List Int))->Option ((Int × List Int) ⊕ (Unit ⊕ (List Int))) :=
 (qZ (jlP x0) (jdy x0))
def jck (u1:List (List NC)) (r0:List Int × Bool) (x0:(Int × List Int)):Option ((Int × List Int) ⊕ (Unit ⊕ (List Int))) :=
 if x0.1<(↑r0.1.length:Int)then
  if 0<=x0.1∧x0.1<(↑r0.1.length:Int)then
  if zf x0.1<zg r0.1 then
   if 0<=za r0.1 x0.1.toNat (0:Int)∧za r0.1 x0.1.toNat 0<(↑u1.length:Int)then
   if zf (za r0.1 x0.1.toNat (0:Int))<zg u1 then
    ze (jag (jbt u1 x0 r0) big (((0:Int),x0.2))) (jhf x0)
   else none
   else none
  else none
  else none
 else
  some (.inr (.inr x0.2))
def jlQ (u5:Unit):Option (List Int × Bool) :=
 some ([],false)
def jlR (u6:List Int):Option (List Int × Bool) :=
 some (u6,true)
def jnP:(Unit ⊕ (List Int))->Option (List Int × Bool) :=
 (qZ (jlQ) (jlR))
def jc2 (u4:ByteArray) (u1:List (List NC)):Option (List Int × Bool) :=
 ze (y0 u4 u1) fun r0 =>
 if 0<=(↑u1.length:Int)∧(↑u1.length:Int)=(↑u1.length:Int)∧(↑(8:Nat):Int)*(↑u1.length:Int)<=281474976710656∧(↑u1.length:Int)<=9223372036854775807 then
  ze (jag (jck u1 r0) big (((0:Int),zr (zf (↑u1.length:Int)) (0:Int)))) (jnP)
 else none
end Go.Sh
end

section
namespace Go.Sh
open Go Go.Proofs Go.RowKit Go.Sx
open Go.IntKind (wrap)
def jj0:List SV:=[.a [.r (.ints .i64 []),.d],.c (.d),.c (.d)]
def y48 (u69:List Int) (u70 i by_:Int):Option (List Int × Int) :=
 ze (jaI u69) fun r0 =>
 if(zg r0+zg [i])*8<=140737488355328∧zg r0+zg [i]<=9223372036854775807 then
  some ((r0++[i],wrap .i64 (u70+by_)))
 else none
def jj1:List Lf->Option GT
 |[.r (.ints .i64 u69),.d (.i .i64 u70),.d (.i .i64 i),.d (.i .i64 by_)]=>some (.leaf (ok (y48 u69 u70 i by_)) [.s [.row 3 (.ints .i64 ((val (y48 u69 u70 i by_)).1)),.d (.i .i64 ((val (y48 u69 u70 i by_)).2))]])
 |_=>none
abbrev sp_133:jaa->jaa:=jaG 133 true (jai jj0 jj1)
def jxu (u69:List Int) (u70 i by_:Int) (r:List Int × Int):Sk (top r) (y48 u69 u70 i by_) :=
 .call (.ob (.obT (.rc)))
def jvd (u69:List Int) (u70 i by_:Int) (r:List Int × Int) (h:ze (y48 u69 u70 i by_) some=some r):jbl Tryz.f133 ((sp_136 sp0)) (fun _ _ _=>none) (jbd jj0 [.r (.ints .i64 u69),.d (.i .i64 u70),.d (.i .i64 i),.d (.i .i64 by_)]) [.s [.row 3 (.ints .i64 r.1),.d (.i .i64 r.2)]] :=
 Sk.vc (jxu u69 u70 i by_ r) (by kernel_rfl) h
def jve:jaf Tryz.prog 133 true (jai jj0 jj1):=by
 refine jaC (sp:=(sp_136 sp0)) (fn:=Tryz.f133) (body:=bodyOf Tryz.f133) mixed (sp_136_ok jau) Tryz.func133 (by kernel_rfl) (by kernel_rfl) fun ls t h ho b hb=>?_;unfold jj1 at h;split at h
 ·rename_i u69 u70 i by_;cases h;obtain rfl:=jaN hb;exact⟨zj (by kernel_rfl),_,_,jvd u69 u70 i by_ _ (jar ho)⟩
 ·cases h
def sp_133_ok {sp:jaa} (h:jac Tryz.prog sp):jac Tryz.prog (sp_133 sp):=jap jve h
end Go.Sh
end

section
namespace Go.Sh
open Go Go.Proofs Go.RowKit Go.Sx
open Go.IntKind (wrap)
def jfk:List SV:=[.c (.p [.d,.x (.st zS []),.r (.ints .i64 [])])]
def y17 (u41:List (List NC)) (u42:List Int) (x0:Int × List (List NC)) (x1:(Int × List (List NC))):Option ((Int × List (List NC)) ⊕ ((Int × Int × List Int × List Int) ⊕ (List (List NC)))) :=
 if x1.1<(↑(zg (nL u41 (zf (za u42 x0.1.toNat (0:Int))) (2:Nat))):Int)then
  if 0<=x1.1∧x1.1<(↑(zg (nL u41 (zf (za u42 x0.1.toNat (0:Int))) (2:Nat))):Int)then
  if zf x1.1<zg (nL u41 (zf (za u42 x0.1.toNat (0:Int))) (2:Nat))then
   if 0<=za (nL u41 (zf (za u42 x0.1.toNat (0:Int))) (2:Nat)) x1.1.toNat (0:Int)∧za (nL u41 (zf (za u42 x0.1.toNat (0:Int))) (2:Nat)) x1.1.toNat 0<(↑x1.2.length:Int)then
   if zf (za (nL u41 (zf (za u42 x0.1.toNat (0:Int))) (2:Nat)) x1.1.toNat (0:Int))<zg x1.2 then
    if 0<=x1.1∧x1.1<(↑(zg (nL u41 (zf (za u42 x0.1.toNat (0:Int))) (3:Nat))):Int)then
    if zf x1.1<zg (nL u41 (zf (za u42 x0.1.toNat (0:Int))) (3:Nat))then
     ze (y48 (nL x1.2 (zf (za (nL u41 (zf (za u42 x0.1.toNat (0:Int))) (2:Nat)) x1.1.toNat (0:Int))) (0:Nat)) (nI x1.2 (zf (za (nL u41 (zf (za u42 x0.1.toNat (0:Int))) (2:Nat)) x1.1.toNat (0:Int))) (1:Nat)) (za u42 x0.1.toNat (0:Int)) (wrap .i64 (za (nL u41 (zf (za u42 x0.1.toNat (0:Int))) (3:Nat)) x1.1.toNat 0+nI u41 (zf (za u42 x0.1.toNat (0:Int))) (5:Nat)))) fun r0 =>
     if(x1.1==0)=true then
     if 0<=za u42 x0.1.toNat (0:Int)∧za u42 x0.1.toNat 0<(↑x1.2.length:Int)then
      if zf (za u42 x0.1.toNat (0:Int))<zg x1.2 then
      some (.inl ((wrap .i64 (x1.1+1),xM x1.2 (zf (za u42 x0.1.toNat (0:Int))) [NC.r (Cont.ints .i64 r0.1),NC.d (D.i .i64 r0.2)])))
      else none
     else none
     else
     if 0<=za u42 x0.1.toNat (0:Int)∧za u42 x0.1.toNat 0<(↑x1.2.length:Int)then
      if zf (za u42 x0.1.toNat (0:Int))<zg x1.2 then
      if(r0.2 != nI x1.2 (zf (za u42 x0.1.toNat (0:Int))) (1:Nat))=true then
       if 0<=za u42 x0.1.toNat (0:Int)∧za u42 x0.1.toNat 0<(↑x1.2.length:Int)then
       if zf (za u42 x0.1.toNat (0:Int))<zg x1.2 then
        some (.inr ((.inl ((nI x1.2 (zf (za u42 x0.1.toNat (0:Int))) (1:Nat),r0.2,nL x1.2 (zf (za u42 x0.1.toNat (0:Int))) (0:Nat),r0.1)))))
       else none
       else none
      else
       some (.inl ((wrap .i64 (x1.1+1),x1.2)))
      else none
     else none
    else none
    else none
   else none
   else none
  else none
  else none
 else
  some (.inr (.inr x1.2))
def jmv (x0:Int × List (List NC)) (u11:Int × Int × List Int × List Int):Option ((Int × List (List NC)) ⊕ ((Int × Int × List Int × List Int) ⊕ (List (List NC)))) :=
 some (.inr ((.inl ((u11.1,u11.2.1,u11.2.2.1,u11.2.2.2)))))
def y114 (x0:Int × List (List NC)) (u45:List (List NC)):Option ((Int × List (List NC)) ⊕ ((Int × Int × List Int × List Int) ⊕ (List (List NC)))) :=
 some (.inl ((wrap .i64 (x0.1+1),u45)))
def y94 (x0:Int × List (List NC)):((Int × Int × List Int × List Int) ⊕ (List (List NC)))->Option ((Int × List (List NC)) ⊕ ((Int × Int × List Int × List Int) ⊕ (List (List NC)))) :=
 (qZ (jmv x0) (y114 x0))
def y18 (u41:List (List NC)) (u42:List Int) (x0:(Int × List (List NC))):Option ((Int × List (List NC)) ⊕ ((Int × Int × List Int × List Int) ⊕ (List (List NC)))) :=
 if x0.1<(↑u42.length:Int)then
  if 0<=x0.1∧x0.1<(↑u42.length:Int)then
  if zf x0.1<zg u42 then
   if 0<=za u42 x0.1.toNat (0:Int)∧za u42 x0.1.toNat 0<(↑u41.length:Int)then
   if zf (za u42 x0.1.toNat (0:Int))<zg u41 then
    if((↑(zg (nL u41 (zf (za u42 x0.1.toNat (0:Int))) (2:Nat))):Int)==0)=true then
    if 0<=za u42 x0.1.toNat (0:Int)∧za u42 x0.1.toNat 0<(↑x0.2.length:Int)then
     if zf (za u42 x0.1.toNat (0:Int))<zg x0.2 then
     ze (jag (y17 u41 u42 x0) big (((0:Int),xM x0.2 (zf (za u42 x0.1.toNat (0:Int))) [NC.r (Cont.ints .i64 [za u42 x0.1.toNat (0:Int)]),NC.d (D.i .i64 0)]))) (y94 x0)
     else none
    else none
    else
    ze (jag (y17 u41 u42 x0) big (((0:Int),x0.2))) (y94 x0)
   else none
   else none
  else none
  else none
 else
  some (.inr (.inr x0.2))
def jmw (u5:Int × Int × List Int × List Int):Option (List (List NC) × List Int × Int × List Int × Int × Bool) :=
 some ([],u5.2.2.1,u5.1,u5.2.2.2,u5.2.1,true)
def jmx (u6:List (List NC)):Option (List (List NC) × List Int × Int × List Int × Int × Bool) :=
 some ((u6,[],0,[],0,false))
def y135:((Int × Int × List Int × List Int) ⊕ (List (List NC)))->Option (List (List NC) × List Int × Int × List Int × Int × Bool) :=
 (qZ (jmw) (jmx))
def y2 (u47:ByteArray) (u41:List (List NC)) (u42:List Int):Option (List (List NC) × List Int × Int × List Int × Int × Bool) :=
 if 0<=(↑u41.length:Int)∧(↑u41.length:Int)=(↑u41.length:Int)∧(↑(32:Nat):Int)*(↑u41.length:Int)<=281474976710656∧(↑u41.length:Int)<=9223372036854775807 then
  ze (jag (y18 u41 u42) big (((0:Int),zr (zf (↑u41.length:Int)) [NC.r (Cont.ints .i64 []),NC.d (D.i .i64 0)]))) (y135)
 else none
def jfl:List Lf->Option GT
 |[.d (.s u47),.x (.st [.s,.i .i64,.ints .i64,.ints .i64,.ints .i64,.i .i64,.recs 5,.i .i64] u41),.r (.ints .i64 u42)]=>some (.leaf (ok (y2 u47 u41 u42)) [.c (.x 140 (.st ([NK.ints .i64,NK.i .i64]) ((val (y2 u47 u41 u42)).1))),.s [.fe (.ints .i64 ((val (y2 u47 u41 u42)).2.1)),.d (.i .i64 ((val (y2 u47 u41 u42)).2.2.1)),.row 3 (.ints .i64 ((val (y2 u47 u41 u42)).2.2.2.1)),.d (.i .i64 ((val (y2 u47 u41 u42)).2.2.2.2.1))],.c (.d (.b ((val (y2 u47 u41 u42)).2.2.2.2.2)))])
 |_=>none
abbrev sp_88:jaa->jaa:=jaG 88 true (jai jfk jfl)
abbrev y136 (u47:ByteArray) (u41:List (List NC)) (u42:List Int) (r:List (List NC) × List Int × Int × List Int × Int × Bool):Lp ((Int × List (List NC)) × Nat) ((Int × List (List NC))) (((Int × Int × List Int × List Int) ⊕ (List (List NC)))) ((List (List NC) × List Int × Int × List Int × Int × Bool)) (List (List NC) × List Int × Int × List Int × Int × Bool) :=
 ⟨fun z=>z.1,fun z=>z.2,fun z x n=>(x,n),fun z=>y18 u41 u42,fun z=>y135,fun z=>top r,fun z=>0,[.c fun _=>0,.c fun _=>0,.c fun _=>(↑u42.length:Int),.c fun vv=>vv.1.1,.c fun _=>u47,.c fun vv=>vv.1.2,.c fun _=>qc none (0:Nat) (0:Nat),.c fun _=>(0:Int),.c fun _=>qc none (0:Nat) (0:Nat),.c fun _=>(0:Int),.c fun _=>u42,.c fun _=>u41]⟩
abbrev y137 (u47:ByteArray) (u41:List (List NC)) (u42:List Int) (r:List (List NC) × List Int × Int × List Int × Int × Bool) (m1:Nat):Lp ((Int × List (List NC)) × Nat × (Int × List (List NC)) × Nat) ((Int × List (List NC))) (((Int × Int × List Int × List Int) ⊕ (List (List NC)))) (((Int × List (List NC)) ⊕ ((Int × Int × List Int × List Int) ⊕ (List (List NC))))) (List (List NC) × List Int × Int × List Int × Int × Bool) :=
 ⟨fun z=>z.2.2.1,fun z=>z.2.2.2,fun z x n=>(z.1,z.2.1,x,n),fun z=>y17 u41 u42 z.1,fun z=>y94 z.1,fun z=>(y136 u47 u41 u42 r).cx (z.1,m1),fun z=>z.2.1,[.c fun _=>0,.c fun _=>0,.c fun vv=>za u42 vv.1.1.toNat (0:Int),.c fun _=>0,.c fun _=>(↑u42.length:Int),.c fun vv=>vv.1.1,.c fun vv=>(↑(zg (nL u41 (zf (za u42 vv.1.1.toNat (0:Int))) (2:Nat))):Int),.c fun vv=>vv.2.2.1.1,.c fun _=>u47,.c fun vv=>vv.2.2.1.2,.c fun _=>qc none (0:Nat) (0:Nat),.c fun _=>(0:Int),.c fun _=>qc none (0:Nat) (0:Nat),.c fun _=>(0:Int),.c fun vv=>nS u41 (zf (za u42 vv.1.1.toNat (0:Int))) (0:Nat),.c fun vv=>nI u41 (zf (za u42 vv.1.1.toNat (0:Int))) (1:Nat),.c fun vv=>nI u41 (zf (za u42 vv.1.1.toNat (0:Int))) (5:Nat),.c fun vv=>nI u41 (zf (za u42 vv.1.1.toNat (0:Int))) (7:Nat),.c fun _=>u42,.c fun vv=>nL u41 (zf (za u42 vv.1.1.toNat (0:Int))) (2:Nat),.c fun _=>u41,.c fun vv=>nL u41 (zf (za u42 vv.1.1.toNat (0:Int))) (3:Nat),.c fun vv=>nL u41 (zf (za u42 vv.1.1.toNat (0:Int))) (4:Nat),.c fun vv=>nR u41 (zf (za u42 vv.1.1.toNat (0:Int))) (6:Nat)]⟩
def jph (u47:ByteArray) (u41:List (List NC)) (u42:List Int) (r:List (List NC) × List Int × Int × List Int × Int × Bool):Sk (top r) (ze (jag (y18 u41 u42) big (((0:Int),zr (zf (↑u41.length:Int)) [NC.r (Cont.ints .i64 []),NC.d (D.i .i64 0)]))) (y135)) :=
 .loop (y136 u47 u41 u42 r) (fun kk=>(((0:Int),zr (zf (↑u41.length:Int)) [NC.r (Cont.ints .i64 []),NC.d (D.i .i64 0)]),big)) fun z0 =>
 .br
 (.ob (.ob (.obT (.ob (.ob (.brB
 (.ob (.ob (.loop (y137 u47 u41 u42 r z0.2) (fun kk=>(z0.1,kk,((0:Int),xM z0.1.2 (zf (za u42 z0.1.1.toNat (0:Int))) [NC.r (Cont.ints .i64 [za u42 z0.1.1.toNat (0:Int)]),NC.d (D.i .i64 0)]),big)) fun z1 =>
 .br
 (.ob (.ob (.ob (.ob (.ob (.ob (.call (.brB
 (.ob (.ob (.next)))
 (.ob (.ob (.brB
 (.ob (.ob (.exit (.exit (.obT (.obT (.obT (.ret (fun r=>(Ob (zg r.1=(0:Nat)) ∧
 (Ob (nL z1.2.2.1.2 (zf (za u42 z1.1.1.toNat (0:Int))) (0:Nat)=r.2.1) ∧
 (Ob (nI z1.2.2.1.2 (zf (za u42 z1.1.1.toNat (0:Int))) (1:Nat)=r.2.2.1) ∧
 (Ob ((val (y48 (nL z1.2.2.1.2 (zf (za (nL u41 (zf (za u42 z1.1.1.toNat (0:Int))) (2:Nat)) z1.2.2.1.1.toNat (0:Int))) (0:Nat)) (nI z1.2.2.1.2 (zf (za (nL u41 (zf (za u42 z1.1.1.toNat (0:Int))) (2:Nat)) z1.2.2.1.1.toNat (0:Int))) (1:Nat)) (za u42 z1.1.1.toNat (0:Int)) (wrap .i64 (za (nL u41 (zf (za u42 z1.1.1.toNat (0:Int))) (3:Nat)) z1.2.2.1.1.toNat 0+nI u41 (zf (za u42 z1.1.1.toNat (0:Int))) (5:Nat))))).1=r.2.2.2.1) ∧
 (Ob ((val (y48 (nL z1.2.2.1.2 (zf (za (nL u41 (zf (za u42 z1.1.1.toNat (0:Int))) (2:Nat)) z1.2.2.1.1.toNat (0:Int))) (0:Nat)) (nI z1.2.2.1.2 (zf (za (nL u41 (zf (za u42 z1.1.1.toNat (0:Int))) (2:Nat)) z1.2.2.1.1.toNat (0:Int))) (1:Nat)) (za u42 z1.1.1.toNat (0:Int)) (wrap .i64 (za (nL u41 (zf (za u42 z1.1.1.toNat (0:Int))) (3:Nat)) z1.2.2.1.1.toNat 0+nI u41 (zf (za u42 z1.1.1.toNat (0:Int))) (5:Nat))))).2=r.2.2.2.2.1) ∧
 (Ob (true=r.2.2.2.2.2) ∧
 True))))))) ⟨⟨rfl⟩,⟨⟨rfl⟩,⟨⟨rfl⟩,⟨⟨rfl⟩,⟨⟨rfl⟩,⟨⟨rfl⟩,trivial⟩⟩⟩⟩⟩⟩))))))))
 (.next))))))))))))
 (.exit (.next)))))
 (.loop (y137 u47 u41 u42 r z0.2) (fun kk=>(z0.1,kk,((0:Int),z0.1.2),big)) fun z1 =>
 .br
 (.ob (.ob (.ob (.ob (.ob (.ob (.call (.brB
 (.ob (.ob (.next)))
 (.ob (.ob (.brB
 (.ob (.ob (.exit (.exit (.obT (.obT (.obT (.ret (fun r=>(Ob (zg r.1=(0:Nat)) ∧
 (Ob (nL z1.2.2.1.2 (zf (za u42 z1.1.1.toNat (0:Int))) (0:Nat)=r.2.1) ∧
 (Ob (nI z1.2.2.1.2 (zf (za u42 z1.1.1.toNat (0:Int))) (1:Nat)=r.2.2.1) ∧
 (Ob ((val (y48 (nL z1.2.2.1.2 (zf (za (nL u41 (zf (za u42 z1.1.1.toNat (0:Int))) (2:Nat)) z1.2.2.1.1.toNat (0:Int))) (0:Nat)) (nI z1.2.2.1.2 (zf (za (nL u41 (zf (za u42 z1.1.1.toNat (0:Int))) (2:Nat)) z1.2.2.1.1.toNat (0:Int))) (1:Nat)) (za u42 z1.1.1.toNat (0:Int)) (wrap .i64 (za (nL u41 (zf (za u42 z1.1.1.toNat (0:Int))) (3:Nat)) z1.2.2.1.1.toNat 0+nI u41 (zf (za u42 z1.1.1.toNat (0:Int))) (5:Nat))))).1=r.2.2.2.1) ∧
 (Ob ((val (y48 (nL z1.2.2.1.2 (zf (za (nL u41 (zf (za u42 z1.1.1.toNat (0:Int))) (2:Nat)) z1.2.2.1.1.toNat (0:Int))) (0:Nat)) (nI z1.2.2.1.2 (zf (za (nL u41 (zf (za u42 z1.1.1.toNat (0:Int))) (2:Nat)) z1.2.2.1.1.toNat (0:Int))) (1:Nat)) (za u42 z1.1.1.toNat (0:Int)) (wrap .i64 (za (nL u41 (zf (za u42 z1.1.1.toNat (0:Int))) (3:Nat)) z1.2.2.1.1.toNat 0+nI u41 (zf (za u42 z1.1.1.toNat (0:Int))) (5:Nat))))).2=r.2.2.2.2.1) ∧
 (Ob (true=r.2.2.2.2.2) ∧
 True))))))) ⟨⟨rfl⟩,⟨⟨rfl⟩,⟨⟨rfl⟩,⟨⟨rfl⟩,⟨⟨rfl⟩,⟨⟨rfl⟩,trivial⟩⟩⟩⟩⟩⟩))))))))
 (.next))))))))))))
 (.exit (.next)))))))))
 (.exit (.obT (.obT (.obT (.ret (fun r=>(Ob (z0.1.2=r.1) ∧
 (Ob (zg r.2.1=(0:Nat)) ∧
 (Ob ((0:Int)=r.2.2.1) ∧
 (Ob (zg r.2.2.2.1=(0:Nat)) ∧
 (Ob ((0:Int)=r.2.2.2.2.1) ∧
 (Ob (false=r.2.2.2.2.2) ∧
 True))))))) ⟨⟨rfl⟩,⟨⟨rfl⟩,⟨⟨rfl⟩,⟨⟨rfl⟩,⟨⟨rfl⟩,⟨⟨rfl⟩,trivial⟩⟩⟩⟩⟩⟩)))))
def jqs (u47:ByteArray) (u41:List (List NC)) (u42:List Int) (r:List (List NC) × List Int × Int × List Int × Int × Bool):Sk (top r) (y2 u47 u41 u42) :=
 .obT (.ob (.obT (jph u47 u41 u42 r)))
def jpi (u47:ByteArray) (u41:List (List NC)) (u42:List Int) (r:List (List NC) × List Int × Int × List Int × Int × Bool) (h:ze (y2 u47 u41 u42) some=some r):jbl Tryz.f88 ((sp_133 sp0)) (fun gs id _=>match id with
 |0=>some ⟨(Int × List (List NC)) × Nat,fun z=>⟨[(0,.w (.c (.p 2 0 1 0))),(2,.w (.c (.o 3))),(3,.w (.c (.p 4 0 1 0))),(21,.w (.c (.o 1))),(22,.w (.c (.d (.i .i64 ((↑u42.length:Int)))))),(23,.w (.c (.d (.i .i64 z.1.1))))],[(2,.ebox [.d (.s u47),.o 0,.o 1]),(3,.xrow 140 (XC.st [NK.ints .i64,NK.i .i64] z.1.2)),(4,.box 141 [.d (.v (qc none (0:Nat) (0:Nat))),.d (.i .i64 0),.d (.v (qc none (0:Nat) (0:Nat))),.d (.i .i64 0)]),(1,.ext (.ints .i64 u42)),(0,.xext (XC.st zS u41))],5⟩,fun z=>(y136 u47 u41 u42 r).inv z,fun z=>z.2⟩
 |2=>some ⟨(Int × List (List NC)) × Nat × (Int × List (List NC)) × Nat,fun z=>⟨[(0,.w (.c (.p 2 0 1 0))),(2,.w (.c (.o 3))),(3,.w (.c (.p 4 0 1 0))),(6,.w (.c (.d (.i .i64 (za u42 z.1.1.toNat (0:Int)))))),(7,.w (.c (.p 5 0 1 0))),(21,.w (.c (.o 1))),(22,.w (.c (.d (.i .i64 ((↑u42.length:Int)))))),(23,.w (.c (.d (.i .i64 (z.1.1))))),(46,.w (.c (.o 6))),(47,.w (.c (.d (.i .i64 ((↑(zg (nL u41 (zf (za u42 z.1.1.toNat (0:Int))) (2:Nat))):Int)))))),(48,.w (.c (.d (.i .i64 z.2.2.1.1))))],[(2,.ebox [.d (.s u47),.o 0,.o 1]),(3,.xrow 140 (XC.st [NK.ints .i64,NK.i .i64] z.2.2.1.2)),(4,.box 141 [.d (.v (qc none (0:Nat) (0:Nat))),.d (.i .i64 0),.d (.v (qc none (0:Nat) (0:Nat))),.d (.i .i64 0)]),(5,.box 118 [.d (.s (nS u41 (zf (za u42 z.1.1.toNat (0:Int))) (0:Nat))),.d (.i .i64 (nI u41 (zf (za u42 z.1.1.toNat (0:Int))) (1:Nat))),.o 6,.o 7,.o 8,.d (.i .i64 (nI u41 (zf (za u42 z.1.1.toNat (0:Int))) (5:Nat))),.o 9,.d (.i .i64 (nI u41 (zf (za u42 z.1.1.toNat (0:Int))) (7:Nat)))]),(1,.ext (.ints .i64 u42)),(6,.ext (.ints .i64 (nL u41 (zf (za u42 z.1.1.toNat (0:Int))) (2:Nat)))),(0,.xext (XC.st zS u41)),(7,.ext (.ints .i64 (nL u41 (zf (za u42 z.1.1.toNat (0:Int))) (3:Nat)))),(8,.ext (.ints .i64 (nL u41 (zf (za u42 z.1.1.toNat (0:Int))) (4:Nat)))),(9,.ext (.recs 5 (nR u41 (zf (za u42 z.1.1.toNat (0:Int))) (6:Nat))))],10⟩,fun z=>(y137 u47 u41 u42 r (gs.getD 0 0)).inv z,fun z=>z.2.2.2⟩
 |_=>none) (jbd jfk [.d (.s u47),.x (.st zS u41),.r (.ints .i64 u42)]) [.c (.x 140 (.st ([NK.ints .i64,NK.i .i64]) r.1)),.s [.fe (.ints .i64 r.2.1),.d (.i .i64 r.2.2.1),.row 3 (.ints .i64 r.2.2.2.1),.d (.i .i64 r.2.2.2.2.1)],.c (.d (.b r.2.2.2.2.2))] :=
 Sk.vc (jqs u47 u41 u42 r) (by kernel_rfl) h
def jpj:jaf Tryz.prog 88 true (jai jfk jfl):=by
 refine jaC (sp:=(sp_133 sp0)) (fn:=Tryz.f88) (body:=bodyOf Tryz.f88) mixed (sp_133_ok jau) Tryz.func88 (by kernel_rfl) (by kernel_rfl) fun ls t h ho b hb=>?_;unfold jfl at h;split at h
 ·rename_i u47 u41 u42;cases h;obtain rfl:=jaN hb;exact⟨zj (by kernel_rfl),_,_,jpi u47 u41 u42 _ (jar ho)⟩
 ·cases h
def sp_88_ok {sp:jaa} (h:jac Tryz.prog sp):jac Tryz.prog (sp_88 sp):=jap jpj h
end Go.Sh
end

section
namespace Go.Sh
open Go Go.Proofs Go.RowKit Go.Sx
open Go.IntKind (wrap)
def jgc:List SV:=[.a [.d,.x (.st zS [])]]
def y34 (r2:List (List NC) × List Int × Int × List Int × Int × Bool) (x0:(Int × List Int)):Option ((Int × List Int) ⊕ (List Int)) :=
 if x0.1<(↑r2.1.length:Int)then
  if 0<=x0.1∧x0.1<(↑r2.1.length:Int)then
  if zf x0.1<zg r2.1 then
   if(zg x0.2+zg [nI r2.1 x0.1.toNat (1:Nat)])*8<=140737488355328∧zg x0.2+zg [nI r2.1 x0.1.toNat (1:Nat)]<=9223372036854775807 then
   some (.inl ((wrap .i64 (x0.1+1),x0.2++[nI r2.1 x0.1.toNat (1:Nat)])))
   else none
  else none
  else none
 else
  some (.inr x0.2)
def y109 (u5:List Int):Option (List Int × Int) :=
 some ((u5,0))
def y29 (u4:ByteArray) (u1:List (List NC)):Option (List Int × Int) :=
 if(jjS u4 u1)=true then
  ze (jdG u4 u1) fun r0 =>
  some ([],nzI r0)
 else
  ze (jay u4 u1) fun r1 =>
  ze (y2 u4 u1 r1) fun r2 =>
  if(r2.2.2.2.2.2)=true then
  some (([],13))
  else
  ze (jag (y34 r2) big (((0:Int),[]))) (y109)
def jgd:List Lf->Option GT
 |[.d (.s u4),.x (.st [.s,.i .i64,.ints .i64,.ints .i64,.ints .i64,.i .i64,.recs 5,.i .i64] u1)]=>some (.leaf (ok (y29 u4 u1)) [.c (.row 3 (.ints .i64 ((val (y29 u4 u1)).1))),.c (.d (.i .i64 ((val (y29 u4 u1)).2)))])
 |_=>none
abbrev sp_31:jaa->jaa:=jaG 31 true (jai jgc jgd)
abbrev jiZ (u4:ByteArray) (u1:List (List NC)) (r:List Int × Int):Lp ((Int × List Int) × Nat) (Int × List Int) (List Int) (List Int × Int) (List Int × Int) :=
 ⟨fun z=>z.1,fun z=>z.2,fun z x n=>(x,n),fun z=>y34 (val (y2 u4 u1 (val (jay u4 u1)))),fun z=>y109,fun z=>top r,fun z=>0,[.c fun _=>(↑(zg (val (y2 u4 u1 (val (jay u4 u1)))).1):Int),.c fun vv=>vv.1.1,.c fun vv=>vv.1.2,.c fun _=>(val (y2 u4 u1 (val (jay u4 u1)))).1]⟩
def jqt (u4:ByteArray) (u1:List (List NC)) (r:List Int × Int):Sk (top r) (ze (jag (y34 (val (y2 u4 u1 (val (jay u4 u1))))) big (((0:Int),[]))) (y109)) :=
 .loopQ (jiZ u4 u1 r) [.c fun _=>(↑(zg (val (y2 u4 u1 (val (jay u4 u1)))).1):Int),.c fun vv=>vv.1.1,.p fun vv=>zg vv.1.2=(0:Nat),.c fun _=>(val (y2 u4 u1 (val (jay u4 u1)))).1] (fun kk=>(((0:Int),[]),big)) (fun z0 =>
 .br
 (.ob (.ob (.ob (.next))))
 (.exit (.obT (.obT (.rc))))) (fun _=>⟨rfl,trivial⟩)
def jrH (u4:ByteArray) (u1:List (List NC)) (r:List Int × Int):Sk (top r) (y29 u4 u1) :=
 .brB
 (.call (.obT (.obT (.ret (fun r=>(Ob (zg r.1=(0:Nat)) ∧
 (Ob (nzI (val (jdG u4 u1))=r.2) ∧
 True))) ⟨⟨rfl⟩,⟨⟨rfl⟩,trivial⟩⟩))))
 (.call (.call (.brB
 (.obT (.obT (.ret (fun r=>(Ob (zg r.1=(0:Nat)) ∧
 (Ob ((13:Int)=r.2) ∧
 True))) ⟨⟨rfl⟩,⟨⟨rfl⟩,trivial⟩⟩)))
 (jqt u4 u1 r))))
def jqu (u4:ByteArray) (u1:List (List NC)) (r:List Int × Int) (h:ze (y29 u4 u1) some=some r):jbl Tryz.f31 ((sp_80 (sp_88 sp0))) (fun gs id _=>match id with
 |0=>some ⟨(Int × List Int) × Nat,fun z=>⟨[(9,.w (.c (.o 1))),(27,.w (.c (.o 2))),(28,.w (.c (.d (.i .i64 ((↑(zg (val (y2 u4 u1 (val (jay u4 u1)))).1):Int)))))),(29,.w (.c (.d (.i .i64 z.1.1))))],[(1,.row 3 (.ints .i64 z.1.2)),(2,.xrow 140 (XC.st [NK.ints .i64,NK.i .i64] (val (y2 u4 u1 (val (jay u4 u1)))).1))],3⟩,fun z=>(jiZ u4 u1 r).inv z,fun z=>z.2⟩
 |_=>none) (jbd jgc [.d (.s u4),.x (.st zS u1)]) [.c (.row 3 (.ints .i64 r.1)),.c (.d (.i .i64 r.2))] :=
 Sk.vc (jrH u4 u1 r) (by kernel_rfl) h
def jqv:jaf Tryz.prog 31 true (jai jgc jgd):=by
 refine jaC (sp:=(sp_80 (sp_88 sp0))) (fn:=Tryz.f31) (body:=bodyOf Tryz.f31) mixed (sp_80_ok (sp_88_ok jau)) Tryz.func31 (by kernel_rfl) (by kernel_rfl) fun ls t h ho b hb=>?_;unfold jgd at h;split at h
 ·rename_i u4 u1;cases h;obtain rfl:=jaN hb;exact⟨zj (by kernel_rfl),_,_,jqu u4 u1 _ (jar ho)⟩
 ·cases h
def sp_31_ok {sp:jaa} (h:jac Tryz.prog sp):jac Tryz.prog (sp_31 sp):=jap jqv h
end Go.Sh
end
