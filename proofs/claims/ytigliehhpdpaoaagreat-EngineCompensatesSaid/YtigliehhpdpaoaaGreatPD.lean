/- Part 4 of the proof of EngineCompensates: the executor, the mirrors of the functions, the plain facts. -/
import Derived.Test.YtigliehhpdpaoaaGreatPC
import Derived.IntWalk
import Derived.Test.YtigliehhpdpaoaaGreatProg
import Derived.RangeFuncNested
import Derived.RangeFuncBound
import Derived.RangeFuncCalls
import Derived.RangeFuncLeaves
import Derived.Shelf.Abstract
import Derived.Shelf.RegionOpen
import Derived.WalkKit
import Derived.OwnWalkIn
import Derived.TacticsInMore
import Derived.LoopNIn
import Derived.LoopIn
set_option maxRecDepth 100000
set_option linter.unusedSectionVars false
set_option linter.unusedSimpArgs false
set_option linter.unusedVariables false
set_option linter.defProp false
open Array renaming getD->qC,getElem?_eq_some_iff->zA,replicate_succ->jk,replicate_zero->jl
open Bool renaming false_ne_true->qH,or_eq_false_iff->yJ
open ByteArray renaming data->qd,mk->qi,size->xS
open Eq renaming mp->jJ
open Go renaming Code->yb,FloatKind->zZ,Func->jQ,Value->zF,World->zx,results_none->jM,undef->qe,wpIn_cond_false->jA,wpIn_cond_true->jK,wpIn_seq->yu,wpListIn_nil->jL,wpListIn_plain->xu,wp_mono->xG
open Go.Act renaming put->yW
open Go.Deferred renaming ofValue->jX
open Go.Ending renaming returned->xO
open Go.Fence renaming wide->xD,wide_round->jq
open Go.FloatKind renaming nearest->jI
open Go.IntKind renaming i64->xF
open Go.IntWalk renaming i64_in->fa
open Go.Oper renaming semAt_none->jz,semAt_some->jy
open Go.RowKit renaming Below->xA
open Go.RowKit.Below renaming refl->qO
open Go.Sem renaming run_pure->zp
open Go.Value renaming agg->kR,ownBlock->zL,pointer->xa,slice->qc
open Go.Value.pointer renaming inj->kQ
open Go.World renaming block_lt_of_cell?->qj,cell?_setCell_same'->yB,grownBy_alloc->fo,ownsRow_nil->xt,size_alloc->fQ
open Int renaming toNat->zf,toNat_natCast->zm
open List renaming all_eq_true->zq,any_cons->jb,any_eq_false->xL,any_eq_true->yd,append_assoc->qJ,append_toArray->ju,cons_append->qm,drop->fj,drop_zero->jO,findIdx?_cons->ye,findIdx?_eq_none_iff->xR,findIdx?_eq_some_iff_getElem->qW,getD->za,getElem?_append_left->z7,getElem?_append_right->qa,getElem?_map->zK,getElem_mem->xC,length->zg,length_append->qb,length_cons->z4,length_nil->qD,map_append->xb,map_congr_left->z8,map_cons->zM,map_nil->qR,mem_append->qq,mem_cons->qv,mem_cons_of_mem->zR,mem_cons_self->zV,mem_map->qu,mem_range->xw,mem_singleton->zY,nil_append->qM,push_toArray->jN,range->zG,range_succ->kb,size_toArray->xE,take->fi
open Nat renaming beq->zt,eq_of_beq_eq_true->zb,le_of_ble_eq_true->zj,le_of_not_lt->xQ,le_refl->zu,le_succ->qt,le_trans->qx,lt_of_lt_of_le->zC,lt_succ_self->zo,not_lt_of_le->yc,reduceAdd->gC,reduceSub->gD,sub_zero->jH,zero_add->zP
open Ne renaming symm->yG
open Option renaming bind->ze,getD->qK,getD_some->zU,map_eq_some_iff->z5,map_some->zQ
open Option.some renaming inj->xT,injEq->zi
open Prod.mk renaming injEq->qg
open Sum renaming elim->qZ
open UInt8 renaming toNat->qw
section
open Go.RowKit
namespace Go.Sx
inductive Sh where
 |d
 |r (c0:Cont)
 |x (x0:XC)
 |p (l:List Sh)
 |f (g:Nat) (l:List Sh)
inductive SV where
 |c (x:Sh)
 |a (l:List Sh)
 |b (k:zZ) (e:Nat)
inductive Lf where
 |d (x:D)
 |n (k:zZ)
 |r (c:Cont)
 |x (x:XC)
 |b (k:zZ) (e:Nat) (r:List Nat)
def nilC:C->Bool
 | .d (.v (.slice none 0 0))=>true
 |_=>false
def jgX (hp:Hp) (h:Nat):Option (List C):=match find hp h with
 |some (.box _ cs)=>some cs
 |some (.ebox cs)=>some cs
 |_=>none
def isP:Sh->Bool
 | .p _=>true
 |_=>false
def jeD (f:Sh->C->Option (List Lf × List C)):List Sh->List C->Option (List Lf × List C)
 |[],[]=>some ([],[])
 |s::l,c::cs=>match f s c,jeD f l cs with
  |some (a,x),some (b,y)=>some (a++b,x++y)
  |_,_=>none
 |_,_=>none
def toC (hp:Hp):Nat->Sh->C->Option (List Lf × List C)
 |0,_,_=>none
 |n+1,s,c =>
  match s with
  | .d=>match c with
   | .d x=>some ([.d x],[])
   | .o h=>match find hp h with
    |some (.nan k)=>some ([.n k],[c])
    |_=>none
   |_=>none
  | .r c0=>match nilC c with
   |true=>match c0.n,c0.e with
    |0,_+1=>some ([.r c0],[c])
    |_,_=>none
   |false=>match c with
    | .o h=>match(find hp h).bind O.cont with
     |some x=>match x.e with
      |0=>none
      |_+1=>some ([.r x],[c])
     |none=>none
    |_=>none
  | .x x0=>match nilC c with
   |true=>match x0.n with
    |0=>some ([.x x0],[c])
    |_=>none
   |false=>match c with
    | .o h=>match(find hp h).bind O.xc with
     |some X=>match X.e with
      |0=>none
      |_+1=>some ([.x X],[c])
     |_=>none
    |_=>none
  | .p l=>match c with
   | .p h 0 _ 0=>match jgX hp h with
    |some cs=>(jeD (toC hp n) l cs).map fun(a,x)=>(a,x++[c])
    |none=>none
   | .o h=>match jgX hp h with
    |some cs=>(jeD (toC hp n) l cs).map fun(a,x)=>(a,x++[c])
    |none=>none
   |_=>none
  | .f g l=>match c with
   | .fn g' hs=>match zt g g',l.all isP with
    |true,true=>jeD (toC hp n) l (hs.map C.o)
    |_,_=>none
   |_=>none
def toV (hp:Hp) (s:SV) (v:V):Option (List Lf × List C) :=
 match s,v with
 | .c s,.w (.c c)=>toC hp 8 s c
 | .a l,.w (.a cs)=>jeD (toC hp 8) l cs
 | .b k e,.w (.b k' e' r)=>match jbN k k',zt e e' with
  |true,true=>some ([.b k e r],[])
  |_,_=>none
 | .b k e,.w (.a cs)=>match jd1 k cs with
  |some r=>match zt e r.length with
   |true=>some ([.b k e r],[])
   |false=>none
  |none=>none
 |_,_=>none
def jjD (hp:Hp):List SV->List V->Option (List Lf × List C)
 |[],[]=>some ([],[])
 |s::l,v::vs=>match toV hp s v,jjD hp l vs with
  |some (a,x),some (b,y)=>some (a++b,x++y)
  |_,_=>none
 |_,_=>none
structure Bt where
 cs:List C
 hp:Hp
 n:Nat
 ls:List Lf
def jjE (f:Sh->Nat->List Lf->Option Bt):List Sh->Nat->List Lf->Option Bt
 |[],n,ls=>some ⟨[],[],n,ls⟩
 |s::l,n,ls=>match f s n ls with
  |some a=>match jjE f l a.n a.ls with
   |some b=>some ⟨a.cs++b.cs,b.hp++a.hp,b.n,b.ls⟩
   |none=>none
  |none=>none
def hOf:C->Nat
 | .p h _ _ _=>h
 | .o h=>h
 |_=>0
def jeE:Nat->Sh->Nat->List Lf->Option Bt
 |0,_,_,_=>none
 |m+1,s,n,ls =>
  match s with
  | .d=>match ls with
   | .d x::r=>some ⟨[.d x],[],n,r⟩
   | .n k::r=>some ⟨[.o n],[(n,.nan k)],n+1,r⟩
   |_=>none
  | .r _=>match ls with
   | .r c::r=>some ⟨[.o n],[(n,.ext c)],n+1,r⟩
   |_=>none
  | .x _=>match ls with
   | .x X::r=>some ⟨[.o n],[(n,.xext X)],n+1,r⟩
   |_=>none
  | .p l=>match jjE (jeE m) l n ls with
   |some b=>some ⟨[.p b.n 0 1 0],(b.n,.ebox b.cs)::b.hp,b.n+1,b.ls⟩
   |none=>none
  | .f g l=>match jjE (jeE m) l n ls with
   |some b=>some ⟨[.fn g (b.cs.map hOf)],b.hp,b.n,b.ls⟩
   |none=>none
structure Bv where
 vs:List V
 hp:Hp
 n:Nat
 ls:List Lf
def jgt:List C->C
 |c::_=>c
 |[]=>.d (.v qe)
def jsK (s:SV) (n:Nat) (ls:List Lf):Option Bv :=
 match s with
 | .c s=>(jeE 8 s n ls).map fun b=>⟨[.w (.c (jgt b.cs))],b.hp,b.n,b.ls⟩
 | .a l=>(jjE (jeE 8) l n ls).map fun b=>⟨[.w (.a b.cs)],b.hp,b.n,b.ls⟩
 | .b _ _=>match ls with
  | .b k e r::q=>some ⟨[.w (.b k e r)],[],n,q⟩
  |_=>none
def jeF:List SV->Nat->List Lf->Option Bv
 |[],n,ls=>some ⟨[],[],n,ls⟩
 |s::l,n,ls=>match jsK s n ls with
  |some a=>match jeF l a.n a.ls with
   |some b=>some ⟨a.vs++b.vs,b.hp++a.hp,b.n,b.ls⟩
   |none=>none
  |none=>none
inductive RC where
 |d (x:D)
 |g (i:Nat)
 |row (ty:Nat) (c:Cont)
 |box (ty:Nat) (l:List RC)
 |rrow (c:Cont)
 |fe (c:Cont)
 |x (ty:Nat) (x:XC)
 |m (ty:Nat) (ts:List Nat) (x:XC)
inductive RR where
 |c (x:RC)
 |s (l:List RC)
 |b (k:zZ) (e:Nat) (r:List Nat)
inductive GT where
 |leaf (ob:Prop) (rs:List RR)
 |br (b:Bool) (x y:GT)
def GT.sel:GT->Prop × List RR
 | .leaf ob rs=>(ob,rs)
 | .br b x y=>match b with
  |true=>x.sel
  |false=>y.sel
structure Rt where
 cs:List C
 hp:Hp
 n:Nat
def rvL (f:RC->Nat->Rt):List RC->Nat->Rt
 |[],n=>⟨[],[],n⟩
 |r::l,n =>
  let a:=f r n
  let b:=rvL f l a.n
  ⟨a.cs++b.cs,b.hp++a.hp,b.n⟩
def rvC (am:List C):Nat->RC->Nat->Rt
 |0,_,n=>⟨[.d (.v qe)],[],n⟩
 |m+1,r,n =>
  match r with
  | .d x=>⟨[.d x],[],n⟩
  | .g i=>⟨[am.getD i (.d (.v qe))],[],n⟩
  | .row ty c=>⟨[.o n],[(n,.row ty c)],n+1⟩
  | .rrow c=>⟨[.o n],[(n,.rrow c)],n+1⟩
  | .fe c=>⟨[.o n],[(n,.fext c)],n+1⟩
  | .x ty X=>⟨[.o n],[(n,.xrow ty X)],n+1⟩
  | .m ty ts X=>⟨[.o n],[(n,.mrow ty ts X none)],n+1⟩
  | .box ty l =>
   let b:=rvL (rvC am m) l n
   ⟨[.p b.n 0 1 0],(b.n,.box ty b.cs)::b.hp,b.n+1⟩
structure Rw where
 ws:List W
 hp:Hp
 n:Nat
def rvR (am:List C) (r:RR) (n:Nat):Rw :=
 match r with
 | .c x=>let b:=rvC am 8 x n; ⟨[.c (jgt b.cs)],b.hp,b.n⟩
 | .s l=>let b:=rvL (rvC am 8) l n; ⟨[.a b.cs],b.hp,b.n⟩
 | .b k e r=>⟨[.b k e r],[],n⟩
def jcn (am:List C):List RR->Nat->Rw
 |[],n=>⟨[],[],n⟩
 |r::l,n =>
  let a:=rvR am r n
  let b:=jcn am l a.n
  ⟨a.ws++b.ws,b.hp++a.hp,b.n⟩
def GT.toRT (am:List C) (hp:Hp) (nx:Nat):GT->RT
 | .leaf ob rs=>let b:=jcn am rs nx; .leaf ⟨ob,ja0 b.ws,b.hp++hp,b.n⟩
 | .br b x y=>.br b (x.toRT am hp nx) (y.toRT am hp nx)
def jai (shs:List SV) (g:List Lf->Option GT):Spec:=fun vs hp nx =>
 match jjD hp shs vs with
 |some (ls,am)=>match g ls with
  |some t=>some (t.toRT am hp nx)
  |none=>none
 |none=>none
def fitL (f:RC->C->List Nat->(List Nat->Prop)->Prop):List RC->List C->List Nat->(List Nat->Prop)->Prop
 |[],[],us,k=>k us
 |r::l,c::cs,us,k=>f r c us fun us=>fitL f l cs us k
 |_,_,_,_=>False
def jsL (n0:Nat) (hp:Hp):Nat->RC->C->List Nat->(List Nat->Prop)->Prop
 |0,_,_,_,_=>False
 |m+1,r,c,us,k =>
  match r,c with
  | .d x,.d y=>mD x y∧k us
  | .g i,.o h=>match zt i h,Nat.blt i n0 with
   |true,true=>k us
   |_,_=>False
  | .row ty c,.o h=>match us.contains h with
   |true=>False
   |false=>match find hp h with
    |some (.row ty' c')=>match zt ty' ty with
     |true=>jdW c c'∧k (h::us)
     |false=>False
    |_=>False
  | .row _ c,.d (.v (.slice none 0 0))=>Ob (c.n=0)∧k us
  | .rrow c,.o h=>match us.contains h with
   |true=>False
   |false=>match find hp h with
    |some (.rrow c')=>jdW c c'∧k (h::us)
    |_=>False
  | .rrow c,.d (.v (.slice none 0 0))=>Ob (c.n=0)∧k us
  | .fe c,.o h=>match us.contains h with
   |true=>False
   |false=>match find hp h with
    |some (.fext c')=>jdW c c'∧k (h::us)
    |_=>False
  | .fe c,.d (.v (.slice none 0 0))=>Ob (c.n=0)∧k us
  | .x ty X,.o h=>match us.contains h with
   |true=>False
   |false=>match find hp h with
    |some (.xrow ty' X')=>match zt ty' ty with
     |true=>mX X X'∧k (h::us)
     |false=>False
    |_=>False
  | .x _ X,.d (.v (.slice none 0 0))=>Ob (X.n=0)∧k us
  | .m ty ts X,.o h=>match us.contains h with
   |true=>False
   |false=>match find hp h with
    |some (.mrow ty' ts' X' none)=>match zt ty' ty,decide (ts'=ts)with
     |true,true=>mX X X'∧k (h::us)
     |_,_=>False
    |_=>False
  | .m _ _ X,.d (.v (.slice none 0 0))=>Ob (X.n=0)∧k us
  | .box ty l,.p h 0 _ 0=>match find hp h with
   |some (.box ty' cs)=>match zt ty' ty with
    |true=>fitL (jsL n0 hp m) l cs us fun us=>match us.contains h with
     |true=>False
     |false=>k (h::us)
    |false=>False
   |_=>False
  |_,_=>False
def fitR (n0:Nat) (hp:Hp) (r:RR) (w:W) (us:List Nat) (k:List Nat->Prop):Prop :=
 match r,w with
 | .c x,.c c=>jsL n0 hp 8 x c us k
 | .s l,.a cs=>fitL (jsL n0 hp 8) l cs us k
 | .b q e r,.b q' e' r'=>match jbN q q',zt e e' with
  |true,true=>Ob (r=r')∧k us
  |_,_=>False
 |_,_=>False
def jme (n0:Nat) (hp:Hp):List RR->List W->List Nat->Prop
 |[],[],_=>True
 |r::l,w::ws,us=>fitR n0 hp r w us fun us=>jme n0 hp l ws us
 |_,_,_=>False
def jf1 (n0:Nat) (rs:List RR) (v:V) (hp:Hp):Prop:=match v with
 | .w u=>jme n0 hp rs [u] []
 | .t [_]=>False
 | .t l=>jme n0 hp rs l []
section
variable [Globs] {P:Program} {sp:jaa} {U:Env} {B:Kd} {nx:Nat} {hp:Hp} {w w':zx}
def C.p_val {U:Env} {h i e j:Nat}:(C.p h i e j).val U=.pointer (some ⟨(base (U h)).block,(base (U h)).off+(i*e+j),none⟩):=rfl
structure BOK (U:Env) (w:zx) (nx n:Nat) (U1 U2:Env) (rest:List Lf) (cs x:List C) (b:Bt):Prop where
 ls:b.ls=rest
 nn:b.n=n+x.length
 agree:jae n U1 U2
 val:b.cs.map (C.val U2)=cs.map (C.val U)
 lt:∀c∈b.cs,C.lt b.n c
 heap:∀h o,find b.hp h=some o->n<=h∧h<b.n∧o.lt b.n∧o.ok U2 (kd fun k=>k<w.heap.size) w h∧∀v,o.blk v=none
 own:∀i,i<x.length->U2 (n+i)=(x.getD i (.d (.v qe))).val U
 xlt:∀y∈x,C.lt nx y
 hnd:∀c∈b.cs,(∃m i e j,c=.p m i e j)->U2 (hOf c)=c.val U2∧hOf c<b.n
def BOK.append {n:Nat} {U1 U2 U3:Env} {r1 rest:List Lf} {c1 c2 x1 x2:List C} {b1 b2:Bt} (h1:BOK U w nx n U1 U2 r1 c1 x1 b1) (h2:BOK U w nx b1.n U2 U3 rest c2 x2 b2) :
  BOK U w nx n U1 U3 rest (c1++c2) (x1++x2) ⟨b1.cs++b2.cs,b2.hp++b1.hp,b2.n,b2.ls⟩:=by
 have hle:b1.n<=b2.n:=by rw[h2.nn];omega
 have hn1:n<=b1.n:=by rw[h1.nn];omega
 refine⟨h2.ls,?_,h1.agree.trans h2.agree hn1,?_,?_,?_,?_,?_,?_⟩
 ·show b2.n=_
  rw[h2.nn,h1.nn,qb];omega
 ·simp only[xb,h2.val]
  congr 1
  rw[<-h1.val];exact z8 fun c hc=>C.val_agree h2.agree (h1.lt c hc)
 ·intro c hc;rcases qq.1 hc with hc|hc
  ·exact C.lt_mono hle (h1.lt c hc)
  ·exact h2.lt c hc
 ·intro h o hf;have hf:find (b2.hp++b1.hp) h=some o:=hf;rw[jat]at hf;cases hg:find b2.hp h with
  |some o2 =>
   rw[hg]at hf;cases hf;obtain⟨a1,a2,a3,a4,a5⟩:=h2.heap h o hg;exact⟨qx hn1 a1,a2,a3,a4,a5⟩
  |none =>
   rw[hg]at hf;obtain⟨a1,a2,a3,a4,a5⟩:=h1.heap h o hf;exact⟨a1,zC a2 hle,O.lt_mono hle a3,O.ok_agree h2.agree a2 a3 a4,a5⟩
 ·intro i hi
  by_cases hlt:i<x1.length
  ·rw[h2.agree (n+i) (by rw[h1.nn];omega),h1.own i hlt];simp[za,z7 hlt]
  ·have e1:n+i=b1.n+(i-x1.length):=by rw[h1.nn];omega
   rw[e1,h2.own (i-x1.length) (by simp at hi;omega)];simp[za,qa (xQ hlt)]
 ·intro y hy;rcases qq.1 hy with hy|hy
  ·exact h1.xlt y hy
  ·exact h2.xlt y hy
 ·intro c hc hp;rcases qq.1 hc with hc|hc
  ·obtain⟨a1,a2⟩:=h1.hnd c hc hp;exact⟨by rw[h2.agree _ a2,a1];exact(C.val_agree h2.agree (h1.lt c hc)).symm,zC a2 hle⟩
  ·exact h2.hnd c hc hp
def BOK.nil {n:Nat} {U1:Env} {rest:List Lf}:BOK U w nx n U1 U1 rest [] [] ⟨[],[],n,rest⟩ :=
 ⟨rfl,rfl,jae.refl _ _,rfl,(fun _ h=>by cases h),(fun _ _ h=>by cases h),(fun _ h=>by cases h),(fun _ h=>by cases h),fun _ h=>by cases h⟩
def ToOK (U:Env) (w:zx) (nx:Nat) (s:Sh) (c:C) (a:List Lf) (x:List C) (g:Sh->Nat->List Lf->Option Bt):Prop :=
 ∀(n:Nat) (U1:Env) (rest:List Lf),∃b U2,g s n (a++rest)=some b∧BOK U w nx n U1 U2 rest [c] x b
def jk6 {f:Sh->C->Option (List Lf × List C)} {g:Sh->Nat->List Lf->Option Bt} (hf:∀s c a x,f s c=some (a,x)->C.lt nx c->ToOK U w nx s c a x g) :
  ∀(l:List Sh) (cs:List C) (a:List Lf) (x:List C),jeD f l cs=some (a,x)->(∀c∈cs,C.lt nx c)->∀(n:Nat) (U1:Env) (rest:List Lf),∃b U2,jjE g l n (a++rest)=some b∧BOK U w nx n U1 U2 rest cs x b
 |[],[],a,x,h,_,n,U1,rest=>by
  simp only[jeD,zi,qg]at h;obtain⟨rfl,rfl⟩:=h;exact⟨_,U1,rfl,BOK.nil⟩
 |s::l,c::cs,a,x,h,hlt,n,U1,rest=>by
  simp only[jeD]at h;split at h
  ·rename_i a1 x1 a2 x2 h1 h2;cases h;obtain⟨b1,U2,e1,k1⟩:=hf s c a1 x1 h1 (hlt c zV) n U1 (a2++rest);obtain⟨b2,U3,e2,k2⟩:=jk6 hf l cs a2 x2 h2 (fun c hc=>hlt c (zR _ hc)) b1.n U2 rest;refine⟨_,U3,?_,k1.append k2⟩;rw[qJ];simp only[jjE,e1,k1.ls,e2]
  ·cases h
 |[],_::_,_,_,h,_,_,_,_=>by simp[jeD]at h
 |_::_,[],_,_,h,_,_,_,_=>by simp[jeD]at h
def jqO {c:C} (h:nilC c=true):c=.d (.v (.slice none 0 0)):=by
 unfold nilC at h;split at h
 ·rfl
 ·cases h
def jke (hh:HRel U B hp nx w) (hB:Old B w) {h:Nat} {cs:List C} (hc:jgX hp h=some cs) :
  h<nx∧(∀c∈cs,C.lt nx c)∧∃k o,U h=.pointer (some ⟨k,o,none⟩)∧k<w.heap.size∧∀j c,cs[j]?=some c->w.cell? ⟨k,o+j,none⟩=some (c.val U):=by
 unfold jgX at hc;split at hc
 ·rename_i ty cs' hf;cases hc;obtain⟨h1,h2,g,h3,h4,h5⟩:=hh.ok h _ hf;refine⟨h1,h2,g,0,h3,(zA.1 h5).1,fun j c hj=>?_⟩;rw[zP,cell_of_row w g _ _ ty (0,0) h5];simp[hj]
 ·rename_i cs' hf;cases hc;obtain⟨h1,h2,g,o,h3,h4,h5⟩:=hh.ok h _ hf;exact⟨h1,h2,g,o,h3,hB g (.inl h4),h5⟩
 ·cases hc
def BOK.one {n:Nat} {U1:Env} {rest:List Lf} {c:C} {o:O} (hc:C.lt nx c) (hl:o.lt (n+1)) (hb:∀v,o.blk v=none) (ho:o.ok (upd U1 n (c.val U)) (kd fun k=>k<w.heap.size) w n) :
  BOK U w nx n U1 (upd U1 n (c.val U)) rest [c] [c] ⟨[.o n],[(n,o)],n+1,rest⟩:=by
 refine⟨rfl,rfl,jal _ _ _,by simp[C.val],?_,?_,?_,?_,?_⟩
 ·intro c' hc';simp only[zY]at hc';subst hc';exact zo n
 ·intro h o' hf;simp only[find]at hf;split at hf
  ·rename_i e;subst e;cases hf;exact⟨zu _,zo _,hl,ho,hb⟩
  ·cases hf
 ·intro i hi;simp at hi;subst hi;simp
 ·intro y hy;simp only[zY]at hy;subst hy;exact hc
 ·rintro c' hc' ⟨m,i,e,j,rfl⟩;simp at hc'
def jym {m:Nat}:∀(l:List Sh) (n:Nat) (ls:List Lf) (b:Bt),l.all isP=true->jjE (jeE m) l n ls=some b->∀c∈b.cs,∃q i e j,c=C.p q i e j
 |[],n,ls,b,_,h=>by simp only[jjE,zi]at h;subst h;exact fun _ h=>by cases h
 |s::l,n,ls,b,hp,h=>by
  simp only[List.all_cons,Bool.and_eq_true]at hp;simp only[jjE]at h;split at h
  ·rename_i a ha;split at h
   ·rename_i b2 hb2;cases h;intro c hc;rcases qq.1 hc with hc|hc
    ·cases m with
     |zero=>simp[jeE]at ha
     |succ m =>
      cases s with
      |p l2 =>
       simp only[jeE]at ha;split at ha
       ·cases ha;simp only[zY]at hc;exact⟨_,_,_,_,hc⟩
       ·cases ha
      |_=>simp[isP]at hp
    ·exact jym l _ _ b2 hp.2 hb2 c hc
   ·cases h
  ·cases h
def jnt (hh:HRel U B hp nx w) (hB:Old B w):∀(m:Nat) (s:Sh) (c:C) (a:List Lf) (x:List C),toC hp m s c=some (a,x)->C.lt nx c->ToOK U w nx s c a x (jeE m)
 |0,_,_,_,_,h,_=>by simp[toC]at h
 |m+1,s,c,a,x,h,hc=>by
  intro n U1 rest;have ih:=jk6 (f:=toC hp m) (g:=jeE m) (fun s c a x h hc=>jnt hh hB m s c a x h hc);cases s with
  |d =>
   simp only[toC]at h;split at h
   ·cases h;refine⟨_,U1,rfl,rfl,rfl,jae.refl _ _,rfl,?_,(fun _ _ h=>by cases h),(fun _ h=>by cases h),(fun _ h=>by cases h),?_⟩
    ·intro c hc;simp only[zY]at hc;subst hc;trivial
    ·rintro c hc ⟨_,_,_,_,rfl⟩;simp at hc
   ·rename_i h0;split at h
    ·rename_i k hf;cases h;have hok:=(hh.ok h0 _ hf).2.2;exact⟨_,_,rfl,BOK.one hc trivial (fun _=>rfl) (by unfold O.ok;rw[upd_same];exact hok)⟩
    ·cases h
   ·cases h
  |r c0 =>
   simp only[toC]at h;split at h
   ·rename_i hn;have hn:=jqO hn;subst hn;split at h
    ·rename_i e hn0 he;cases h;refine⟨_,_,rfl,BOK.one (c:=.d (.v (.slice none 0 0))) hc trivial (fun _=>rfl) ?_⟩;refine⟨⟨none,0,by rw[upd_same,hn0];rfl,⟨by omega,fun _=>rfl⟩,fun hp=>by omega⟩,fun a' n' cap hv=>?_⟩;rw[upd_same]at hv;cases hv
    ·cases h
   ·split at h
    ·rename_i h0 _;split at h
     ·rename_i x hx;split at h
      ·cases h
      ·rename_i e he;cases h;cases hf:find hp h0 with
       |none=>simp[hf]at hx
       |some o =>
        simp only[hf,Option.bind_some]at hx;have hrow:=jaX (hh.ok h0 o hf).2.2 hx;exact⟨_,_,rfl,BOK.one hc trivial (fun _=>rfl) ⟨by rw[upd_same];exact hrow,by rw[upd_same];exact hrow.lt (by omega)⟩⟩
     ·cases h
    ·cases h
  |x x0 =>
   simp only[toC]at h;split at h
   ·rename_i hn;have hn:=jqO hn;subst hn;split at h
    ·rename_i hn0;cases h;refine⟨_,_,rfl,BOK.one (c:=.d (.v (.slice none 0 0))) hc trivial (fun _=>rfl) ?_⟩;exact⟨none,0,by rw[upd_same,hn0];rfl,⟨by omega,fun _=>rfl⟩,fun hp=>by omega⟩
    ·cases h
   ·split at h
    ·rename_i h0 _;split at h
     ·rename_i X hf;obtain⟨ox,hf,hxc⟩:=Option.bind_eq_some_iff.1 hf;split at h
      ·cases h
      rename_i e he;cases h;obtain⟨a1,cap,hv1,hc1,hx1⟩:=jeS (hh.ok h0 _ hf).2.2 hxc;refine⟨_,_,rfl,BOK.one (o:=.xext X) hc trivial (fun _=>rfl) ?_⟩;refine⟨a1,cap,by rw[upd_same];exact hv1,hc1,fun hn=>?_⟩;obtain⟨b,off,rfl,hcell⟩:=hx1 hn
      ·obtain⟨u,hu,_⟩:=hcell 0 0 hn (by omega);exact⟨b,off,rfl,qj w _ hu,fun i j hi hj=>let ⟨u,hu,hux⟩:=hcell i j hi hj; ⟨u,hu,NC.at_mono (fun k hk=>hB k hk) hux⟩⟩
     ·cases h
    ·cases h
  |p l =>
   have key:∀(h0:Nat) (cs:List C),jgX hp h0=some cs->c.val U=U h0->(jeD (toC hp m) l cs).map (fun(a,x)=>(a,x++[c]))=some (a,x) ->
     ∃b U2,jeE (m+1) (.p l) n (a++rest)=some b∧BOK U w nx n U1 U2 rest [c] x b:=by
    intro h0 cs hbc hcv ht;obtain⟨⟨a',x'⟩,ht',he⟩:=z5.1 ht;cases he;obtain⟨hlt0,hcl,k,o,hk,hks,hcell⟩:=jke hh hB hbc;obtain⟨b,U2,e,q⟩:=ih l cs a x' ht' hcl n U1 rest;have hag:jae b.n U2 (upd U2 b.n (c.val U)):=jal _ _ _;have hnb:n<=b.n:=by rw[q.nn];omega
    refine⟨⟨[.p b.n 0 1 0],(b.n,.ebox b.cs)::b.hp,b.n+1,b.ls⟩,upd U2 b.n (c.val U),by simp only[jeE,e],q.ls,?_,q.agree.trans hag hnb,?_,?_,?_,?_,?_,?_⟩
    ·show b.n+1=_
     rw[q.nn];simp;omega
    ·simp only[zM,qR,C.p_val,upd_same];rw[hcv,hk];simp[base]
    ·intro c' hc';simp only[zY]at hc';subst hc';exact zo _
    ·intro h' o' hf;simp only[find]at hf;split at hf
     ·rename_i e2;subst e2;cases hf;refine⟨hnb,zo _,fun y hy=>C.lt_mono (qt _) (q.lt y hy),⟨k,o,by rw[upd_same,hcv];exact hk,hks,fun j y hj=>?_⟩,fun _=>rfl⟩;rw[C.val_agree hag (q.lt y (List.mem_of_getElem? hj))];have h1:(b.cs.map (C.val U2))[j]?=some (y.val U2):=by rw[zK,hj];rfl
      rw[q.val,zK]at h1;obtain⟨y',hy',he'⟩:=z5.1 h1;rw[<-he'];exact hcell j y' hy'
     ·obtain⟨a1,a2,a3,a4,a5⟩:=q.heap h' o' hf;exact⟨a1,Nat.lt_succ_of_lt a2,O.lt_mono (qt _) a3,O.ok_agree hag a2 a3 a4,a5⟩
    ·intro i hi
     by_cases hlt:i<x'.length
     ·rw[hag (n+i) (by rw[q.nn];omega),q.own i hlt];simp[za,z7 hlt]
     ·have e3:i=x'.length:=by simp at hi;omega
      subst e3;rw[<-q.nn,upd_same];simp[za]
    ·intro y hy;rcases qq.1 hy with hy|hy
     ·exact q.xlt y hy
     ·simp only[zY]at hy;subst hy;exact hc
    ·intro c' hc' _;simp only[zY]at hc';subst hc';refine⟨?_,zo _⟩;simp only[hOf,C.p_val,upd_same];rw[hcv,hk];simp[base]
   simp only[toC]at h;split at h
   ·rename_i h0 e0;split at h
    ·rename_i cs hbc;refine key h0 cs hbc ?_ h;obtain⟨_,_,k,o,hk,_⟩:=jke hh hB hbc;simp[C.val,hk,base]
    ·cases h
   ·rename_i h0;split at h
    ·rename_i cs hbc;exact key h0 cs hbc rfl h
    ·cases h
   ·cases h
  |f g l =>
   simp only[toC]at h;split at h
   ·rename_i g' hs;split at h
    ·rename_i hg hip;have hg:=zb hg;subst hg
     have hcl:∀y∈hs.map C.o,C.lt nx y:=fun y hy=>by
      obtain⟨z,hz,rfl⟩:=qu.1 hy;exact hc z hz
     obtain⟨b,U2,e,q⟩:=ih l _ a x h hcl n U1 rest;have hbp:=jym l n (a++rest) b hip e;refine⟨⟨[.fn g (b.cs.map hOf)],b.hp,b.n,b.ls⟩,U2,by simp only[jeE,e],q.ls,q.nn,q.agree,?_,?_,q.heap,q.own,q.xlt,?_⟩
     ·simp only[zM,qR,C.val]
      have:(b.cs.map hOf).map U2=hs.map U:=by
       have h1:=q.val;rw[List.map_map]at h1 ⊢;have h2:b.cs.map (U2 ∘ hOf)=b.cs.map (C.val U2):=z8 fun y hy=>(q.hnd y hy (hbp y hy)).1;rw[h2,h1];exact z8 fun y hy=>rfl
      rw[this]
     ·intro y hy;simp only[zY]at hy;subst hy;intro z hz;obtain⟨y,hy,rfl⟩:=qu.1 hz;exact(q.hnd y hy (hbp y hy)).2
     ·rintro y hy ⟨_,_,_,_,rfl⟩;simp at hy
    ·cases h
   ·cases h
structure BVOK (U:Env) (w:zx) (nx n:Nat) (U1 U2:Env) (rest:List Lf) (vs:List V) (x:List C) (b:Bv):Prop where
 ls:b.ls=rest
 nn:b.n=n+x.length
 agree:jae n U1 U2
 val:b.vs.map (V.val U2)=vs.map (V.val U)
 lt:∀c∈b.vs,V.lt b.n c
 heap:∀h o,find b.hp h=some o->n<=h∧h<b.n∧o.lt b.n∧o.ok U2 (kd fun k=>k<w.heap.size) w h∧∀v,o.blk v=none
 own:∀i,i<x.length->U2 (n+i)=(x.getD i (.d (.v qe))).val U
 xlt:∀y∈x,C.lt nx y
def BVOK.append {n:Nat} {U1 U2 U3:Env} {r1 rest:List Lf} {c1 c2:List V} {x1 x2:List C} {b1 b2:Bv} (h1:BVOK U w nx n U1 U2 r1 c1 x1 b1) (h2:BVOK U w nx b1.n U2 U3 rest c2 x2 b2) :
  BVOK U w nx n U1 U3 rest (c1++c2) (x1++x2) ⟨b1.vs++b2.vs,b2.hp++b1.hp,b2.n,b2.ls⟩:=by
 have hle:b1.n<=b2.n:=by rw[h2.nn];omega
 have hn1:n<=b1.n:=by rw[h1.nn];omega
 refine⟨h2.ls,?_,h1.agree.trans h2.agree hn1,?_,?_,?_,?_,?_⟩
 ·show b2.n=_
  rw[h2.nn,h1.nn,qb];omega
 ·simp only[xb,h2.val]
  congr 1
  rw[<-h1.val];exact z8 fun c hc=>V.val_agree h2.agree (h1.lt c hc)
 ·intro c hc;rcases qq.1 hc with hc|hc
  ·exact V.lt_mono hle (h1.lt c hc)
  ·exact h2.lt c hc
 ·intro h o hf;have hf:find (b2.hp++b1.hp) h=some o:=hf;rw[jat]at hf;cases hg:find b2.hp h with
  |some o2 =>
   rw[hg]at hf;cases hf;obtain⟨a1,a2,a3,a4,a5⟩:=h2.heap h o hg;exact⟨qx hn1 a1,a2,a3,a4,a5⟩
  |none =>
   rw[hg]at hf;obtain⟨a1,a2,a3,a4,a5⟩:=h1.heap h o hf;exact⟨a1,zC a2 hle,O.lt_mono hle a3,O.ok_agree h2.agree a2 a3 a4,a5⟩
 ·intro i hi
  by_cases hlt:i<x1.length
  ·rw[h2.agree (n+i) (by rw[h1.nn];omega),h1.own i hlt];simp[za,z7 hlt]
  ·have e1:n+i=b1.n+(i-x1.length):=by rw[h1.nn];omega
   rw[e1,h2.own (i-x1.length) (by simp at hi;omega)];simp[za,qa (xQ hlt)]
 ·intro y hy;rcases qq.1 hy with hy|hy
  ·exact h1.xlt y hy
  ·exact h2.xlt y hy
def jzU (hh:HRel U B hp nx w) (hB:Old B w) {s:SV} {v:V} {a:List Lf} {x:List C} (h:toV hp s v=some (a,x)) (hv:V.lt nx v) (n:Nat) (U1:Env) (rest:List Lf) :
  ∃b U2,jsK s n (a++rest)=some b∧BVOK U w nx n U1 U2 rest [v] x b:=by
 unfold toV at h;split at h
 ·rename_i s c;obtain⟨b,U2,e,q⟩:=jnt hh hB 8 s c a x h hv n U1 rest;have hlen:b.cs.length=1:=by have:=congrArg zg q.val;simpa using this
  obtain⟨c',hc'⟩:∃c',b.cs=[c']:=by
   match hb:b.cs,hlen with
   |[c'],_=>exact⟨c',rfl⟩
  have hval:=q.val;have hlt:=q.lt;rw[hc']at hval hlt;refine⟨⟨[.w (.c (jgt b.cs))],b.hp,b.n,b.ls⟩,U2,by simp only[jsK,e,zQ],q.ls,q.nn,q.agree,?_,?_,q.heap,q.own,q.xlt⟩
  ·simp only[hc',jgt,zM,qR,V.val,W.val];simpa using hval
  ·intro y hy;simp only[zY]at hy;subst hy;rw[hc'];exact hlt c' zV
 ·rename_i l cs;obtain⟨b,U2,e,q⟩:=jk6 (f:=toC hp 8) (g:=jeE 8) (fun s c a x h hc=>jnt hh hB 8 s c a x h hc) l cs a x h hv n U1 rest;refine⟨⟨[.w (.a b.cs)],b.hp,b.n,b.ls⟩,U2,by simp only[jsK,e,zQ],q.ls,q.nn,q.agree,?_,?_,q.heap,q.own,q.xlt⟩
  ·simp only[zM,qR,V.val,W.val,q.val]
  ·intro y hy;simp only[zY]at hy;subst hy;exact q.lt
 ·rename_i k e k' e' r;split at h
  ·rename_i hk he;have hk:=jbz hk;have he:=zb he;subst hk;subst he;cases h;refine⟨_,U1,rfl,rfl,rfl,jae.refl _ _,rfl,?_,(fun _ _ h=>by cases h),(fun _ h=>by cases h),fun _ h=>by cases h⟩;intro y hy;simp only[zY]at hy;subst hy;trivial
  ·cases h
 ·rename_i k e cs;split at h
  ·rename_i r hr;split at h
   ·rename_i he;have he:=zb he;subst he;cases h;refine⟨_,U1,rfl,rfl,rfl,jae.refl _ _,?_,?_,(fun _ _ h=>by cases h),(fun _ h=>by cases h),fun _ h=>by cases h⟩
    ·simp only[zM,qR,V.val,W.val,jvq,jkJ hr]
    ·intro y hy;simp only[zY]at hy;subst hy;trivial
   ·cases h
  ·cases h
 ·cases h
def jhG (hh:HRel U B hp nx w) (hB:Old B w):∀(l:List SV) (vs:List V) (a:List Lf) (x:List C),jjD hp l vs=some (a,x)->(∀v∈vs,V.lt nx v)->∀(n:Nat) (U1:Env) (rest:List Lf),
  ∃b U2,jeF l n (a++rest)=some b∧BVOK U w nx n U1 U2 rest vs x b
 |[],[],a,x,h,_,n,U1,rest=>by
  simp only[jjD,zi,qg]at h;obtain⟨rfl,rfl⟩:=h;exact⟨_,U1,rfl,rfl,rfl,jae.refl _ _,rfl,(fun _ h=>by cases h),(fun _ _ h=>by cases h),(fun _ h=>by cases h),fun _ h=>by cases h⟩
 |s::l,v::vs,a,x,h,hlt,n,U1,rest=>by
  simp only[jjD]at h;split at h
  ·rename_i a1 x1 a2 x2 h1 h2;cases h;obtain⟨b1,U2,e1,k1⟩:=jzU hh hB h1 (hlt v zV) n U1 (a2++rest);obtain⟨b2,U3,e2,k2⟩:=jhG hh hB l vs a2 x2 h2 (fun c hc=>hlt c (zR _ hc)) b1.n U2 rest;refine⟨_,U3,?_,k1.append k2⟩;rw[qJ];simp only[jeF,e1,k1.ls,e2]
  ·cases h
 |[],_::_,_,_,h,_,_,_,_=>by simp[jjD]at h
 |_::_,[],_,_,h,_,_,_,_=>by simp[jjD]at h
def jhH {k h:Nat} {o:O} {hp:Hp}:find ((k,o)::hp) h=if k=h then some o else find hp h:=rfl
structure CIn (U U':Env) (B:Kd) (hp hp':Hp) (n m n0:Nat) (am:List C) (w':zx) (us:List Nat):Prop where
 heap:HRel U B hp n w'
 ap:∀k o b,find hp k=some o->o.blk (U k)=some b->b<m∨∃u∈us,∃ou,find hp' u=some ou∧ou.blk (U' u)=some b
 am:∀i,i<n0->C.lt n (am.getD i (.d (.v qe)))∧(am.getD i (.d (.v qe))).val U=U' i
structure COut (U U2 U':Env) (B:Kd) (hp hp':Hp) (n m:Nat) (w':zx) (us us2:List Nat) (vals:List zF) (r:Rt):Prop where
 agree:jae n U U2
 heap:HRel U2 B (r.hp++hp) r.n w'
 le:n<=r.n
 val:r.cs.map (C.val U2)=vals
 lt:∀c∈r.cs,C.lt r.n c
 ap:∀k o b,find (r.hp++hp) k=some o->o.blk (U2 k)=some b->b<m∨∃u∈us2,∃ou,find hp' u=some ou∧ou.blk (U' u)=some b
 fresh:∀h o b,find r.hp h=some o->o.blk (U2 h)=some b->m<=b
 keys:∀h o,find r.hp h=some o->n<=h
 sub:∀u∈us,u∈us2
variable {U':Env} {hp':Hp} {m n0:Nat} {am:List C}
def CIn.next {U2:Env} {n:Nat} {us us2:List Nat} {vals:List zF} {r:Rt} (h:CIn U U' B hp hp' n m n0 am w' us) (k:COut U U2 U' B hp hp' n m w' us us2 vals r):CIn U2 U' B (r.hp++hp) hp' r.n m n0 am w' us2 :=
 ⟨k.heap,k.ap,fun i hi=>⟨C.lt_mono k.le (h.am i hi).1,by rw[C.val_agree k.agree (h.am i hi).1];exact(h.am i hi).2⟩⟩
def COut.append {U2 U3:Env} {n:Nat} {us us2 us3:List Nat} {v1 v2:List zF} {r1 r2:Rt} (h:COut U U2 U' B hp hp' n m w' us us2 v1 r1) (k:COut U2 U3 U' B (r1.hp++hp) hp' r1.n m w' us2 us3 v2 r2) :
  COut U U3 U' B hp hp' n m w' us us3 (v1++v2) ⟨r1.cs++r2.cs,r2.hp++r1.hp,r2.n⟩:=by
 refine⟨h.agree.trans k.agree h.le,by rw[qJ];exact k.heap,qx h.le k.le,?_,?_,?_,?_,?_,fun u hu=>k.sub u (h.sub u hu)⟩
 ·simp only[xb,k.val]
  congr 1
  rw[<-h.val];exact z8 fun c hc=>C.val_agree k.agree (h.lt c hc)
 ·intro c hc;rcases qq.1 hc with hc|hc
  ·exact C.lt_mono k.le (h.lt c hc)
  ·exact k.lt c hc
 ·intro q o b hf hb;have hf:find (r2.hp++r1.hp++hp) q=some o:=hf;rw[qJ]at hf;exact k.ap q o b hf hb
 ·intro q o b hf hb;have hf:find (r2.hp++r1.hp) q=some o:=hf;rw[jat]at hf;cases hg:find r2.hp q with
  |some o2=>rw[hg]at hf;cases hf;exact k.fresh q o b hg hb
  |none =>
   rw[hg]at hf;have hf:find r1.hp q=some o:=hf
   have hq:q<r1.n:=by
    have:find (r1.hp++hp) q=some o:=by rw[jat,hf];rfl
    exact(h.heap.ok q o this).1
   rw[k.agree q hq]at hb;exact h.fresh q o b hf hb
 ·intro q o hf;have hf:find (r2.hp++r1.hp) q=some o:=hf;rw[jat]at hf;cases hg:find r2.hp q with
  |some o2=>rw[hg]at hf;cases hf;exact qx h.le (k.keys q o hg)
  |none=>rw[hg]at hf;exact h.keys q o hf
def COut.data {n:Nat} {us:List Nat} {c:C} {v:zF} (h:CIn U U' B hp hp' n m n0 am w' us) (hc:C.lt n c) (hv:c.val U=v):COut U U U' B hp hp' n m w' us us [v] ⟨[c],[],n⟩:=by
 refine⟨jae.refl _ _,h.heap,zu _,by simp[hv],?_,h.ap,(fun _ _ _ h=>by cases h),(fun _ _ h=>by cases h),fun u hu=>hu⟩;intro y hy;simp only[zY]at hy;subst hy;exact hc
def COut.obj {Bc:Kd} {n q:Nat} {us:List Nat} {o oq:O} {c:C} {v:zF} (hm:∀k,k<m->Bc.kp k) (hB:∀k,B.all k->Bc.all k) (hF:∀k,Bc.fr k->B.fr k) (hM:Bc.LeM B) (hh':HRel U' Bc hp' nx w') (h:CIn U U' B hp hp' n m n0 am w' us)
  (hq:find hp' q=some oq) (hus:us.contains q=false) (hl:o.lt (n+1)) (ho:(∀k,o.blk (U' q)=some k->¬B.all k)->o.ok (upd U n (U' q)) B w' n) (hb:∀k,o.blk (U' q)=some k->oq.blk (U' q)=some k)
  (hc:C.lt (n+1) c) (hcv:c.val (upd U n (U' q))=v):COut U (upd U n (U' q)) U' B hp hp' n m w' us (q::us) [v] ⟨[c],[(n,o)],n+1⟩:=by
 have hge:∀k,o.blk (U' q)=some k->m<=k:=fun k hk=>by
  have:=(O.blk_lt (hh'.ok q oq hq).2.2 (hb k hk)).2;exact xQ fun hlt=>this (.inl (hm k hlt))
 have hnB:∀k,o.blk (U' q)=some k->¬B.all k:=fun k hk hBk=>(O.blk_lt (hh'.ok q oq hq).2.2 (hb k hk)).2 (hB k hBk);refine⟨jal _ _ _,?_,qt n,by simp[hcv],?_,?_,?_,?_,fun u hu=>zR _ hu⟩
 ·refine h.heap.add1 hl (ho hnB) fun k o' b hk hbk he=>?_;rcases h.ap k o' b hk hbk with hlt|⟨u,hu,ou,hou,hbu⟩
  ·have:=hge b he;omega
  ·have hne:u≠q:=fun e=>by
    subst e;have:us.contains u=true:=by simpa using hu
    rw[this]at hus;cases hus
   exact hh'.apart u ou q oq b hou hq hne hbu (hb b he)
 ·intro y hy;simp only[zY]at hy;subst hy;exact hc
 ·intro k o' b hf hbk;have hf2:find ((n,o)::hp) k=some o':=hf;clear hf;have hf:=hf2;clear hf2;rw[jhH]at hf;split at hf
  ·rename_i e;subst e;cases hf;rw[upd_same]at hbk;exact .inr ⟨q,zV,oq,hq,hb b hbk⟩
  ·have hk:=(h.heap.ok k o' hf).1;rw[jal U n (U' q) k hk]at hbk;rcases h.ap k o' b hf hbk with hlt|⟨u,hu,ou,hou,hbu⟩
   ·exact .inl hlt
   ·exact .inr ⟨u,zR _ hu,ou,hou,hbu⟩
 ·intro k o' b hf hbk;simp only[find]at hf;split at hf
  ·rename_i e;subst e;cases hf;rw[upd_same]at hbk;exact hge b hbk
  ·cases hf
 ·intro k o' hf;simp only[find]at hf;split at hf
  ·rename_i e;omega
  ·cases hf
def COut.nilO {n:Nat} {us:List Nat} {o:O} (hin:CIn U U' B hp hp' n m n0 am w' us) (hl:o.lt (n+1)) (ho:o.ok (upd U n (.slice none 0 0)) B w' n) (hb:o.blk (.slice none 0 0)=none) :
  COut U (upd U n (.slice none 0 0)) U' B hp hp' n m w' us us [.slice none 0 0] ⟨[.o n],[(n,o)],n+1⟩:=by
 refine⟨jal _ _ _,?_,qt n,by simp[C.val],?_,?_,?_,?_,fun u hu=>hu⟩
 ·exact hin.heap.add1 hl ho (fun _ _ _ _ _ he=>by rw[hb]at he;cases he)
 ·intro y hy;simp only[zY]at hy;subst hy;exact zo n
 ·intro k' o' b hf hbk;have hf2:find ((n,o)::hp) k'=some o':=hf;clear hf;have hf:=hf2;clear hf2;rw[jhH]at hf;split at hf
  ·rename_i e;subst e;cases hf;rw[upd_same,hb]at hbk;cases hbk
  ·have hk':=(hin.heap.ok k' o' hf).1;rw[jal U n _ k' hk']at hbk;exact hin.ap k' o' b hf hbk
 ·intro k' o' b hf hbk;simp only[find]at hf;split at hf
  ·rename_i e;subst e;cases hf;rw[upd_same,hb]at hbk;cases hbk
  ·cases hf
 ·intro k' o' hf;simp only[find]at hf;split at hf
  ·omega
  ·cases hf
def jBb (U':Env) (B:Kd) (hp':Hp) (m n0:Nat) (am:List C) (w':zx) (f:RC->C->List Nat->(List Nat->Prop)->Prop) (g:RC->Nat->Rt):Prop :=
 ∀(r:RC) (c:C) (us:List Nat) (k:List Nat->Prop),f r c us k->∀(n:Nat) (hp:Hp) (U:Env),CIn U U' B hp hp' n m n0 am w' us ->
  ∃us2 U2,k us2∧COut U U2 U' B hp hp' n m w' us us2 [c.val U'] (g r n)
def jk7 {f:RC->C->List Nat->(List Nat->Prop)->Prop} {g:RC->Nat->Rt} (hf:jBb U' B hp' m n0 am w' f g):∀(l:List RC) (cs:List C) (us:List Nat) (k:List Nat->Prop),fitL f l cs us k->∀(n:Nat) (hp:Hp) (U:Env),CIn U U' B hp hp' n m n0 am w' us ->
  ∃us2 U2,k us2∧COut U U2 U' B hp hp' n m w' us us2 (cs.map (C.val U')) (rvL g l n)
 |[],[],us,k,h,n,hp,U,hin=>⟨us,U,h,jae.refl _ _,hin.heap,zu _,rfl,(fun _ h=>by cases h),hin.ap,(fun _ _ _ h=>by cases h),(fun _ _ h=>by cases h),fun u hu=>hu⟩
 |r::l,c::cs,us,k,h,n,hp,U,hin=>by
  obtain⟨us2,U2,h2,k2⟩:=hf r c us _ h n hp U hin;obtain⟨us3,U3,h3,k3⟩:=jk7 hf l cs us2 k h2 (g r n).n _ U2 (hin.next k2);exact⟨us3,U3,h3,k2.append k3⟩
 |[],_::_,_,_,h,_,_,_,_=>h.elim
 |_::_,[],_,_,h,_,_,_,_=>h.elim
def jk8 {Bc:Kd} (hm:∀k,k<m->Bc.kp k) (hB:∀k,B.all k->Bc.all k) (hF:∀k,Bc.fr k->B.fr k) (hM:Bc.LeM B) (hh':HRel U' Bc hp' nx w'):∀(q:Nat),jBb U' B hp' m n0 am w' (jsL n0 hp' q) (rvC am q)
 |0=>fun _ _ _ _ h=>h.elim
 |q+1=>by
  intro r c us k h n hp U hin;unfold jsL at h;split at h
  ·rename_i x y;have e:=jmb h.1;subst e;exact⟨us,U,h.2,COut.data hin trivial rfl⟩
  ·rename_i i h0;split at h
   ·rename_i e1 e2;have e1:=zb e1;subst e1;have hi:i<n0:=by simpa [Nat.blt_eq]using e2
    exact⟨us,U,h,COut.data hin (hin.am i hi).1 (hin.am i hi).2⟩
   ·exact h.elim
  ·rename_i ty c0 h0;split at h
   ·exact h.elim
   ·rename_i hus;split at h
    ·rename_i ty' c' hf;split at h
     ·rename_i hty;have hty:=zb hty;subst hty;have hc:=jbS h.1;subst hc;refine⟨_,_,h.2,COut.obj (q:=h0) (o:=.row ty' c0) hm hB hF hM hh' hin hf hus trivial (fun hnB=>?_) (fun k hk=>hk) (show C.lt (n+1) (.o n)from zo n) (by simp[C.val])⟩;have hok:=(hh'.ok h0 _ hf).2.2;exact⟨by rw[upd_same];exact hok.1,fun k hk=>by rw[upd_same]at hk;exact hnB k hk⟩
     ·exact h.elim
    ·exact h.elim
  ·rename_i ty c0;obtain⟨⟨hn0⟩,hk⟩:=h;refine⟨us,upd U n (.slice none 0 0),hk,?_⟩;refine⟨jal _ _ _,?_,qt n,by simp[C.val,D.val,rvC],?_,?_,?_,?_,fun u hu=>hu⟩
   ·refine hin.heap.add1 (o:=.row ty c0) trivial ?_ (fun _ _ _ _ _ he=>by simp[O.blk,zL]at he);refine⟨⟨by simp[Cont.flat_length,hn0],.inl ⟨by rw[upd_same],hn0⟩⟩,fun k hk=>by rw[upd_same]at hk;simp[zL]at hk⟩
   ·intro y hy;simp only[rvC,zY]at hy;subst hy;exact zo n
   ·intro k' o' b hf hbk;have hf2:find ((n,O.row ty c0)::hp) k'=some o':=hf;clear hf;have hf:=hf2;clear hf2;rw[jhH]at hf;split at hf
    ·rename_i e;subst e;cases hf;rw[upd_same]at hbk;simp[O.blk,zL]at hbk
    ·have hk':=(hin.heap.ok k' o' hf).1;rw[jal U n _ k' hk']at hbk;exact hin.ap k' o' b hf hbk
   ·intro k' o' b hf hbk;simp only[rvC,find]at hf;split at hf
    ·rename_i e;subst e;cases hf;rw[upd_same]at hbk;simp[O.blk,zL]at hbk
    ·cases hf
   ·intro k' o' hf;simp only[rvC,find]at hf;split at hf
    ·omega
    ·cases hf
  ·rename_i c0 h0;split at h
   ·exact h.elim
   ·rename_i hus;split at h
    ·rename_i c' hf;have hc:=jbS h.1;subst hc;refine⟨_,_,h.2,COut.obj (q:=h0) (o:=.rrow c0) hm hB hF hM hh' hin hf hus trivial (fun hnB=>?_) (fun k hk=>hk) (show C.lt (n+1) (.o n)from zo n) (by simp[C.val])⟩;have hok:=(hh'.ok h0 _ hf).2.2;exact⟨by rw[upd_same];exact hok.1,fun k hk=>by rw[upd_same]at hk;exact⟨hnB k hk,(hok.2 k hk).2⟩⟩
    ·exact h.elim
  ·rename_i c0;obtain⟨⟨hn0⟩,hk⟩:=h;refine⟨us,upd U n (.slice none 0 0),hk,?_⟩;refine⟨jal _ _ _,?_,qt n,by simp[C.val,D.val,rvC],?_,?_,?_,?_,fun u hu=>hu⟩
   ·refine hin.heap.add1 (o:=.rrow c0) trivial ?_ (fun _ _ _ _ _ he=>by simp[O.blk,zL]at he);refine⟨⟨none,0,by rw[upd_same,hn0],⟨by omega,fun _=>rfl⟩,fun h=>by omega⟩,fun k hk=>by rw[upd_same]at hk;simp[zL]at hk⟩
   ·intro y hy;simp only[rvC,zY]at hy;subst hy;exact zo n
   ·intro k' o' b hf hbk;have hf2:find ((n,O.rrow c0)::hp) k'=some o':=hf;clear hf;have hf:=hf2;clear hf2;rw[jhH]at hf;split at hf
    ·rename_i e;subst e;cases hf;rw[upd_same]at hbk;simp[O.blk,zL]at hbk
    ·have hk':=(hin.heap.ok k' o' hf).1;rw[jal U n _ k' hk']at hbk;exact hin.ap k' o' b hf hbk
   ·intro k' o' b hf hbk;simp only[rvC,find]at hf;split at hf
    ·rename_i e;subst e;cases hf;rw[upd_same]at hbk;simp[O.blk,zL]at hbk
    ·cases hf
   ·intro k' o' hf;simp only[rvC,find]at hf;split at hf
    ·omega
    ·cases hf
  ·rename_i c0 h0;split at h
   ·exact h.elim
   ·rename_i hus;split at h
    ·rename_i c' hf;have hc:=jbS h.1;subst hc;refine⟨_,_,h.2,COut.obj (q:=h0) (o:=.fext c0) hm hB hF hM hh' hin hf hus trivial (fun hnB=>?_) (fun k hk=>by cases hk) (show C.lt (n+1) (.o n)from zo n) (by simp[C.val])⟩;have hok:=(hh'.ok h0 _ hf).2.2;exact⟨by rw[upd_same];exact hok.1,by rw[upd_same];exact jaS hF hok.2⟩
    ·exact h.elim
  ·rename_i c0;obtain⟨⟨hn0⟩,hk⟩:=h;exact⟨us,upd U n (.slice none 0 0),hk,COut.nilO hin trivial ⟨⟨none,0,by rw[upd_same,hn0],⟨by omega,fun _=>rfl⟩,fun h=>by omega⟩,fun a n' cap hv _=>by rw[upd_same]at hv;cases hv⟩ rfl⟩
  ·rename_i ty X h0;split at h
   ·exact h.elim
   ·rename_i hus;split at h
    ·rename_i ty' X' hf;split at h
     ·rename_i hty;have hty:=zb hty;subst hty;have hc:=je1 h.1;subst hc;refine⟨_,_,h.2,COut.obj (q:=h0) (o:=.xrow ty' X) hm hB hF hM hh' hin hf hus trivial (fun hnB=>?_) (fun k hk=>hk) (show C.lt (n+1) (.o n)from zo n) (by simp[C.val])⟩;obtain⟨us1,q1,q2,q3⟩:=(hh'.ok h0 _ hf).2.2;exact⟨us1,by rw[upd_same];exact q1,fun i j hi hj=>let ⟨u,hu,hux⟩:=q2 i j hi hj; ⟨u,hu,NC.at_mono hF hux⟩,fun k hk=>by rw[upd_same]at hk;exact hnB k hk⟩
     ·exact h.elim
    ·exact h.elim
  ·rename_i ty X;obtain⟨⟨hn0⟩,hk⟩:=h;exact⟨us,upd U n (.slice none 0 0),hk,COut.nilO hin trivial ⟨[],by rw[upd_same,hn0];exact xt w' 0 ty X.e,(fun i j hi=>by omega),fun k hk=>by rw[upd_same]at hk;cases hk⟩ rfl⟩
  ·rename_i ty ts X h0;split at h
   ·exact h.elim
   ·rename_i hus;split at h
    ·rename_i ty' ts' X' hf;split at h
     ·rename_i hty hts;have hty:=zb hty;subst hty;have hts:=of_decide_eq_true hts;subst hts;have hc:=je1 h.1;subst hc;refine⟨_,_,h.2,COut.obj (q:=h0) (o:=.mrow ty' ts' X none) hm hB hF hM hh' hin hf hus trivial (fun hnB=>?_) (fun k hk=>hk) (show C.lt (n+1) (.o n)from zo n) (by simp[C.val])⟩;obtain⟨us1,q1,q2,q3,q4⟩:=(hh'.ok h0 _ hf).2.2;exact⟨us1,by rw[upd_same];exact q1,fun i j hi hj hn=>let ⟨u,hu,hux⟩:=q2 i j hi hj hn; ⟨u,hu,by rw[upd_same];exact NC.own_mono hM hux⟩,q3,fun k hk=>by rw[upd_same]at hk;exact hnB k hk⟩
     ·exact h.elim
    ·exact h.elim
  ·rename_i ty ts X;obtain⟨⟨hn0⟩,hk⟩:=h;exact⟨us,upd U n (.slice none 0 0),hk,COut.nilO hin trivial ⟨[],by rw[upd_same,hn0];exact xt w' 0 ty X.e,(fun i j hi=>by omega),(fun i j i' j' u v k hi=>by omega),fun k hk=>by rw[upd_same]at hk;cases hk⟩ rfl⟩
  ·rename_i ty l h0 e0;split at h
   ·rename_i ty' cs hf;split at h
    ·rename_i hty;have hty:=zb hty;subst hty;obtain⟨us2,U2,h2,k2⟩:=jk7 (jk8 hm hB hF hM hh' q) l cs us _ h n hp U hin;have hin2:=hin.next k2;split at h2
     ·exact h2.elim
     ·rename_i hus;have hok:=(hh'.ok h0 _ hf).2.2;obtain⟨g,h3,h4,h5⟩:=hok
      have hobj:=COut.obj (q:=h0) (o:=.box ty' (rvL (rvC am q) l n).cs) (c:=.p (rvL (rvC am q) l n).n 0 1 0) (v:=U' h0) hm hB hF hM hh' hin2 hf hus (fun y hy=>C.lt_mono (qt _) (k2.lt y hy)) (fun hnB=>?_) (fun k hk=>hk)
       (show C.lt ((rvL (rvC am q) l n).n+1) (.p (rvL (rvC am q) l n).n 0 1 0)from zo _) (by simp[C.val,h3,base])
      ·refine⟨h0::us2,upd U2 (rvL (rvC am q) l n).n (U' h0),h2,?_⟩;have hap:=k2.append hobj;refine⟨hap.agree,hap.heap,hap.le,?_,?_,hap.ap,hap.fresh,hap.keys,hap.sub⟩
       ·have hv:=hobj.val;simp only[zM,qR]at hv;simp only[rvC,zM,qR];rw[hv];simp[C.val,h3,base]
       ·intro y hy;simp only[rvC,zY]at hy;subst hy;exact zo _
      ·refine⟨g,by rw[upd_same];exact h3,?_,?_⟩
       ·exact hnB g (by simp[O.blk,h3,base])
       ·rw[h5]
        congr 3
        have hv:=k2.val;rw[<-hv];exact z8 fun y hy=>(C.val_agree (jal U2 _ _) (k2.lt y hy)).symm
    ·exact h.elim
   ·exact h.elim
  ·exact h.elim
structure WOut (U U2 U':Env) (B:Kd) (hp hp':Hp) (n m:Nat) (w':zx) (us us2:List Nat) (vals:List zF) (r:Rw):Prop where
 agree:jae n U U2
 heap:HRel U2 B (r.hp++hp) r.n w'
 le:n<=r.n
 val:r.ws.map (W.val U2)=vals
 lt:∀c∈r.ws,W.lt r.n c
 ap:∀k o b,find (r.hp++hp) k=some o->o.blk (U2 k)=some b->b<m∨∃u∈us2,∃ou,find hp' u=some ou∧ou.blk (U' u)=some b
 fresh:∀h o b,find r.hp h=some o->o.blk (U2 h)=some b->m<=b
 keys:∀h o,find r.hp h=some o->n<=h
def jyn {Bc:Kd} (hm:∀k,k<m->Bc.kp k) (hB:∀k,B.all k->Bc.all k) (hF:∀k,Bc.fr k->B.fr k) (hM:Bc.LeM B) (hh':HRel U' Bc hp' nx w') {r:RR} {x:W} {us:List Nat} {k:List Nat->Prop} (h:fitR n0 hp' r x us k) {n:Nat} {hp:Hp} {U:Env} (hin:CIn U U' B hp hp' n m n0 am w' us) :
  ∃us2 U2,k us2∧WOut U U2 U' B hp hp' n m w' us us2 [x.val U'] (rvR am r n):=by
 unfold fitR at h;split at h
 ·rename_i rc c;obtain⟨us2,U2,h2,k2⟩:=jk8 hm hB hF hM hh' 8 rc c us k h n hp U hin;have hlen:(rvC am 8 rc n).cs.length=1:=by have:=congrArg zg k2.val;simpa using this
  obtain⟨c',hc'⟩:∃c',(rvC am 8 rc n).cs=[c']:=by
   match hb:(rvC am 8 rc n).cs,hlen with
   |[c'],_=>exact⟨c',rfl⟩
  have hval:=k2.val;have hlt:=k2.lt;rw[hc']at hval hlt;refine⟨us2,U2,h2,k2.agree,k2.heap,k2.le,?_,?_,k2.ap,k2.fresh,k2.keys⟩
  ·simp only[rvR,hc',jgt,zM,qR,W.val];simpa using hval
  ·intro y hy;simp only[rvR,zY]at hy;subst hy;rw[hc'];exact hlt c' zV
 ·rename_i l cs;obtain⟨us2,U2,h2,k2⟩:=jk7 (jk8 hm hB hF hM hh' 8) l cs us k h n hp U hin;refine⟨us2,U2,h2,k2.agree,k2.heap,k2.le,?_,?_,k2.ap,k2.fresh,k2.keys⟩
  ·simp only[rvR,zM,qR,W.val,k2.val]
  ·intro y hy;simp only[rvR,zY]at hy;subst hy;exact k2.lt
 ·rename_i q e r' q' e' r'';split at h
  ·rename_i hk he;have hk:=jbz hk;have he:=zb he;subst hk;subst he;obtain⟨⟨rfl⟩,hk⟩:=h;refine⟨us,U,hk,jae.refl _ _,hin.heap,zu _,rfl,?_,hin.ap,(fun _ _ _ h=>by cases h),fun _ _ h=>by cases h⟩;intro y hy;simp only[rvR,zY]at hy;subst hy;trivial
  ·exact h.elim
 ·exact h.elim
def jjF {Bc:Kd} (hm:∀k,k<m->Bc.kp k) (hB:∀k,B.all k->Bc.all k) (hF:∀k,Bc.fr k->B.fr k) (hM:Bc.LeM B) (hh':HRel U' Bc hp' nx w'):∀(l:List RR) (ws:List W) (us:List Nat),jme n0 hp' l ws us->∀(n:Nat) (hp:Hp) (U:Env),CIn U U' B hp hp' n m n0 am w' us ->
  ∃us2 U2,WOut U U2 U' B hp hp' n m w' us us2 (ws.map (W.val U')) (jcn am l n)
 |[],[],us,h,n,hp,U,hin=>⟨us,U,jae.refl _ _,hin.heap,zu _,rfl,(fun _ h=>by cases h),hin.ap,(fun _ _ _ h=>by cases h),fun _ _ h=>by cases h⟩
 |r::l,x::ws,us,h,n,hp,U,hin=>by
  obtain⟨us2,U2,h2,k2⟩:=jyn hm hB hF hM hh' h hin;have hin2:CIn U2 U' B ((rvR am r n).hp++hp) hp' (rvR am r n).n m n0 am w' us2:=⟨k2.heap,k2.ap,fun i hi=>⟨C.lt_mono k2.le (hin.am i hi).1,by rw[C.val_agree k2.agree (hin.am i hi).1];exact(hin.am i hi).2⟩⟩
  obtain⟨us3,U3,k3⟩:=jjF hm hB hF hM hh' l ws us2 h2 (rvR am r n).n _ U2 hin2;refine⟨us3,U3,k2.agree.trans k3.agree k2.le,by simp only[jcn];rw[qJ];exact k3.heap,qx k2.le k3.le,?_,?_,?_,?_,?_⟩
  ·simp only[jcn,xb,k3.val,zM]
   have:(rvR am r n).ws.map (W.val U3)=[x.val U']:=by
    rw[<-k2.val];exact z8 fun c hc=>W.val_agree k3.agree (k2.lt c hc)
   rw[this];rfl
  ·intro c hc;simp only[jcn]at hc;rcases qq.1 hc with hc|hc
   ·exact W.lt_mono k3.le (k2.lt c hc)
   ·exact k3.lt c hc
  ·intro q o b hf hb;simp only[jcn]at hf;rw[qJ]at hf;exact k3.ap q o b hf hb
  ·intro q o b hf hb;simp only[jcn]at hf;rw[jat]at hf;cases hg:find (jcn am l (rvR am r n).n).hp q with
   |some o2=>rw[hg]at hf;cases hf;exact k3.fresh q o b hg hb
   |none =>
    rw[hg]at hf;have hf:find (rvR am r n).hp q=some o:=hf
    have hq:q<(rvR am r n).n:=by
     have:find ((rvR am r n).hp++hp) q=some o:=by rw[jat,hf];rfl
     exact(k2.heap.ok q o this).1
    rw[k3.agree q hq]at hb;exact k2.fresh q o b hf hb
  ·intro q o hf;simp only[jcn]at hf;rw[jat]at hf;cases hg:find (jcn am l (rvR am r n).n).hp q with
   |some o2=>rw[hg]at hf;cases hf;exact qx k2.le (k3.keys q o hg)
   |none=>rw[hg]at hf;exact k2.keys q o hf
 |[],_::_,_,h,_,_,_,_=>h.elim
 |_::_,[],_,h,_,_,_,_=>h.elim
def jbH {am:List C} {hp:Hp} {nx:Nat}:∀t:GT,(t.toRT am hp nx).sel=⟨t.sel.1,ja0 (jcn am t.sel.2 nx).ws,(jcn am t.sel.2 nx).hp++hp,(jcn am t.sel.2 nx).n⟩
 | .leaf ob rs=>rfl
 | .br b x y=>by
  cases b
  ·exact jbH y
  ·exact jbH x
def jk9 {f:Nat} {fn:jQ} {body:yb} {shs:List SV} {g:List Lf->Option GT} (hf:P.funcs[f]?=some fn) (hb:fn.body=some body) (hn:(fn.name == "runtime.NumGoroutine")=false)
  (h:∀ls t,g ls=some t->t.sel.1->∀b:Bv,jeF shs 0 ls=some b->∀(U0:Env) (w:zx),(∀x∈b.vs,V.lt b.n x)->HRel U0 (kd fun k=>k<w.heap.size) b.hp b.n w ->
   Calls P f (b.vs.map (V.val U0)).toArray w fun e w'=>∃U' v hp' nx',e=.returned (v.val U')∧v.lt nx'∧jae b.n U0 U'∧(∃B',Grow (kd fun k=>k<w.heap.size) B' false w' w'∧HRel U' B' hp' nx' w')∧Bel (kd fun k=>k<w.heap.size) w w'∧Old (kd fun k=>k<w.heap.size) w'∧jf1 b.n t.sel.2 v hp') :
  jaf P f true (jai shs g):=by
 refine .inl ⟨jcD hf hb hn,fun U B w args hp nx t hS hob hlt hh hB=>?_⟩;unfold jai at hS;split at hS
 ·rename_i ls am hto;split at hS
  ·rename_i t' hg;cases hS;rw[jbH]at hob ⊢;have hob:t'.sel.1:=hob;obtain⟨b,U0,hbl,q⟩:=jhG hh hB shs args ls am hto hlt 0 (fun _=>qe) [];rw[List.append_nil]at hbl;have hbn:b.n=am.length:=by have:=q.nn;omega
   have hh0:HRel U0 (kd fun k=>k<w.heap.size) b.hp b.n w:=by
    refine⟨fun x o hf=>?_,fun x o x' o' k hf hf' _ hb=>?_,jjC hh.glob hB⟩
    ·obtain⟨_,a2,a3,a4,_⟩:=q.heap x o hf;exact⟨a2,a3,a4⟩
    ·obtain⟨_,_,_,_,a5⟩:=q.heap x o hf;rw[a5]at hb;cases hb
   have hcalls:=h ls t' hg hob b hbl U0 w q.lt hh0;rw[q.val]at hcalls;refine hcalls.mono ?_;rintro e w' ⟨U',v,hp',nx',rfl,hvlt,hag,⟨Bc,gB,hh'⟩,hbel,hold,hfit⟩;have hbw:xA w.heap.size w w':=hbel.below;have hBc:Old Bc w':=gB.old hold
   have hfr:∀k,Bc.fr k->w.heap.size<=k:=fun k hk=>by
    rcases gB.out k hk with h1|h1
    ·exact h1.elim
    ·exact xQ h1
   have hmu:∀k,Bc.mu k≠none->w.heap.size<=k:=fun k hk=>xQ fun hlt=>hk (Bc.dis k (gB.le.kp k hlt))
   let Bn:Kd:=⟨fun k=>B.kp k∨Bc.fr k,fun k=>B.fr k∨Bc.fr k,fun k=>match B.mu k with|some g=>some g|none=>Bc.mu k,fun k hk=>hk.imp (B.sub k) id,fun k hk=>by
    have h1:B.mu k=none:=by
     rcases hk with hk|hk
     ·exact B.dis k hk
     ·have h2:=hfr k hk;cases hm2:B.mu k with
      |none=>rfl
      |some g=>exact absurd (hB k (.inr (by rw[hm2];simp))) (yc h2)
    have h2:Bc.mu k=none:=by
     rcases hk with hk|hk
     ·exact Bc.dis k (gB.le.kp k (hB k (.inl hk)))
     ·exact Bc.dis k (Bc.sub k hk)
    show(match B.mu k with|some g=>some g|none=>Bc.mu k)=none
    rw[h1,h2]⟩
   have hmn:∀k,Bn.mu k=match B.mu k with|some g=>some g|none=>Bc.mu k:=fun _=>rfl
   have hBn:B.Le Bn:=⟨fun k hk=>.inl hk,fun k hk=>.inl hk⟩
   have hBm:B.LeM Bn:=fun k g hk=>by rw[hmn,hk]
   have hna:∀k,Bn.all k->B.all k∨(w.heap.size<=k∧Bc.all k):=fun k hk=>by
    rcases hk with (hk|hk)|hk
    ·exact .inl (.inl hk)
    ·exact .inr ⟨hfr k hk,.inl (Bc.sub k hk)⟩
    ·rw[hmn]at hk;cases hm2:B.mu k with
     |none=>rw[hm2]at hk;exact .inr ⟨hmu k hk,.inr hk⟩
     |some g=>exact .inl (.inr (by rw[hm2];simp))
   have gn:Grow B Bn true w w':=⟨hBn,fun k hk=>(hna k hk).imp id fun h=>hBc k h.2,fun k hk=>hk.imp id fun h hb=>absurd (hB k (.inl hb)) (yc (hfr k h)),fun _=>⟨fun k hk=>(hna k hk).imp id fun h=>h.1,hBm⟩⟩
   have hh1:HRel U Bn hp nx w':=(hh.below hbw hB).moreB hBn hBm fun h o k hf hk hb=>by
    have h1:=O.blk_lt (hh.ok h o hf).2.2 hk;rcases hna k hb with hb|hb
    ·exact h1.2 hb
    ·exact absurd h1.1 (yc hb.1)
   obtain⟨ws,hws,hfw⟩:∃ws,(ja0 ws).val U'=v.val U'∧jme b.n hp' t'.sel.2 ws []:=by
    match v,hfit with
    | .w u,hfit=>exact⟨[u],rfl,hfit⟩
    | .t [],hfit=>exact⟨[],rfl,hfit⟩
    | .t (x::y::l),hfit=>exact⟨x::y::l,rfl,hfit⟩
   have hin:CIn U U' Bn hp hp' nx w.heap.size b.n am w' []:=by
    refine⟨hh1,fun k o b hk hbk=>.inl (O.blk_lt (hh.ok k o hk).2.2 hbk).1,fun i hi=>?_⟩;have hi2:i<am.length:=by omega
    have h1:=q.own i hi2;rw[zP]at h1;refine⟨?_,by rw[hag i hi];exact h1.symm⟩;have:am.getD i (.d (.v qe))=am[i]:=by simp[za,hi2]
    rw[this];exact q.xlt _ (xC hi2)
   obtain⟨us2,U2,k⟩:=jjF (B:=Bn) (m:=w.heap.size) (fun k hk=>gB.le.kp k hk) (fun k hk=>(hna k hk).elim (fun h=>.inl (gB.le.kp k (hB k h))) (fun h=>h.2)) (fun k hk=>.inr hk) (fun k g hk=>by
    rw[hmn];cases hm2:B.mu k with
    |none=>exact hk
    |some g'=>exact absurd (hB k (.inr (by rw[hm2];simp))) (yc (hmu k (by rw[hk];simp)))) hh' t'.sel.2 ws [] hfw nx hp U hin
   refine⟨U2,?_,k.agree,je2 k.lt,k.le,⟨Bn,gn,k.heap⟩,jbV hbw hB,fun _=>hbw,fun _ h o b hle hf hbk=>?_⟩
   ·show xO _=xO ((ja0 (jcn am t'.sel.2 nx).ws).val U2)
    rw[<-hws,jcR,jcR];simp only[k.val]
   ·have hf:find ((jcn am t'.sel.2 nx).hp++hp) h=some o:=hf;rw[jat]at hf;cases hg2:find (jcn am t'.sel.2 nx).hp h with
    |some o2=>rw[hg2]at hf;cases hf;exact k.fresh h o b hg2 hbk
    |none =>
     rw[hg2]at hf;have:=(hh.ok h o hf).1;omega
  ·cases hS
 ·cases hS
def jaC {f:Nat} {fn:jQ} {body:yb} {shs:List SV} {g:List Lf->Option GT} (hm:P.follows .mixedOrders=true) (hsp:jac P sp) (hf:P.funcs[f]?=some fn) (hb:fn.body=some body) (hn:(fn.name == "runtime.NumGoroutine")=false)
  (h:∀ls t,g ls=some t->t.sel.1->∀b:Bv,jeF shs 0 ls=some b->b.vs.length<=fn.ntmps∧∃fuel loops,sx P sp fn.ntmps b.n fuel loops (jca P sp fn.ntmps) body 0 [] ⟨jbO 0 b.vs,b.hp,b.n⟩ (jcm P fn.results.toList fun v hp _=>jf1 b.n t.sel.2 v hp)) :
  jaf P f true (jai shs g) :=
 jk9 hf hb hn fun ls t hg ho b hbl U0 w hlt hh=>by
  obtain⟨hlen,fuel,loops,hx⟩:=h ls t hg ho b hbl;exact jsA (n0:=b.n) (B:=kd fun k=>k<w.heap.size) hsp (fun U w=>jbG hm hsp) hf hb hlen hx hlt (zu _) U0 w hh (fun k hk=>jbe.1 hk)
end
end Go.Sx
end

section
open Go.RowKit
namespace Go.Sx
end Go.Sx
end

section
namespace Go.Sx
def jag {X Y:Type} (body:X->Option (X ⊕ Y)):Nat->X->Option Y
 |0,_=>none
 |n+1,x=>match body x with
  |none=>none
  |some (.inl x')=>jag body n x'
  |some (.inr y)=>some y
def big:Nat:=18446744073709551616
def jwx {X Y R:Type} (body:X->Option (X ⊕ Y)) (n:Nat) (K:Y->Option R):X ⊕ Y->Option R
 | .inl x=>(jag body n x).bind K
 | .inr y=>K y
def ok {α:Type} (o:Option α):Prop:=o.isSome=true
instance {α : Type} (o : Option α) : Decidable (ok o) := inferInstanceAs (Decidable (o.isSome = true))
def val {α:Type} [Inhabited α] (o:Option α):α:=o.getD default
def jar {α:Type} [Inhabited α] {o:Option α} (h:ok o):o.bind some=some (val o):=by
 cases o with
 |none=>cases h
 |some x=>rfl
def jgu {α:Type} {o:Option α} {x:α} (h:o=some x):ok o:=by subst h;rfl
def joL {α:Type} [Inhabited α] {o:Option α} {x:α} (h:o=some x):val o=x:=by subst h;rfl
variable {X Y R S A:Type} {g:S->Option R} {r:R} {p q:Prop}
def br_d {c:Prop} [Decidable c] {x y:Option S} (h:(if c then x else y).bind g=some r) (hx:x.bind g=some r->p) (hy:y.bind g=some r->q):Br (decide c) p q:=by
 by_cases hc:c
 ·rw[if_pos hc]at h;rw[decide_eq_true hc];exact hx h
 ·rw[if_neg hc]at h;rw[decide_eq_false hc];exact hy h
def br_b {b:Bool} {x y:Option S} (h:(if b=true then x else y).bind g=some r) (hx:x.bind g=some r->p) (hy:y.bind g=some r->q):Br b p q:=by
 cases b
 ·exact hy h
 ·exact hx h
def ob_s {c:Prop} [Decidable c] {x:Option S} (h:(if c then x else none).bind g=some r) (hx:x.bind g=some r->p):Ob c∧p:=by
 by_cases hc:c
 ·rw[if_pos hc]at h;exact⟨⟨hc⟩,hx h⟩
 ·rw[if_neg hc]at h;cases h
def jB8 [Inhabited A] {e:Option A} {f:A->Option S} (h:(e.bind f).bind g=some r) (hx:(f (val e)).bind g=some r->p):Ob (ok e)∧p:=by
 cases e with
 |none=>cases h
 |some a=>exact⟨⟨rfl⟩,hx h⟩
def jB9 {body:X->Option (X ⊕ Y)} {n:Nat} {x:X} {rest:Y->Option S} (h:((jag body n x).bind rest).bind g=some r):(jag body n x).bind (fun y=>(rest y).bind g)=some r:=by
 rw[<-h];cases jag body n x<;>rfl
def jzV {body:X->Option (X ⊕ Y)} {n:Nat} {x:X} {K:Y->Option R} (h:(jag body n x).bind K=some r):∃m,n=m+1∧(body x).bind (jwx body m K)=some r:=by
 cases n with
 |zero=>cases h
 |succ m =>
  refine⟨m,rfl,?_⟩;rw[<-h];unfold jag;cases body x with
  |none=>rfl
  |some z=>cases z<;>rfl
def jyo {body:X->Option (X ⊕ Y)} {n:Nat} {x:X} {K:Y->Option R} (h:(some (Sum.inl x)).bind (jwx body n K)=some r):(jag body n x).bind K=some r:=h
def jBc {n m:Nat} (h:n+1=m):n<m:=by omega
end Go.Sx
end

section
namespace Go.Sx
def jaF {x:Int} (h:-9223372036854775808<=x∧x<=9223372036854775807):xF.wrap x=x:=fa _ (by omega)
def jsM {X Y:Type} {body:X->Option (X ⊕ Y)} (f:Nat->X) {y:Y}:∀(k:Nat) (s:Nat) (N:Nat),(∀i,s<=i->i<s+k->body (f i)=some (.inl (f (i+1))))->body (f (s+k))=some (.inr y)->k<N->jag body N (f s)=some y
 |0,s,0,_,_,h=>absurd h (by omega)
 |0,s,N+1,_,hy,_=>by
  unfold jag;rw[Nat.add_zero]at hy;rw[hy]
 |k+1,s,0,_,_,h=>absurd h (by omega)
 |k+1,s,N+1,h,hy,hN=>by
  unfold jag;rw[h s (zu _) (by omega)];exact jsM f k (s+1) N (fun i h1 h2=>h i (by omega) (by omega)) (by rw[show s+1+k=s+(k+1) by omega];exact hy) (by omega)
def jcO {X Y:Type} {body:X->Option (X ⊕ Y)} (f:Nat->X) {y:Y} {k:Nat} (h:∀i,i<k->body (f i)=some (.inl (f (i+1)))) (hy:body (f k)=some (.inr y)) (hk:k<18446744073709551616):jag body big (f 0)=some y :=
 jsM f k 0 big (fun i _ h2=>h i (by omega)) (by rw[zP];exact hy) hk
def jbU {α Y:Type} (l:List α) (d:α) (P:α->Bool) {body:Int->Option (Int ⊕ Y)} (hit:Nat->Y) (miss:Y) (hlen:l.length<9223372036854775807)
  (h1:∀i,i<l.length->P (l.getD i d)=true->body (i:Int)=some (.inr (hit i)))
  (h2:∀i,i<l.length->P (l.getD i d)=false->body (i:Int)=some (.inl ((i:Int)+1))) (h3:body (l.length:Int)=some (.inr miss)) :
  jag body big 0=some (match l.findIdx? P with|some i=>hit i|none=>miss):=by
 cases hf:l.findIdx? P with
 |none =>
  rw[xR]at hf;refine jcO (fun i=>(i:Int)) (k:=l.length) (fun i hi=>?_) h3 (by omega);have:=h2 i hi (by simpa [za,hi]using hf l[i] (xC _));rw[this];rfl
 |some k =>
  rw[qW]at hf;obtain⟨hk,hp,hbef⟩:=hf;refine jcO (fun i=>(i:Int)) (k:=k) (fun i hi=>?_) (h1 k hk (by simpa [za,hk]using hp)) (by omega);have hil:i<l.length:=by omega
  have:=h2 i hil (by simpa [za,hil]using hbef i hi);rw[this];rfl
def inI (n:Int):Prop:=-9223372036854775808<=n∧n<=9223372036854775807
def jad {α β:Type} (x:α) (f:α->Option β):(some x).bind f=f x:=rfl
def jcU {α Y:Type} (l:List α) (d:α) (P:α->Bool) {body:Int->Option (Int ⊕ Y)} (hit miss:Y) (hlen:l.length<9223372036854775807)
  (h1:∀i,i<l.length->P (l.getD i d)=true->body (i:Int)=some (.inr hit))
  (h2:∀i,i<l.length->P (l.getD i d)=false->body (i:Int)=some (.inl ((i:Int)+1))) (h3:body (l.length:Int)=some (.inr miss)) :
  jag body big 0=some (if l.any P=true then hit else miss):=by
 rw[jbU l d P (fun _=>hit) miss hlen h1 h2 h3];cases hf:l.findIdx? P with
 |none =>
  have:l.any P=false:=by
   rw[xR]at hf;rw[xL];intro x hx;simp[hf x hx]
  rw[this];rfl
 |some i =>
  have:l.any P=true:=by
   rw[qW]at hf;obtain⟨h,hp,_⟩:=hf;exact yd.2 ⟨_,xC h,hp⟩
  rw[this];rfl
def jdD {Y:Type} (n:Nat) (P:Nat->Bool) {body:Int->Option (Int ⊕ Y)} (hit miss:Y) (hlen:n<9223372036854775807)
  (h1:∀i,i<n->P i=true->body (i:Int)=some (.inr hit))
  (h2:∀i,i<n->P i=false->body (i:Int)=some (.inl ((i:Int)+1))) (h3:body (n:Int)=some (.inr miss)) :
  jag body big 0=some (if(zG n).any P=true then hit else miss):=by
 refine jcU (zG n) 0 P hit miss (by simpa using hlen) (fun i hi hp=>?_) (fun i hi hp=>?_) (by simpa using h3)
 ·have hi:i<n:=by simpa using hi
  have e:(zG n).getD i 0=i:=by simp[za,hi]
  rw[e]at hp;exact h1 i hi hp
 ·have hi:i<n:=by simpa using hi
  have e:(zG n).getD i 0=i:=by simp[za,hi]
  rw[e]at hp;exact h2 i hi hp
end Go.Sx
end

section
namespace Go.Sx
class TC (R:Type) where
 c:R->R->Prop
 refl:∀a,c a a
instance (priority := low) instTC {α : Type} : TC α := ⟨fun a r => Ob (a = r) ∧ True, fun _ => ⟨⟨rfl⟩, trivial⟩⟩
instance instTCProd {α β : Type} [i : TC β] : TC (α × β) := ⟨fun a r => Ob (a.1 = r.1) ∧ i.c a.2 r.2, fun a => ⟨⟨rfl⟩, i.refl a.2⟩⟩
inductive T (R:Type):Type 1 where
 |brP (c:Prop) [d:Decidable c] (x y:T R)
 |brB (b:Bool) (x y:T R)
 |obP (c:Prop) [d:Decidable c] (x:T R)
 |obT (x:T R)
 |obC (c:Prop) (h:c) (x:T R)
 |call {A:Type} [i:Inhabited A] (e:Option A) (x:A->T R)
 |ret (a:R) (P:R->Prop) (h:P a)
 |rc [i:TC R] (a:R)
 |bad (Q:R->Prop)
def T.run {R:Type}:T R->Option R
 | @T.brP _ c d x y=>@ite _ c d x.run y.run
 | .brB b x y=>if b=true then x.run else y.run
 | @T.obP _ c d x=>@ite _ c d x.run none
 | .obT x=>x.run
 | .obC _ _ x=>x.run
 | @T.call _ _ _ e x=>ze e fun a=>(x a).run
 | .ret a _ _=>some a
 | @T.rc _ _ a=>some a
 | .bad _=>none
def T.cond {R:Type}:T R->R->Prop
 | @T.brP _ c d x y,r=>Br (@decide c d) (x.cond r) (y.cond r)
 | .brB b x y,r=>Br b (x.cond r) (y.cond r)
 | @T.obP _ c _ x,r=>Ob c∧x.cond r
 | .obT x,r=>Ob True∧x.cond r
 | .obC c _ x,r=>Ob c∧x.cond r
 | @T.call _ _ i e x,r=>Ob (ok e)∧(x (@val _ i e)).cond r
 | .ret _ P _,r=>P r
 | @T.rc _ i a,r=>i.c a r
 | .bad Q,r=>Q r
def T.sound {R:Type}:∀(t:T R) {r:R},t.run=some r->t.cond r
 | @T.brP _ c d x y,r,h=>by
  simp only[T.run]at h;simp only[T.cond]
  by_cases hc:c
  ·rw[if_pos hc]at h;rw[decide_eq_true hc];exact T.sound x h
  ·rw[if_neg hc]at h;rw[decide_eq_false hc];exact T.sound y h
 | .brB b x y,r,h=>by
  simp only[T.run]at h;simp only[T.cond];cases b
  ·exact T.sound y h
  ·exact T.sound x h
 | @T.obP _ c d x,r,h=>by
  simp only[T.run]at h
  by_cases hc:c
  ·rw[if_pos hc]at h;exact⟨⟨hc⟩,T.sound x h⟩
  ·rw[if_neg hc]at h;cases h
 | .obT x,r,h=>⟨⟨trivial⟩,T.sound x h⟩
 | .obC c hc x,r,h=>⟨⟨hc⟩,T.sound x h⟩
 | @T.call _ _ i e x,r,h=>by
  simp only[T.run]at h;cases e with
  |none=>cases h
  |some a=>exact⟨⟨rfl⟩,T.sound (x a) h⟩
 | .ret a P hP,r,h=>by
  cases h;exact hP
 | @T.rc _ i a,r,h=>by
  cases h;exact i.refl a
 | .bad _,r,h=>by cases h
def T.vc {R:Type} {t:T R} {m:Option R} {r:R} {p:Prop} (hm:t.run=m) (hp:t.cond r=p) (h:ze m some=some r):p:=by
 have h1:m=some r:=by cases m with
  |none=>cases h
  |some a=>exact h
 rw[<-hp];exact T.sound t (hm.trans h1)
def rcs {R:Type} [i:TC R] {a r:R} (h:ze (some a) some=some r):i.c a r:=by
 obtain rfl:=xT h;exact i.refl a
end Go.Sx
end

section
namespace Go.Sx
variable {X Y A R B Z:Type}
structure Cx (A R:Type) where
 G:Nat->Prop
 κ:Nat->A->Option R
 r:R
structure Sk (C:Cx A R) (e:Option A) where
 c:Prop
 ok:∀k,C.G k->e.bind (C.κ k)=some C.r->c
def top (r:R):Cx R R:=⟨fun _=>True,fun _=>some,r⟩
inductive Cl (Z:Type):Type 1 where
 |c {A:Type} (f:Z->A)
 |p (P:Z->Prop)
def je6:List (Cl Z)->Z->Z->Prop
 |[],_,_=>True
 | .c f::l,v,w=>Ob (f v=f w)∧je6 l v w
 | .p P::l,v,w=>Ob (P w)∧je6 l v w
def okQ:List (Cl Z)->Z->Prop
 |[],_=>True
 | .c _::l,v=>okQ l v
 | .p P::l,v=>P v∧okQ l v
def jhI:∀(l:List (Cl Z)) (v:Z),okQ l v->je6 l v v
 |[],_,_=>trivial
 | .c _::l,v,h=>⟨⟨rfl⟩,jhI l v h⟩
 | .p _::l,v,h=>⟨⟨h.1⟩,jhI l v h.2⟩
structure Lp (Z X Y A R:Type) where
 x:Z->X
 n:Z->Nat
 nx:Z->X->Nat->Z
 b:Z->X->Option (X ⊕ Y)
 U:Z->Y->Option A
 C:Z->Cx A R
 k:Z->Nat
 Q:List (Cl Z)
def Lp.K (L:Lp Z X Y A R) (z:Z):Y->Option R:=fun y=>(L.U z y).bind ((L.C z).κ (L.k z))
def Lp.inv (L:Lp Z X Y A R) (z:Z):Prop:=(L.C z).G (L.k z)∧(jag (L.b z) (L.n z) (L.x z)).bind (L.K z)=some (L.C z).r
def Lp.cx (L:Lp Z X Y A R) (z:Z):Cx (X ⊕ Y) R:=⟨fun k=>k+1=L.n z∧(L.C z).G (L.k z),fun k=>jwx (L.b z) k (L.K z),(L.C z).r⟩
variable {C:Cx A R}
def Sk.br {c:Prop} [d:Decidable c] {x y:Option A} (p:Sk C x) (q:Sk C y):Sk C (if c then x else y) :=
 ⟨Br (decide c) p.c q.c,fun k g h=>br_d h (p.ok k g) (q.ok k g)⟩
def Sk.brB {b:Bool} {x y:Option A} (p:Sk C x) (q:Sk C y):Sk C (if b=true then x else y) :=
 ⟨Br b p.c q.c,fun k g h=>br_b h (p.ok k g) (q.ok k g)⟩
def Sk.brT {c:Prop} [d:Decidable c] {x y:Option A} (hc:c) (p:Sk C x):Sk C (if c then x else y) :=
 ⟨p.c,fun k g h=>p.ok k g (by rw[if_pos hc]at h;exact h)⟩
def Sk.brF {c:Prop} [d:Decidable c] {x y:Option A} (hc:¬c) (q:Sk C y):Sk C (if c then x else y) :=
 ⟨q.c,fun k g h=>q.ok k g (by rw[if_neg hc]at h;exact h)⟩
def Sk.ob {c:Prop} [d:Decidable c] {x:Option A} (p:Sk C x):Sk C (if c then x else none) :=
 ⟨Ob c∧p.c,fun k g h=>ob_s h (p.ok k g)⟩
def Sk.obT {e:Option A} (p:Sk C e):Sk C e:=⟨Ob True∧p.c,fun k g h=>⟨⟨trivial⟩,p.ok k g h⟩⟩
def Sk.obC {e:Option A} (c:Prop) (hc:c) (p:Sk C e):Sk C e:=⟨Ob c∧p.c,fun k g h=>⟨⟨hc⟩,p.ok k g h⟩⟩
def Sk.call [Inhabited B] {e:Option B} {f:B->Option A} (p:Sk C (f (val e))):Sk C (e.bind f) :=
 ⟨Ob (Go.Sx.ok e)∧p.c,fun k g h=>jB8 h (p.ok k g)⟩
def Sk.rc [i:TC R] {r a:R}:Sk (top r) (some a):=⟨i.c a r,fun _ _ h=>rcs h⟩
def Sk.ret {r a:R} (P:R->Prop) (h:P a):Sk (top r) (some a):=⟨P r,fun _ _ e=>by cases e;exact h⟩
def Sk.bad (c:Prop):Sk C none:=⟨c,fun _ _ h=>nomatch h⟩
def Sk.loopQ {b:X->Option (X ⊕ Y)} {x:X} {U:Y->Option A} (L:Lp Z X Y A R) (Q:List (Cl Z)) (w:Nat->Z) (p:∀z,Sk (L.cx z) (L.b z (L.x z)))
  (hw:∀k,okQ Q (w k))
  (h:∀k,C.G k->((jag b big x).bind fun y=>(U y).bind (C.κ k))=some C.r->L.inv (w k):=by exact fun _ g h=>⟨g,h⟩)
  (hq:∀k,je6 Q (w k) (w k)->je6 Q (w 0) (w k):=by exact fun _ h=>h):Sk C ((jag b big x).bind U) :=
 ⟨(
  ∃v,Ob (L.inv v)∧je6 Q (w 0) v)∧∀v,L.inv v->(p v).c,fun k g e=>⟨⟨w k,⟨h k g (jB9 e)⟩,hq k (jhI Q _ (hw k))⟩,fun v hv=>by
  obtain⟨m,hm,e⟩:=jzV hv.2;exact(p v).ok m ⟨hm.symm,hv.1⟩ e⟩⟩
def Sk.loop {b:X->Option (X ⊕ Y)} {x:X} {U:Y->Option A} (L:Lp Z X Y A R) (w:Nat->Z) (p:∀z,Sk (L.cx z) (L.b z (L.x z)))
  (hw:∀k,okQ L.Q (w k):=by exact fun _=>trivial)
  (h:∀k,C.G k->((jag b big x).bind fun y=>(U y).bind (C.κ k))=some C.r->L.inv (w k):=by exact fun _ g h=>⟨g,h⟩)
  (hq:∀k,je6 L.Q (w k) (w k)->je6 L.Q (w 0) (w k):=by exact fun _ h=>h):Sk C ((jag b big x).bind U):=Sk.loopQ L L.Q w p hw h hq
def Sk.nextQ {L:Lp Z X Y A R} {z:Z} {x:X} (Q:List (Cl Z)) (hw:∀k,okQ Q (L.nx z x k))
  (h:∀k,k+1=L.n z∧(L.C z).G (L.k z)->(jag (L.b z) k x).bind (L.K z)=some (L.C z).r->L.inv (L.nx z x k)∧L.n (L.nx z x k)<L.n z:=by exact fun _ g h=>⟨⟨g.2,h⟩,jBc g.1⟩)
  (hq:∀k,je6 Q (L.nx z x k) (L.nx z x k)->je6 Q (L.nx z x 0) (L.nx z x k):=by exact fun _ h=>h):Sk (L.cx z) (some (.inl x)) :=
 ⟨∃v,Ob (L.inv v)∧(Ob (L.n v<L.n z)∧je6 Q (L.nx z x 0) v),fun k g e=>⟨L.nx z x k,⟨(h k g (jyo e)).1⟩,⟨(h k g (jyo e)).2⟩,hq k (jhI Q _ (hw k))⟩⟩
def Sk.next {L:Lp Z X Y A R} {z:Z} {x:X} (hw:∀k,okQ L.Q (L.nx z x k):=by exact fun _=>trivial)
  (h:∀k,k+1=L.n z∧(L.C z).G (L.k z)->(jag (L.b z) k x).bind (L.K z)=some (L.C z).r->L.inv (L.nx z x k)∧L.n (L.nx z x k)<L.n z:=by exact fun _ g h=>⟨⟨g.2,h⟩,jBc g.1⟩)
  (hq:∀k,je6 L.Q (L.nx z x k) (L.nx z x k)->je6 L.Q (L.nx z x 0) (L.nx z x k):=by exact fun _ h=>h):Sk (L.cx z) (some (.inl x)):=Sk.nextQ L.Q hw h hq
def Sk.exit {L:Lp Z X Y A R} {z:Z} {y:Y} (p:Sk (L.C z) (L.U z y)):Sk (L.cx z) (some (.inr y)) :=
 ⟨p.c,fun _ g e=>p.ok (L.k z) g.2 e⟩
def Sk.vc {e:Option R} {r:R} {p:Prop} (t:Sk (top r) e) (hp:t.c=p) (h:ze e some=some r):p:=hp ▸ t.ok 0 trivial h
def isI (st:St) (t:Nat) (n:Int):Bool:=match jaE st.tm t with
 |some (.w (.c (.d (.i _ m))))=>m==n
 |_=>false
end Go.Sx
end

section
namespace Go.Sx
def nI (l:List (List NC)) (i j:Nat):Int:=NC.toI ((l.getD i []).getD j (NC.d (D.v qe)))
def nS (l:List (List NC)) (i j:Nat):ByteArray:=NC.toS ((l.getD i []).getD j (NC.d (D.v qe)))
def nL (l:List (List NC)) (i j:Nat):List Int:=NC.toInts ((l.getD i []).getD j (NC.d (D.v qe)))
def nR (l:List (List NC)) (i j:Nat):List (List Int):=NC.toRecs ((l.getD i []).getD j (NC.d (D.v qe)))
section
variable {S R:Type} {g:S->Option R} {r:R}
end
def jCa {b:Bool} {x y:GT} {Q:List RR->Prop} (hx:b=true->x.sel.1->Q x.sel.2) (hy:b=false->y.sel.1->Q y.sel.2) (h:(GT.br b x y).sel.1):Q (GT.br b x y).sel.2:=by
 cases b with
 |true=>exact hx rfl h
 |false=>exact hy rfl h
end Go.Sx
end

section
namespace Go.Sx
def jBd:Nat->Bool
 |22|42|75|76|98|138=>true
 |_=>false
def jyp:Nat->Bool
 |42|98=>true
 |_=>false
instance globs : Globs := { tab := fun _ => none, nestT := jBd, nestM := jyp }
end Go.Sx
end

section
namespace Go.Sh
open Go Go.Proofs Go.RowKit Go.Sx
def bodyOf (f:jQ):yb:=f.body.getD .skip
def mixed:Tryz.prog.follows .mixedOrders=true:=by kernel_rfl
abbrev jco (fn:jQ) (sp:jaa) (loops:jfv) (as_:List A) (rs:List RV):Prop :=
 sx Tryz.prog sp fn.ntmps as_.length 40 loops (jca Tryz.prog sp fn.ntmps) (bodyOf fn) 0 [] ⟨jbO 0 (jdC 0 as_),jgs 0 as_,as_.length⟩ (jcm Tryz.prog fn.results.toList fun v hp _=>jBa rs v hp)
def jbd (shs:List SV) (ls:List Lf):Bv:=(jeF shs 0 ls).getD ⟨[],[],0,[]⟩
def jaN {shs:List SV} {ls:List Lf} {b:Bv} (h:jeF shs 0 ls=some b):b=jbd shs ls:=by
 unfold jbd;rw[h];rfl
abbrev jbl (fn:jQ) (sp:jaa) (loops:jfv) (b:Bv) (rs:List RR):Prop :=
 sx Tryz.prog sp fn.ntmps b.n 40 loops (jca Tryz.prog sp fn.ntmps) (bodyOf fn) 0 [] ⟨jbO 0 b.vs,b.hp,b.n⟩ (jcm Tryz.prog fn.results.toList fun v hp _=>jf1 b.n rs v hp)
def sp0:jaa:=fun _=>none
def jau:jac Tryz.prog sp0:=fun _ _ _ h=>by cases h
def jaG (f:Nat) (M:Bool) (S:Sx.Spec) (sp:jaa):jaa:=fun k=>match zt k f with
 |true=>some (M,S)
 |false=>sp k
def jap {f:Nat} {M:Bool} {S:Sx.Spec} {sp:jaa} (h:jaf Tryz.prog f M S) (hs:jac Tryz.prog sp):jac Tryz.prog (jaG f M S sp):=by
 intro k M' S' hk;unfold jaG at hk;split at hk
 ·rename_i e;have:=zb e;subst this;cases hk;exact h
 ·exact hs k M' S' hk
open Go.IntKind (wrap)
def joM:List (Option Cont):=[none,none,none]
def y30 (n lo hi:Int):Option Bool :=
 if lo<=n then
  some (decide (n<=hi))
 else
  some false
def jjG:List A->Option (Prop × List RV)
 |[.d (.i .i64 n),.d (.i .i64 lo),.d (.i .i64 hi)]=>some (ok (y30 n lo hi),[.d (.b ((val (y30 n lo hi))))])
 |_=>none
abbrev sp_84:jaa->jaa:=jaG 84 true (jaK joM jjG)
def jwy (n lo hi:Int) (r:Bool):Sk (top r) (y30 n lo hi) :=
 .br
 (.obT (.rc))
 (.obT (.rc))
def juz (n lo hi:Int) (r:Bool) (h:ze (y30 n lo hi) some=some r):jco Tryz.f84 (sp0) (fun _ _ _=>none) [.d (.i .i64 n),.d (.i .i64 lo),.d (.i .i64 hi)] [.d (.b r)] :=
 Sk.vc (jwy n lo hi r) (by kernel_rfl) h
def juA:jaf Tryz.prog 84 true (jaK joM jjG):=by
 refine jaU (sp:=sp0) (fn:=Tryz.f84) (body:=bodyOf Tryz.f84) mixed jau Tryz.func84 (by kernel_rfl) (by kernel_rfl) fun as_ ob rs h ho=>?_;unfold jjG at h;split at h
 ·rename_i n lo hi;cases h;exact⟨zj rfl,_,_,juz n lo hi _ (jar ho)⟩
 ·cases h
def sp_84_ok {sp:jaa} (h:jac Tryz.prog sp):jac Tryz.prog (sp_84 sp):=jap juA h
def joN:List (Option Cont):=[none,none,none]
def y11 (n lo hi:Int):Option Bool :=
 if lo<=n then
  some (decide (n<=hi))
 else
  some false
def jjH:List A->Option (Prop × List RV)
 |[.d (.i .i64 n),.d (.i .i64 lo),.d (.i .i64 hi)]=>some (ok (y11 n lo hi),[.d (.b ((val (y11 n lo hi))))])
 |_=>none
abbrev sp_45:jaa->jaa:=jaG 45 true (jaK joN jjH)
def jwz (n lo hi:Int) (r:Bool):Sk (top r) (y11 n lo hi) :=
 .br
 (.obT (.rc))
 (.obT (.rc))
def juB (n lo hi:Int) (r:Bool) (h:ze (y11 n lo hi) some=some r):jco Tryz.f45 (sp0) (fun _ _ _=>none) [.d (.i .i64 n),.d (.i .i64 lo),.d (.i .i64 hi)] [.d (.b r)] :=
 Sk.vc (jwz n lo hi r) (by kernel_rfl) h
def juC:jaf Tryz.prog 45 true (jaK joN jjH):=by
 refine jaU (sp:=sp0) (fn:=Tryz.f45) (body:=bodyOf Tryz.f45) mixed jau Tryz.func45 (by kernel_rfl) (by kernel_rfl) fun as_ ob rs h ho=>?_;unfold jjH at h;split at h
 ·rename_i n lo hi;cases h;exact⟨zj rfl,_,_,juB n lo hi _ (jar ho)⟩
 ·cases h
def sp_45_ok {sp:jaa} (h:jac Tryz.prog sp):jac Tryz.prog (sp_45 sp):=jap juC h
def jqP:List (Option Cont):=[none,none]
def je7 (n u39:Int):Option Bool :=
 ze (y30 n (wrap .i64 (0-u39)) u39) fun r0 =>
 some r0
def jla:List A->Option (Prop × List RV)
 |[.d (.i .i64 n),.d (.i .i64 u39)]=>some (ok (je7 n u39),[.d (.b ((val (je7 n u39))))])
 |_=>none
abbrev sp_160:jaa->jaa:=jaG 160 true (jaK jqP jla)
def jyq (n u39:Int) (r:Bool):Sk (top r) (je7 n u39) :=
 .call (.obT (.rc))
def jwA (n u39:Int) (r:Bool) (h:ze (je7 n u39) some=some r):jco Tryz.f160 ((sp_84 sp0)) (fun _ _ _=>none) [.d (.i .i64 n),.d (.i .i64 u39)] [.d (.b r)] :=
 Sk.vc (jyq n u39 r) (by kernel_rfl) h
def jwB:jaf Tryz.prog 160 true (jaK jqP jla):=by
 refine jaU (sp:=(sp_84 sp0)) (fn:=Tryz.f160) (body:=bodyOf Tryz.f160) mixed (sp_84_ok jau) Tryz.func160 (by kernel_rfl) (by kernel_rfl) fun as_ ob rs h ho=>?_;unfold jla at h;split at h
 ·rename_i n u39;cases h;exact⟨zj rfl,_,_,jwA n u39 _ (jar ho)⟩
 ·cases h
def sp_160_ok {sp:jaa} (h:jac Tryz.prog sp):jac Tryz.prog (sp_160 sp):=jap jwB h
def jvL:List (Option Cont):=[some (.ints .i64 []),none]
def jgY (l:List Int) (n x0:Int):Option (Int ⊕ (Unit ⊕ Unit)) :=
 if x0<(↑l.length:Int)then
  if 0<=x0∧x0<(↑l.length:Int)then
  if zf x0<zg l then
   if(za l x0.toNat (0:Int)==n)=true then
   some (.inr ((.inl ())))
   else
   some (.inl (wrap .i64 (x0+1)))
  else none
  else none
 else
  some (.inr ((.inr ())))
def jwC (u5:Unit):Option Bool :=
 some true
def jwD (u6:Unit):Option Bool :=
 some false
def jsN:(Unit ⊕ Unit)->Option Bool :=
 (qZ (jwC) (jwD))
def jfz (l:List Int) (n:Int):Option Bool :=
 ze (jag (jgY l n) big (0:Int)) (jsN)
def jpW:List A->Option (Prop × List RV)
 |[.r (.ints .i64 l),.d (.i .i64 n)]=>some (ok (jfz l n),[.d (.b ((val (jfz l n))))])
 |_=>none
abbrev sp_48:jaa->jaa:=jaG 48 true (jaK jvL jpW)
abbrev jsO (l:List Int) (n:Int) (r:Bool):Lp (Int × Nat) Int (Unit ⊕ Unit) Bool Bool :=
 ⟨fun z=>z.1,fun z=>z.2,fun z x n=>(x,n),fun z=>jgY l n,fun z=>jsN,fun z=>top r,fun z=>0,[.c fun _=>n,.c fun vv=>vv.1,.c fun _=>l]⟩
def jBG (l:List Int) (n:Int) (r:Bool):Sk (top r) (jfz l n) :=
 .loop (jsO l n r) (fun kk=>((0:Int),big)) fun z0 =>
 .br
 (.ob (.ob (.brB
 (.exit (.obT (.rc)))
 (.next))))
 (.exit (.obT (.rc)))
def jzW (l:List Int) (n:Int) (r:Bool) (h:ze (jfz l n) some=some r):jco Tryz.f48 (sp0) (fun gs id _=>match id with
 |0=>some ⟨Int × Nat,fun z=>⟨[(0,.w (.c (.o 0))),(1,.w (.c (.d (.i .i64 n)))),(5,.w (.c (.d (.i .i64 z.1))))],[(0,.ext (.ints .i64 l))],2⟩,fun z=>(jsO l n r).inv z,fun z=>z.2⟩
 |_=>none) [.r (.ints .i64 l),.d (.i .i64 n)] [.d (.b r)] :=
 Sk.vc (jBG l n r) (by kernel_rfl) h
def jzX:jaf Tryz.prog 48 true (jaK jvL jpW):=by
 refine jaU (sp:=sp0) (fn:=Tryz.f48) (body:=bodyOf Tryz.f48) mixed jau Tryz.func48 (by kernel_rfl) (by kernel_rfl) fun as_ ob rs h ho=>?_;unfold jpW at h;split at h
 ·rename_i l n;cases h;exact⟨zj rfl,_,_,jzW l n _ (jar ho)⟩
 ·cases h
def sp_48_ok {sp:jaa} (h:jac Tryz.prog sp):jac Tryz.prog (sp_48 sp):=jap jzX h
def jsP:List (Option Cont):=[some (.ints .i64 []),some (.ints .i64 [])]
def jhJ (a b:List Int) (x0:Int):Option (Int ⊕ (Unit ⊕ Unit)) :=
 if x0<(↑a.length:Int)then
  if 0<=x0∧x0<(↑a.length:Int)then
  if zf x0<zg a then
   if 0<=x0∧x0<(↑b.length:Int)then
   if zf x0<zg b then
    if(za a x0.toNat (0:Int)!=za b x0.toNat (0:Int))=true then
    some (.inr ((.inl ())))
    else
    some (.inl (wrap .i64 (x0+1)))
   else none
   else none
  else none
  else none
 else
  some (.inr ((.inr ())))
def juD (u5:Unit):Option Bool :=
 some false
def juE (u6:Unit):Option Bool :=
 some true
def jqQ:(Unit ⊕ Unit)->Option Bool :=
 (qZ (juD) (juE))
def jc0 (a b:List Int):Option Bool :=
 if((↑a.length:Int)!=(↑b.length:Int))=true then
  some false
 else
  ze (jag (jhJ a b) big (0:Int)) (jqQ)
def jnu:List A->Option (Prop × List RV)
 |[.r (.ints .i64 a),.r (.ints .i64 b)]=>some (ok (jc0 a b),[.d (.b ((val (jc0 a b))))])
 |_=>none
abbrev sp_24:jaa->jaa:=jaG 24 true (jaK jsP jnu)
abbrev jqR (a b:List Int) (r:Bool):Lp (Int × Nat) Int (Unit ⊕ Unit) Bool Bool :=
 ⟨fun z=>z.1,fun z=>z.2,fun z x n=>(x,n),fun z=>jhJ a b,fun z=>jqQ,fun z=>top r,fun z=>0,[.c fun vv=>vv.1,.c fun _=>a,.c fun _=>b]⟩
def jzY (a b:List Int) (r:Bool):Sk (top r) (jc0 a b) :=
 .brB
 (.obT (.rc))
 (.loop (jqR a b r) (fun kk=>((0:Int),big)) fun z0 =>
 .br
 (.ob (.ob (.ob (.ob (.brB
 (.exit (.obT (.rc)))
 (.next))))))
 (.exit (.obT (.rc))))
def jyr (a b:List Int) (r:Bool) (h:ze (jc0 a b) some=some r):jco Tryz.f24 (sp0) (fun gs id _=>match id with
 |0=>some ⟨Int × Nat,fun z=>⟨[(0,.w (.c (.o 0))),(1,.w (.c (.o 1))),(5,.w (.c (.d (.i .i64 z.1))))],[(0,.ext (.ints .i64 a)),(1,.ext (.ints .i64 b))],2⟩,fun z=>(jqR a b r).inv z,fun z=>z.2⟩
 |_=>none) [.r (.ints .i64 a),.r (.ints .i64 b)] [.d (.b r)] :=
 Sk.vc (jzY a b r) (by kernel_rfl) h
def jys:jaf Tryz.prog 24 true (jaK jsP jnu):=by
 refine jaU (sp:=sp0) (fn:=Tryz.f24) (body:=bodyOf Tryz.f24) mixed jau Tryz.func24 (by kernel_rfl) (by kernel_rfl) fun as_ ob rs h ho=>?_;unfold jnu at h;split at h
 ·rename_i a b;cases h;exact⟨zj rfl,_,_,jyr a b _ (jar ho)⟩
 ·cases h
def sp_24_ok {sp:jaa} (h:jac Tryz.prog sp):jac Tryz.prog (sp_24 sp):=jap jys h
def jlb:List (Option Cont):=[some (.ints .i64 [])]
def y58 (l:List Int):Option (List Int) :=
 if(0+zg l)*8<=140737488355328∧0+zg l<=9223372036854775807 then
  some ([]++l)
 else none
def jgZ:List A->Option (Prop × List RV)
 |[.r (.ints .i64 l)]=>some (ok (y58 l),[.row 3 (.ints .i64 ((val (y58 l))))])
 |_=>none
abbrev sp_26:jaa->jaa:=jaG 26 true (jaK jlb jgZ)
def jsQ (l r:List Int):Sk (top r) (y58 l) :=
 .ob (.obT (.rc))
def jri (l r:List Int) (h:ze (y58 l) some=some r):jco Tryz.f26 (sp0) (fun _ _ _=>none) [.r (.ints .i64 l)] [.row 3 (.ints .i64 r)] :=
 Sk.vc (jsQ l r) (by kernel_rfl) h
def jrj:jaf Tryz.prog 26 true (jaK jlb jgZ):=by
 refine jaU (sp:=sp0) (fn:=Tryz.f26) (body:=bodyOf Tryz.f26) mixed jau Tryz.func26 (by kernel_rfl) (by kernel_rfl) fun as_ ob rs h ho=>?_;unfold jgZ at h;split at h
 ·rename_i l;cases h;exact⟨zj rfl,_,_,jri l _ (jar ho)⟩
 ·cases h
def sp_26_ok {sp:jaa} (h:jac Tryz.prog sp):jac Tryz.prog (sp_26 sp):=jap jrj h
def joO:List (Option Cont):=[none,none]
def y71 (is:Bool) (e:Int):Option Int :=
 if(is)=true then
  some (0:Int)
 else
  some e
def jjI:List A->Option (Prop × List RV)
 |[.d (.b is),.d (.i .i64 e)]=>some (ok (y71 is e),[.d (.i .i64 ((val (y71 is e))))])
 |_=>none
abbrev sp_77:jaa->jaa:=jaG 77 true (jaK joO jjI)
def jwE (is:Bool) (e r:Int):Sk (top r) (y71 is e) :=
 .brB
 (.obT (.rc))
 (.obT (.rc))
def juF (is:Bool) (e r:Int) (h:ze (y71 is e) some=some r):jco Tryz.f77 (sp0) (fun _ _ _=>none) [.d (.b is),.d (.i .i64 e)] [.d (.i .i64 r)] :=
 Sk.vc (jwE is e r) (by kernel_rfl) h
def juG:jaf Tryz.prog 77 true (jaK joO jjI):=by
 refine jaU (sp:=sp0) (fn:=Tryz.f77) (body:=bodyOf Tryz.f77) mixed jau Tryz.func77 (by kernel_rfl) (by kernel_rfl) fun as_ ob rs h ho=>?_;unfold jjI at h;split at h
 ·rename_i is e;cases h;exact⟨zj rfl,_,_,juF is e _ (jar ho)⟩
 ·cases h
def sp_77_ok {sp:jaa} (h:jac Tryz.prog sp):jac Tryz.prog (sp_77 sp):=jap juG h
def jh0:List SV:=[.a [.d,.d,.d,.d,.d,.d,.d,.d,.d,.d,.d,.d,.d,.d,.d,.d,.d,.d,.d,.d,.d,.d,.d,.d,.d,.d,.d,.d,.d,.d,.d,.d]]
def jlc (l0 l1 l2 l3 l4 l5 l6 l7 l8 l9 l10 l11 l12 l13 l14 l15 l16 l17 l18 l19 l20 l21 l22 l23 l24 l25 l26 l27 l28 l29 l30 l31:Int) (x0:(Int × List Nat)):Option ((Int × List Nat) ⊕ (List Nat)) :=
 if x0.1<32 then
  if(0<=x0.1∧x0.1<(↑(32:Nat):Int))∧za [true,true,true,true,true,true,true,true,true,true,true,true,true,true,true,true,true,true,true,true,true,true,true,true,true,true,true,true,true,true,true,true] (zf x0.1*1) false=true then
  if 0<=x0.1∧x0.1<(↑(32:Nat):Int)then
   if 0+(0+zf x0.1*1)<32 then
   some (.inl ((wrap .i64 (x0.1+1),jja (32:Nat) x0.2 (0+(0+zf x0.1*1)) (jI .f32 (za [l0,l1,l2,l3,l4,l5,l6,l7,l8,l9,l10,l11,l12,l13,l14,l15,l16,l17,l18,l19,l20,l21,l22,l23,l24,l25,l26,l27,l28,l29,l30,l31] (zf x0.1*1) (0:Int))))))
   else none
  else none
  else none
 else
  some (.inr x0.2)
def jld (u5:List Nat):Option (List Nat) :=
 some u5
def jfS (l0 l1 l2 l3 l4 l5 l6 l7 l8 l9 l10 l11 l12 l13 l14 l15 l16 l17 l18 l19 l20 l21 l22 l23 l24 l25 l26 l27 l28 l29 l30 l31:Int):Option (List Nat) :=
 ze (jag (jlc l0 l1 l2 l3 l4 l5 l6 l7 l8 l9 l10 l11 l12 l13 l14 l15 l16 l17 l18 l19 l20 l21 l22 l23 l24 l25 l26 l27 l28 l29 l30 l31) big (((0:Int),zO))) (jld)
def jh1:List Lf->Option GT
 |[.d (.i .i64 l0),.d (.i .i64 l1),.d (.i .i64 l2),.d (.i .i64 l3),.d (.i .i64 l4),.d (.i .i64 l5),.d (.i .i64 l6),.d (.i .i64 l7),.d (.i .i64 l8),.d (.i .i64 l9),.d (.i .i64 l10),.d (.i .i64 l11),.d (.i .i64 l12),.d (.i .i64 l13),.d (.i .i64 l14),.d (.i .i64 l15),.d (.i .i64 l16),.d (.i .i64 l17),.d (.i .i64 l18),.d (.i .i64 l19),.d (.i .i64 l20),.d (.i .i64 l21),.d (.i .i64 l22),.d (.i .i64 l23),.d (.i .i64 l24),.d (.i .i64 l25),.d (.i .i64 l26),.d (.i .i64 l27),.d (.i .i64 l28),.d (.i .i64 l29),.d (.i .i64 l30),.d (.i .i64 l31)]=>some (.leaf (ok (jfS l0 l1 l2 l3 l4 l5 l6 l7 l8 l9 l10 l11 l12 l13 l14 l15 l16 l17 l18 l19 l20 l21 l22 l23 l24 l25 l26 l27 l28 l29 l30 l31)) [.b .f32 32 ((val (jfS l0 l1 l2 l3 l4 l5 l6 l7 l8 l9 l10 l11 l12 l13 l14 l15 l16 l17 l18 l19 l20 l21 l22 l23 l24 l25 l26 l27 l28 l29 l30 l31)))])
 |_=>none
abbrev jle (l0 l1 l2 l3 l4 l5 l6 l7 l8 l9 l10 l11 l12 l13 l14 l15 l16 l17 l18 l19 l20 l21 l22 l23 l24 l25 l26 l27 l28 l29 l30 l31:Int) (r:List Nat):Lp ((Int × List Nat) × Nat) (Int × List Nat) (List Nat) (List Nat) (List Nat) :=
 ⟨fun z=>z.1,fun z=>z.2,fun z x n=>(x,n),fun z=>jlc l0 l1 l2 l3 l4 l5 l6 l7 l8 l9 l10 l11 l12 l13 l14 l15 l16 l17 l18 l19 l20 l21 l22 l23 l24 l25 l26 l27 l28 l29 l30 l31,fun z=>jld,fun z=>top r,fun z=>0,[.c fun _=>0,.c fun _=>0,.c fun _=>l0,.c fun _=>l1,.c fun _=>l2,.c fun _=>l3,.c fun _=>l4,.c fun _=>l5,.c fun _=>l6,.c fun _=>l7,.c fun _=>l8,.c fun _=>l9,.c fun _=>l10,.c fun _=>l11,.c fun _=>l12,.c fun _=>l13,.c fun _=>l14,.c fun _=>l15,.c fun _=>l16,.c fun _=>l17,.c fun _=>l18,.c fun _=>l19,.c fun _=>l20,.c fun _=>l21,.c fun _=>l22,.c fun _=>l23,.c fun _=>l24,.c fun _=>l25,.c fun _=>l26,.c fun _=>l27,.c fun _=>l28,.c fun _=>l29,.c fun _=>l30,.c fun _=>l31,.c fun vv=>vv.1.1,.c fun _=>zO,.c fun vv=>vv.1.2]⟩
def juH (l0 l1 l2 l3 l4 l5 l6 l7 l8 l9 l10 l11 l12 l13 l14 l15 l16 l17 l18 l19 l20 l21 l22 l23 l24 l25 l26 l27 l28 l29 l30 l31:Int) (r:List Nat):Sk (top r) (jfS l0 l1 l2 l3 l4 l5 l6 l7 l8 l9 l10 l11 l12 l13 l14 l15 l16 l17 l18 l19 l20 l21 l22 l23 l24 l25 l26 l27 l28 l29 l30 l31) :=
 .loop (jle l0 l1 l2 l3 l4 l5 l6 l7 l8 l9 l10 l11 l12 l13 l14 l15 l16 l17 l18 l19 l20 l21 l22 l23 l24 l25 l26 l27 l28 l29 l30 l31 r) (fun kk=>(((0:Int),zO),big)) fun z0 =>
 .br
 (.ob (.obT (.ob (.ob (.next)))))
 (.exit (.obT (.obT (.obT (.ret (fun r=>(Ob (r=z0.1.2) ∧
 True)) ⟨⟨rfl⟩,trivial⟩)))))
def jsR (l0 l1 l2 l3 l4 l5 l6 l7 l8 l9 l10 l11 l12 l13 l14 l15 l16 l17 l18 l19 l20 l21 l22 l23 l24 l25 l26 l27 l28 l29 l30 l31:Int) (r:List Nat) (h:ze (jfS l0 l1 l2 l3 l4 l5 l6 l7 l8 l9 l10 l11 l12 l13 l14 l15 l16 l17 l18 l19 l20 l21 l22 l23 l24 l25 l26 l27 l28 l29 l30 l31) some=some r):jbl Tryz.f146 (sp0) (fun gs id _=>match id with
 |0=>some ⟨(Int × List Nat) × Nat,fun z=>⟨[(2,.w (.c (.p 0 0 1 0))),(3,.w (.c (.p 1 0 1 0))),(6,.w (.a [.d (.i .i64 l0),.d (.i .i64 l1),.d (.i .i64 l2),.d (.i .i64 l3),.d (.i .i64 l4),.d (.i .i64 l5),.d (.i .i64 l6),.d (.i .i64 l7),.d (.i .i64 l8),.d (.i .i64 l9),.d (.i .i64 l10),.d (.i .i64 l11),.d (.i .i64 l12),.d (.i .i64 l13),.d (.i .i64 l14),.d (.i .i64 l15),.d (.i .i64 l16),.d (.i .i64 l17),.d (.i .i64 l18),.d (.i .i64 l19),.d (.i .i64 l20),.d (.i .i64 l21),.d (.i .i64 l22),.d (.i .i64 l23),.d (.i .i64 l24),.d (.i .i64 l25),.d (.i .i64 l26),.d (.i .i64 l27),.d (.i .i64 l28),.d (.i .i64 l29),.d (.i .i64 l30),.d (.i .i64 l31)])),(7,.w (.c (.d (.i .i64 z.1.1))))],[(0,.arr 110 .f32 32 (zO)),(1,.arr 110 .f32 32 z.1.2)],2⟩,fun z=>(jle l0 l1 l2 l3 l4 l5 l6 l7 l8 l9 l10 l11 l12 l13 l14 l15 l16 l17 l18 l19 l20 l21 l22 l23 l24 l25 l26 l27 l28 l29 l30 l31 r).inv z,fun z=>z.2⟩
 |_=>none) (jbd jh0 [.d (.i .i64 l0),.d (.i .i64 l1),.d (.i .i64 l2),.d (.i .i64 l3),.d (.i .i64 l4),.d (.i .i64 l5),.d (.i .i64 l6),.d (.i .i64 l7),.d (.i .i64 l8),.d (.i .i64 l9),.d (.i .i64 l10),.d (.i .i64 l11),.d (.i .i64 l12),.d (.i .i64 l13),.d (.i .i64 l14),.d (.i .i64 l15),.d (.i .i64 l16),.d (.i .i64 l17),.d (.i .i64 l18),.d (.i .i64 l19),.d (.i .i64 l20),.d (.i .i64 l21),.d (.i .i64 l22),.d (.i .i64 l23),.d (.i .i64 l24),.d (.i .i64 l25),.d (.i .i64 l26),.d (.i .i64 l27),.d (.i .i64 l28),.d (.i .i64 l29),.d (.i .i64 l30),.d (.i .i64 l31)]) [.b .f32 32 r] :=
 Sk.vc (juH l0 l1 l2 l3 l4 l5 l6 l7 l8 l9 l10 l11 l12 l13 l14 l15 l16 l17 l18 l19 l20 l21 l22 l23 l24 l25 l26 l27 l28 l29 l30 l31 r) (by kernel_rfl) h
def jsS:jaf Tryz.prog 146 true (jai jh0 jh1):=by
 refine jaC (sp:=sp0) (fn:=Tryz.f146) (body:=bodyOf Tryz.f146) mixed jau Tryz.func146 (by kernel_rfl) (by kernel_rfl) fun ls t h ho b hb=>?_;unfold jh1 at h;split at h
 ·rename_i l0 l1 l2 l3 l4 l5 l6 l7 l8 l9 l10 l11 l12 l13 l14 l15 l16 l17 l18 l19 l20 l21 l22 l23 l24 l25 l26 l27 l28 l29 l30 l31;cases h;obtain rfl:=jaN hb;exact⟨zj (by kernel_rfl),_,_,jsR l0 l1 l2 l3 l4 l5 l6 l7 l8 l9 l10 l11 l12 l13 l14 l15 l16 l17 l18 l19 l20 l21 l22 l23 l24 l25 l26 l27 l28 l29 l30 l31 _ (jar ho)⟩
 ·cases h
end Go.Sh
end

section
namespace Go.Sh
open Go Go.Proofs Go.RowKit Go.Sx
open Go.IntKind (wrap)
def jgv:List SV:=[.a [.d,.x (.st zS [])]]
def jc9 (u1:List (List NC)) (x0:(Int × List (List NC))):Option ((Int × List (List NC)) ⊕ (List (List NC))) :=
 if x0.1<(↑u1.length:Int)then
  if 0<=x0.1∧x0.1<(↑u1.length:Int)then
  if zf x0.1<zg u1 then
   ze (y58 (nL u1 x0.1.toNat (2:Nat))) fun r0 =>
   ze (y58 (nL u1 x0.1.toNat (3:Nat))) fun r1 =>
   ze (y58 (nL u1 x0.1.toNat (4:Nat))) fun r2 =>
   if(0+zg (nR u1 x0.1.toNat (6:Nat)))*40<=140737488355328∧0+zg (nR u1 x0.1.toNat (6:Nat))<=9223372036854775807 then
   if(zg x0.2+zg [[NC.d (D.s (nS u1 x0.1.toNat (0:Nat))),NC.d (D.i .i64 (nI u1 x0.1.toNat (1:Nat))),NC.r (Cont.ints .i64 r0),NC.r (Cont.ints .i64 r1),NC.r (Cont.ints .i64 r2),NC.d (D.i .i64 (nI u1 x0.1.toNat (5:Nat))),NC.r (Cont.recs (5:Nat) ([]++nR u1 x0.1.toNat (6:Nat))),NC.d (D.i .i64 (nI u1 x0.1.toNat (7:Nat)))]])*136<=140737488355328∧zg x0.2+zg [[NC.d (D.s (nS u1 x0.1.toNat (0:Nat))),NC.d (D.i .i64 (nI u1 x0.1.toNat (1:Nat))),NC.r (Cont.ints .i64 r0),NC.r (Cont.ints .i64 r1),NC.r (Cont.ints .i64 r2),NC.d (D.i .i64 (nI u1 x0.1.toNat (5:Nat))),NC.r (Cont.recs (5:Nat) ([]++nR u1 x0.1.toNat (6:Nat))),NC.d (D.i .i64 (nI u1 x0.1.toNat (7:Nat)))]]<=9223372036854775807 then
    some (.inl ((wrap .i64 (x0.1+1),x0.2++[[NC.d (D.s (nS u1 x0.1.toNat (0:Nat))),NC.d (D.i .i64 (nI u1 x0.1.toNat (1:Nat))),NC.r (Cont.ints .i64 r0),NC.r (Cont.ints .i64 r1),NC.r (Cont.ints .i64 r2),NC.d (D.i .i64 (nI u1 x0.1.toNat (5:Nat))),NC.r (Cont.recs (5:Nat) ([]++nR u1 x0.1.toNat (6:Nat))),NC.d (D.i .i64 (nI u1 x0.1.toNat (7:Nat)))]])))
   else none
   else none
  else none
  else none
 else
  some (.inr x0.2)
def jmS (u4:ByteArray) (u5:List (List NC)):Option (ByteArray × List (List NC)) :=
 some (u4,u5)
def jaR (u4:ByteArray) (u1:List (List NC)):Option (ByteArray × List (List NC)) :=
 ze (jag (jc9 u1) big (((0:Int),[]))) (jmS u4)
abbrev jmT (u4:ByteArray) (u1:List (List NC)) (r:ByteArray × List (List NC)):Lp ((Int × List (List NC)) × Nat) ((Int × List (List NC))) ((List (List NC))) ((ByteArray × List (List NC))) (ByteArray × List (List NC)) :=
 ⟨fun z=>z.1,fun z=>z.2,fun z x n=>(x,n),fun z=>jc9 u1,fun z=>jmS u4,fun z=>top r,fun z=>0,[.c fun _=>0,.c fun _=>0,.c fun _=>0,.c fun vv=>vv.1.1,.c fun _=>u4,.c fun _=>qi #[],.c fun _=>qc none (0:Nat) (0:Nat),.c fun _=>u4,.c fun _=>u1,.c fun vv=>vv.1.2]⟩
def jwF (u4:ByteArray) (u1:List (List NC)) (r:ByteArray × List (List NC)):Sk (top r) (jaR u4 u1) :=
 .loopQ (jmT u4 u1 r) [.c fun _=>0,.c fun _=>0,.c fun _=>0,.c fun vv=>vv.1.1,.c fun _=>u4,.c fun _=>qi #[],.c fun _=>qc none (0:Nat) (0:Nat),.c fun _=>u4,.c fun _=>u1,.p fun vv=>zg vv.1.2=(0:Nat)] (fun kk=>(((0:Int),[]),big)) (fun z0 =>
 .br
 (.ob (.ob (.call (.call (.call (.ob (.ob (.next))))))))
 (.exit (.obT (.rc)))) (fun _=>⟨rfl,trivial⟩)
end Go.Sh
end

section
namespace Go.Sh
open Go Go.Proofs Go.RowKit Go.Sx
open Go.IntKind (wrap)
def jlf:List SV:=[.a [.d,.x (.st zS [])]]
def y59 (u1:List (List NC)) (x0:Int):Option (Int ⊕ (Unit ⊕ Unit)) :=
 if x0<(↑u1.length:Int)then
  if 0<=x0∧x0<(↑u1.length:Int)then
  if zf x0<zg u1 then
   if(↑(xS (nS u1 x0.toNat (0:Nat))):Int)>20 then
   some (.inr ((.inl ())))
   else
   if(↑(zg (nL u1 x0.toNat (2:Nat))):Int)>8 then
    some (.inr ((.inl ())))
   else
    if(↑(zg (nL u1 x0.toNat (3:Nat))):Int)>8 then
    some (.inr ((.inl ())))
    else
    if(↑(zg (nL u1 x0.toNat (4:Nat))):Int)>8 then
     some (.inr ((.inl ())))
    else
     if(↑(zg (nR u1 x0.toNat (6:Nat))):Int)>8 then
     some (.inr ((.inl ())))
     else
     some (.inl (wrap .i64 (x0+1)))
  else none
  else none
 else
  some (.inr ((.inr ())))
def jsT (u5:Unit):Option Bool :=
 some false
def jsU (u6:Unit):Option Bool :=
 some true
def jeG:(Unit ⊕ Unit)->Option Bool :=
 (qZ (jsT) (jsU))
def jer (u4:ByteArray) (u1:List (List NC)):Option Bool :=
 if(↑(xS u4):Int)>20 then
  some false
 else
  if(↑u1.length:Int)>8 then
  if(↑u1.length:Int)<=24 then
   some false
  else
   if(↑u1.length:Int)>26 then
   some false
   else
   ze (jag (y59 u1) big (0:Int)) (jeG)
  else
  if(↑u1.length:Int)>26 then
   some false
  else
   ze (jag (y59 u1) big (0:Int)) (jeG)
def jlg:List Lf->Option GT
 |[.d (.s u4),.x (.st [.s,.i .i64,.ints .i64,.ints .i64,.ints .i64,.i .i64,.recs 5,.i .i64] u1)]=>some (.leaf (ok (jer u4 u1)) [.c (.d (.b ((val (jer u4 u1)))))])
 |_=>none
abbrev sp_17:jaa->jaa:=jaG 17 true (jai jlf jlg)
abbrev jjJ (u4:ByteArray) (u1:List (List NC)) (r:Bool):Lp (Int × Nat) Int (Unit ⊕ Unit) Bool Bool :=
 ⟨fun z=>z.1,fun z=>z.2,fun z x n=>(x,n),fun z=>y59 u1,fun z=>jeG,fun z=>top r,fun z=>0,[.c fun _=>0,.c fun vv=>vv.1,.c fun _=>u4,.c fun _=>u1]⟩
def jyt (u4:ByteArray) (u1:List (List NC)) (r:Bool):Sk (top r) (jer u4 u1) :=
 .br
 (.obT (.rc))
 (.br
 (.br
 (.obT (.rc))
 (.br
 (.obT (.rc))
 (.loop (jjJ u4 u1 r) (fun kk=>((0:Int),big)) fun z0 =>
 .br
 (.ob (.ob (.br
 (.exit (.obT (.rc)))
 (.br
 (.exit (.obT (.rc)))
 (.br
 (.exit (.obT (.rc)))
 (.br
 (.exit (.obT (.rc)))
 (.br
 (.exit (.obT (.rc)))
 (.next))))))))
 (.exit (.obT (.rc))))))
 (.br
 (.obT (.rc))
 (.loop (jjJ u4 u1 r) (fun kk=>((0:Int),big)) fun z1 =>
 .br
 (.ob (.ob (.br
 (.exit (.obT (.rc)))
 (.br
 (.exit (.obT (.rc)))
 (.br
 (.exit (.obT (.rc)))
 (.br
 (.exit (.obT (.rc)))
 (.br
 (.exit (.obT (.rc)))
 (.next))))))))
 (.exit (.obT (.rc))))))
def jwG (u4:ByteArray) (u1:List (List NC)) (r:Bool) (h:ze (jer u4 u1) some=some r):jbl Tryz.f17 (sp0) (fun gs id _=>match id with
 |0=>some ⟨Int × Nat,fun z=>⟨[(1,.w (.c (.p 1 0 1 0))),(3,.w (.c (.d (.i .i64 z.1))))],[(1,.box 24 [.d (.s u4),.o 0]),(0,.xext (XC.st zS u1))],2⟩,fun z=>(jjJ u4 u1 r).inv z,fun z=>z.2⟩
 |_=>none) (jbd jlf [.d (.s u4),.x (.st zS u1)]) [.c (.d (.b r))] :=
 Sk.vc (jyt u4 u1 r) (by kernel_rfl) h
def jwH:jaf Tryz.prog 17 true (jai jlf jlg):=by
 refine jaC (sp:=sp0) (fn:=Tryz.f17) (body:=bodyOf Tryz.f17) mixed jau Tryz.func17 (by kernel_rfl) (by kernel_rfl) fun ls t h ho b hb=>?_;unfold jlg at h;split at h
 ·rename_i u4 u1;cases h;obtain rfl:=jaN hb;exact⟨zj (by kernel_rfl),_,_,jwG u4 u1 _ (jar ho)⟩
 ·cases h
def sp_17_ok {sp:jaa} (h:jac Tryz.prog sp):jac Tryz.prog (sp_17 sp):=jap jwH h
def joP:List (Option Cont):=[none]
def jh2 (s:ByteArray) (x0:Int):Option (Int ⊕ (Unit ⊕ Unit)) :=
 if x0<(↑(xS s):Int)then
  if 0<=x0∧x0<(↑(xS s):Int)then
  if(↑(qw (qC (qd s) x0.toNat (0:UInt8))):Int)>=97 then
   if(↑(qw (qC (qd s) x0.toNat (0:UInt8))):Int)<=122 then
   some (.inl (wrap .i64 (x0+1)))
   else
   if(↑(qw (qC (qd s) x0.toNat (0:UInt8))):Int)>=65 then
    if(!decide ((↑(qw (qC (qd s) x0.toNat (0:UInt8))):Int)<=90))=true then
    if(x0==0)=true then
     some (.inr ((.inl ())))
    else
     if((↑(qw (qC (qd s) x0.toNat (0:UInt8))):Int)!=45)=true then
     if(↑(qw (qC (qd s) x0.toNat (0:UInt8))):Int)<48 then
      some (.inr ((.inl ())))
     else
      if(↑(qw (qC (qd s) x0.toNat (0:UInt8))):Int)>57 then
      some (.inr ((.inl ())))
      else
      some (.inl (wrap .i64 (x0+1)))
     else
     some (.inl (wrap .i64 (x0+1)))
    else
    some (.inl (wrap .i64 (x0+1)))
   else
    if(x0==0)=true then
    some (.inr ((.inl ())))
    else
    if((↑(qw (qC (qd s) x0.toNat (0:UInt8))):Int)!=45)=true then
     if(↑(qw (qC (qd s) x0.toNat (0:UInt8))):Int)<48 then
     some (.inr ((.inl ())))
     else
     if(↑(qw (qC (qd s) x0.toNat (0:UInt8))):Int)>57 then
      some (.inr ((.inl ())))
     else
      some (.inl (wrap .i64 (x0+1)))
    else
     some (.inl (wrap .i64 (x0+1)))
  else
   if(↑(qw (qC (qd s) x0.toNat (0:UInt8))):Int)>=65 then
   if(!decide ((↑(qw (qC (qd s) x0.toNat (0:UInt8))):Int)<=90))=true then
    if(x0==0)=true then
    some (.inr ((.inl ())))
    else
    if((↑(qw (qC (qd s) x0.toNat (0:UInt8))):Int)!=45)=true then
     if(↑(qw (qC (qd s) x0.toNat (0:UInt8))):Int)<48 then
     some (.inr ((.inl ())))
     else
     if(↑(qw (qC (qd s) x0.toNat (0:UInt8))):Int)>57 then
      some (.inr ((.inl ())))
     else
      some (.inl (wrap .i64 (x0+1)))
    else
     some (.inl (wrap .i64 (x0+1)))
   else
    some (.inl (wrap .i64 (x0+1)))
   else
   if(x0==0)=true then
    some (.inr ((.inl ())))
   else
    if((↑(qw (qC (qd s) x0.toNat (0:UInt8))):Int)!=45)=true then
    if(↑(qw (qC (qd s) x0.toNat (0:UInt8))):Int)<48 then
     some (.inr ((.inl ())))
    else
     if(↑(qw (qC (qd s) x0.toNat (0:UInt8))):Int)>57 then
     some (.inr ((.inl ())))
     else
     some (.inl (wrap .i64 (x0+1)))
    else
    some (.inl (wrap .i64 (x0+1)))
  else none
 else
  some (.inr ((.inr ())))
def jrk (u5:Unit):Option Bool :=
 some false
def jrl (u6:Unit):Option Bool :=
 some true
def jmU:(Unit ⊕ Unit)->Option Bool :=
 (qZ (jrk) (jrl))
def y72 (s:ByteArray):Option Bool :=
 if(↑(xS s):Int)<1 then
  some false
 else
  if(↑(xS s):Int)>12 then
  some false
  else
  ze (jag (jh2 s) big (0:Int)) (jmU)
def jjK:List A->Option (Prop × List RV)
 |[.d (.s s)]=>some (ok (y72 s),[.d (.b ((val (y72 s))))])
 |_=>none
abbrev sp_81:jaa->jaa:=jaG 81 true (jaK joP jjK)
abbrev jmV (s:ByteArray) (r:Bool):Lp (Int × Nat) Int (Unit ⊕ Unit) Bool Bool :=
 ⟨fun z=>z.1,fun z=>z.2,fun z x n=>(x,n),fun z=>jh2 s,fun z=>jmU,fun z=>top r,fun z=>0,[.c fun _=>s,.c fun vv=>vv.1]⟩
def jwI (s:ByteArray) (r:Bool):Sk (top r) (y72 s) :=
 .br
 (.obT (.rc))
 (.br
 (.obT (.rc))
 (.loop (jmV s r) (fun kk=>((0:Int),big)) fun z0 =>
 .br
 (.ob (.br
 (.br
 (.next)
 (.br
 (.brB
 (.brB
 (.exit (.obT (.rc)))
 (.brB
 (.br
 (.exit (.obT (.rc)))
 (.br
 (.exit (.obT (.rc)))
 (.next)))
 (.next)))
 (.next))
 (.brB
 (.exit (.obT (.rc)))
 (.brB
 (.br
 (.exit (.obT (.rc)))
 (.br
 (.exit (.obT (.rc)))
 (.next)))
 (.next)))))
 (.br
 (.brB
 (.brB
 (.exit (.obT (.rc)))
 (.brB
 (.br
 (.exit (.obT (.rc)))
 (.br
 (.exit (.obT (.rc)))
 (.next)))
 (.next)))
 (.next))
 (.brB
 (.exit (.obT (.rc)))
 (.brB
 (.br
 (.exit (.obT (.rc)))
 (.br
 (.exit (.obT (.rc)))
 (.next)))
 (.next))))))
 (.exit (.obT (.rc)))))
def juI (s:ByteArray) (r:Bool) (h:ze (y72 s) some=some r):jco Tryz.f81 (sp0) (fun gs id _=>match id with
 |0=>some ⟨Int × Nat,fun z=>⟨[(0,.w (.c (.d (.s s)))),(3,.w (.c (.d (.i .i64 z.1))))],[],1⟩,fun z=>(jmV s r).inv z,fun z=>z.2⟩
 |_=>none) [.d (.s s)] [.d (.b r)] :=
 Sk.vc (jwI s r) (by kernel_rfl) h
def juJ:jaf Tryz.prog 81 true (jaK joP jjK):=by
 refine jaU (sp:=sp0) (fn:=Tryz.f81) (body:=bodyOf Tryz.f81) mixed jau Tryz.func81 (by kernel_rfl) (by kernel_rfl) fun as_ ob rs h ho=>?_;unfold jjK at h;split at h
 ·rename_i s;cases h;exact⟨zj rfl,_,_,juI s _ (jar ho)⟩
 ·cases h
def sp_81_ok {sp:jaa} (h:jac Tryz.prog sp):jac Tryz.prog (sp_81 sp):=jap juJ h
def y152:List (Option Cont):=[none]
def y24 (sB0 sB1 sB2 sA0 sA1 x0:Int):Option (Int ⊕ (Unit ⊕ Unit)) :=
 if x0<(↑(zg [sB0,sB1,sB2,sA0,sA1]):Int)then
  if 0<=x0∧x0<(↑(zg [sB0,sB1,sB2,sA0,sA1]):Int)then
  if zf x0<zg [sB0,sB1,sB2,sA0,sA1]then
   ze (y11 (za [sB0,sB1,sB2,sA0,sA1] x0.toNat (0:Int)) (-32768:Int) (32768:Int)) fun r0 =>
   if(!r0)=true then
   some (.inr ((.inl ())))
   else
   some (.inl (wrap .i64 (x0+1)))
  else none
  else none
 else
  some (.inr ((.inr ())))
def jiE (u5:Unit):Option Int :=
 some (2:Int)
def jiF (u6:Unit):Option Int :=
 some (0:Int)
def y146:(Unit ⊕ Unit)->Option Int :=
 (qZ (jiE) (jiF))
def y31 (sB0 sB1 sB2 sA0 sA1:Int):Option Int :=
 ze (jag (y24 sB0 sB1 sB2 sA0 sA1) big (0:Int)) (y146)
def y97:List A->Option (Prop × List RV)
 |[.s [.i .i64 sB0,.i .i64 sB1,.i .i64 sB2,.i .i64 sA0,.i .i64 sA1]]=>some (ok (y31 sB0 sB1 sB2 sA0 sA1),[.d (.i .i64 ((val (y31 sB0 sB1 sB2 sA0 sA1))))])
 |_=>none
abbrev sp_162:jaa->jaa:=jaG 162 true (jaK y152 y97)
abbrev y147 (sB0 sB1 sB2 sA0 sA1 r:Int):Lp (Int × Nat) Int (Unit ⊕ Unit) Int Int :=
 ⟨fun z=>z.1,fun z=>z.2,fun z x n=>(x,n),fun z=>y24 sB0 sB1 sB2 sA0 sA1,fun z=>y146,fun z=>top r,fun z=>0,[.c fun vv=>vv.1,.c fun _=>[sB0,sB1,sB2,sA0,sA1]]⟩
def jlh (sB0 sB1 sB2 sA0 sA1 r:Int):Sk (top r) (y31 sB0 sB1 sB2 sA0 sA1) :=
 .obC ((0:Int)<=0∧(0:Int)<3) (by decide) (.obC ((0:Int)<=1∧(1:Int)<3) (by decide) (.obC ((0:Int)<=2∧(2:Int)<3) (by decide) (.obC ((0:Int)<=0∧(0:Int)<2) (by decide) (.obC ((0:Int)<=1∧(1:Int)<2) (by decide) (.loop (y147 sB0 sB1 sB2 sA0 sA1 r) (fun kk=>((0:Int),big)) fun z0 =>
 .br
 (.ob (.ob (.call (.brB
 (.exit (.obT (.rc)))
 (.next)))))
 (.exit (.obT (.rc))))))))
def jkj (sB0 sB1 sB2 sA0 sA1 r:Int) (h:ze (y31 sB0 sB1 sB2 sA0 sA1) some=some r):jco Tryz.f162 ((sp_45 sp0)) (fun gs id _=>match id with
 |0=>some ⟨Int × Nat,fun z=>⟨[(3,.w (.c (.o 1))),(4,.w (.c (.d (.i .i64 z.1))))],[(1,.row 3 (.ints .i64 ([sB0,sB1,sB2,sA0,sA1])))],2⟩,fun z=>(y147 sB0 sB1 sB2 sA0 sA1 r).inv z,fun z=>z.2⟩
 |_=>none) [.s [.i .i64 sB0,.i .i64 sB1,.i .i64 sB2,.i .i64 sA0,.i .i64 sA1]] [.d (.i .i64 r)] :=
 Sk.vc (jlh sB0 sB1 sB2 sA0 sA1 r) (by kernel_rfl) h
def jkk:jaf Tryz.prog 162 true (jaK y152 y97):=by
 refine jaU (sp:=(sp_45 sp0)) (fn:=Tryz.f162) (body:=bodyOf Tryz.f162) mixed (sp_45_ok jau) Tryz.func162 (by kernel_rfl) (by kernel_rfl) fun as_ ob rs h ho=>?_;unfold y97 at h;split at h
 ·rename_i sB0 sB1 sB2 sA0 sA1;cases h;exact⟨zj rfl,_,_,jkj sB0 sB1 sB2 sA0 sA1 _ (jar ho)⟩
 ·cases h
def sp_162_ok {sp:jaa} (h:jac Tryz.prog sp):jac Tryz.prog (sp_162 sp):=jap jkk h
def y153:List (Option Cont):=[some (.recs 5 [])]
def y25 (c:List (List Int)) (x0:Int):Option (Int ⊕ ((Int × Int) ⊕ Unit)) :=
 if x0<(↑c.length:Int)then
  if 0<=x0∧x0<(↑c.length:Int)then
  if zf x0<zg c then
   ze (y31 (za (za c x0.toNat []) 0 (0:Int)) (za (za c x0.toNat []) 1 (0:Int)) (za (za c x0.toNat []) 2 (0:Int)) (za (za c x0.toNat []) 3 (0:Int)) (za (za c x0.toNat []) 4 (0:Int))) fun r0 =>
   if(r0 != 0)=true then
   some (.inr ((.inl (x0,r0))))
   else
   some (.inl (wrap .i64 (x0+1)))
  else none
  else none
 else
  some (.inr ((.inr ())))
def jiG (u5:Int × Int):Option (Int × Int) :=
 some (u5.1,u5.2)
def jiH (u6:Unit):Option (Int × Int) :=
 some (((0:Int),0))
def y148:((Int × Int) ⊕ Unit)->Option (Int × Int) :=
 (qZ (jiG) (jiH))
def y15 (c:List (List Int)):Option (Int × Int) :=
 if(↑c.length:Int)>6 then
  some (((0:Int),8))
 else
  ze (jag (y25 c) big (0:Int)) (y148)
def y98:List A->Option (Prop × List RV)
 |[.r (.recs 5 c)]=>some (ok (y15 c),[.d (.i .i64 ((val (y15 c)).1)),.d (.i .i64 ((val (y15 c)).2))])
 |_=>none
abbrev sp_131:jaa->jaa:=jaG 131 true (jaK y153 y98)
abbrev y149 (c:List (List Int)) (r:Int × Int):Lp (Int × Nat) Int (((Int × Int) ⊕ Unit)) (Int × Int) (Int × Int) :=
 ⟨fun z=>z.1,fun z=>z.2,fun z x n=>(x,n),fun z=>y25 c,fun z=>y148,fun z=>top r,fun z=>0,[.c fun vv=>vv.1,.c fun _=>c]⟩
def jli (c:List (List Int)) (r:Int × Int):Sk (top r) (y15 c) :=
 .br
 (.obT (.obT (.rc)))
 (.loop (y149 c r) (fun kk=>((0:Int),big)) fun z0 =>
 .br
 (.ob (.ob (.call (.brB
 (.exit (.obT (.obT (.rc))))
 (.next)))))
 (.exit (.obT (.obT (.rc)))))
def jkl (c:List (List Int)) (r:Int × Int) (h:ze (y15 c) some=some r):jco Tryz.f131 ((sp_162 sp0)) (fun gs id _=>match id with
 |0=>some ⟨Int × Nat,fun z=>⟨[(0,.w (.c (.o 0))),(4,.w (.c (.d (.i .i64 z.1))))],[(0,.ext (.recs 5 c))],1⟩,fun z=>(y149 c r).inv z,fun z=>z.2⟩
 |_=>none) [.r (.recs 5 c)] [.d (.i .i64 r.1),.d (.i .i64 r.2)] :=
 Sk.vc (jli c r) (by kernel_rfl) h
def jkm:jaf Tryz.prog 131 true (jaK y153 y98):=by
 refine jaU (sp:=(sp_162 sp0)) (fn:=Tryz.f131) (body:=bodyOf Tryz.f131) mixed (sp_162_ok jau) Tryz.func131 (by kernel_rfl) (by kernel_rfl) fun as_ ob rs h ho=>?_;unfold y98 at h;split at h
 ·rename_i c;cases h;exact⟨zj rfl,_,_,jkl c _ (jar ho)⟩
 ·cases h
def sp_131_ok {sp:jaa} (h:jac Tryz.prog sp):jac Tryz.prog (sp_131 sp):=jap jkm h
end Go.Sh
end

section
namespace Go.Sh
open Go Go.Proofs Go.RowKit Go.Sx
open Go.IntKind (wrap)
def jf2:List SV:=[.a [.d,.x (.st zS [])],.c (.d)]
def y63 (u1:List (List NC)) (i x0:Int):Option (Int ⊕ (Unit ⊕ Unit)) :=
 if x0<i then
  if 0<=x0∧x0<(↑u1.length:Int)then
  if zf x0<zg u1 then
   if(nS u1 x0.toNat (0:Nat)==nS u1 i.toNat (0:Nat))=true then
   some (.inr ((.inl ())))
   else
   some (.inl (wrap .i64 (x0+1)))
  else none
  else none
 else
  some (.inr ((.inr ())))
def jnv (u1:List (List NC)) (i:Int) (u5:Unit):Option Int :=
 some (5:Int)
def y5 (u1:List (List NC)) (i x1:Int):Option (Int ⊕ (Unit ⊕ Unit)) :=
 if x1<(↑(zg (nL u1 i.toNat (2:Nat))):Int)then
  if 0<=x1∧x1<(↑(zg (nL u1 i.toNat (2:Nat))):Int)then
  if zf x1<zg (nL u1 i.toNat (2:Nat))then
   ze (y11 (za (nL u1 i.toNat (2:Nat)) x1.toNat (0:Int)) (0:Int) (wrap .i64 ((↑u1.length:Int)-1))) fun r3 =>
   if(!r3)=true then
   some (.inr ((.inl ())))
   else
   some (.inl (wrap .i64 (x1+1)))
  else none
  else none
 else
  some (.inr ((.inr ())))
def jnw (u1:List (List NC)) (i:Int) (u11:Unit):Option Int :=
 some (6:Int)
def y44 (u1:List (List NC)) (i x2:Int):Option (Int ⊕ (Unit ⊕ Unit)) :=
 if x2<(↑(zg (nL u1 i.toNat (2:Nat))):Int)then
  if 0<=qK none (0:Int)∧qK none 0<=qK (some x2) (↑(zg (nL u1 i.toNat (2:Nat))):Int)∧qK (some x2) (↑(zg (nL u1 i.toNat (2:Nat))):Int)<=(↑(zg (nL u1 i.toNat (2:Nat))):Int)then
  if 0<=x2∧x2<(↑(zg (nL u1 i.toNat (2:Nat))):Int)then
   if zf x2<zg (nL u1 i.toNat (2:Nat))then
   ze (jfz (fi (zf (qK (some x2) (↑(zg (nL u1 i.toNat (2:Nat))):Int))-0) (fj (0:Nat) (nL u1 i.toNat (2:Nat)))) (za (nL u1 i.toNat (2:Nat)) x2.toNat (0:Int))) fun r5 =>
   if(r5)=true then
    some (.inr ((.inl ())))
   else
    some (.inl (wrap .i64 (x2+1)))
   else none
  else none
  else none
 else
  some (.inr ((.inr ())))
def jnx (u1:List (List NC)) (i:Int) (u48:Unit):Option Int :=
 some (26:Int)
def y64 (u1:List (List NC)) (i x3:Int):Option (Int ⊕ (Unit ⊕ Unit)) :=
 if x3<(↑(zg (nL u1 i.toNat (3:Nat))):Int)then
  if 0<=x3∧x3<(↑(zg (nL u1 i.toNat (3:Nat))):Int)then
  if zf x3<zg (nL u1 i.toNat (3:Nat))then
   ze (y11 (za (nL u1 i.toNat (3:Nat)) x3.toNat (0:Int)) (0:Int) (64:Int)) fun r6 =>
   if(!r6)=true then
   some (.inr ((.inl ())))
   else
   some (.inl (wrap .i64 (x3+1)))
  else none
  else none
 else
  some (.inr ((.inr ())))
def jny (u1:List (List NC)) (i:Int) (u71:Unit):Option Int :=
 some (2:Int)
def y45 (u1:List (List NC)) (i x4:Int):Option (Int ⊕ (Unit ⊕ Unit)) :=
 if x4<(↑(zg (nL u1 i.toNat (4:Nat))):Int)then
  if 0<=x4∧x4<(↑(zg (nL u1 i.toNat (4:Nat))):Int)then
  if zf x4<zg (nL u1 i.toNat (4:Nat))then
   ze (y11 (za (nL u1 i.toNat (4:Nat)) x4.toNat (0:Int)) (-4000:Int) (4000:Int)) fun r7 =>
   if(!r7)=true then
   some (.inr ((.inl ())))
   else
   some (.inl (wrap .i64 (x4+1)))
  else none
  else none
 else
  some (.inr ((.inr ())))
def jnz (u1:List (List NC)) (i:Int) (u72:Unit):Option Int :=
 some (2:Int)
def y118 (u1:List (List NC)) (i:Int) (u73:Unit):Option Int :=
 ze (y11 (nI u1 i.toNat (5:Nat)) (0:Int) (64:Int)) fun r8 =>
 if(!r8)=true then
  some (2:Int)
 else
  if(nI u1 i.toNat (1:Nat)!=2)=true then
  if(nI u1 i.toNat (5:Nat)!=0)=true then
   some (2:Int)
  else
   if(nI u1 i.toNat (1:Nat)!=3)=true then
   if(↑(zg (nR u1 i.toNat (6:Nat))):Int)>0 then
    some (10:Int)
   else
    some (0:Int)
   else
   ze (y15 (nR u1 i.toNat (6:Nat))) fun r9 =>
   some r9.2
  else
  if(nI u1 i.toNat (1:Nat)!=3)=true then
   if(↑(zg (nR u1 i.toNat (6:Nat))):Int)>0 then
   some (10:Int)
   else
   some (0:Int)
  else
   ze (y15 (nR u1 i.toNat (6:Nat))) fun r9 =>
   some r9.2
def je8 (u1:List (List NC)) (i:Int):(Unit ⊕ Unit)->Option Int :=
 (qZ (jnz u1 i) (y118 u1 i))
def y119 (u1:List (List NC)) (i:Int) (u74:Unit):Option Int :=
 ze (jag (y45 u1 i) big (0:Int)) (je8 u1 i)
def jiI (u1:List (List NC)) (i:Int):(Unit ⊕ Unit)->Option Int :=
 (qZ (jny u1 i) (y119 u1 i))
def y120 (u1:List (List NC)) (i:Int) (u49:Unit):Option Int :=
 ze (jag (y64 u1 i) big (0:Int)) (jiI u1 i)
def y107 (u1:List (List NC)) (i:Int):(Unit ⊕ Unit)->Option Int :=
 (qZ (jnx u1 i) (y120 u1 i))
def y121 (u1:List (List NC)) (i:Int) (u45:Unit):Option Int :=
 ze (y11 (nI u1 i.toNat (7:Nat)) (-1:Int) (wrap .i64 ((↑u1.length:Int)-1))) fun r4 =>
 if(!r4)=true then
  some (6:Int)
 else
  ze (jag (y44 u1 i) big (0:Int)) (y107 u1 i)
def y12 (u1:List (List NC)) (i:Int):(Unit ⊕ Unit)->Option Int :=
 (qZ (jnw u1 i) (y121 u1 i))
def y88 (u1:List (List NC)) (i:Int) (u6:Unit):Option Int :=
 ze (y11 (nI u1 i.toNat (1:Nat)) (0:Int) (4:Int)) fun r1 =>
 if(!r1)=true then
  some (15:Int)
 else
  if(nI u1 i.toNat (1:Nat)==0)=true then
  if(nI u1 i.toNat (1:Nat)==1)=true then
   if(nI u1 i.toNat (1:Nat)==1)=true then
   ze (y11 (↑(zg (nL u1 i.toNat (2:Nat))):Int) (0:Int) (6:Int)) fun r2 =>
   if(!r2)=true then
    some (10:Int)
   else
    if((↑(zg (nL u1 i.toNat (3:Nat))):Int)!=(↑(zg (nL u1 i.toNat (2:Nat))):Int))=true then
    some (10:Int)
    else
    if((↑(zg (nL u1 i.toNat (4:Nat))):Int)!=(↑(zg (nL u1 i.toNat (2:Nat))):Int))=true then
     some (10:Int)
    else
     ze (jag (y5 u1 i) big (0:Int)) (y12 u1 i)
   else
   ze (y11 (↑(zg (nL u1 i.toNat (2:Nat))):Int) (0:Int) (6:Int)) fun r2 =>
   if(!r2)=true then
    some (10:Int)
   else
    if((↑(zg (nL u1 i.toNat (3:Nat))):Int)!=(↑(zg (nL u1 i.toNat (2:Nat))):Int))=true then
    some (10:Int)
    else
    if((↑(zg (nL u1 i.toNat (4:Nat))):Int)!=0)=true then
     some (10:Int)
    else
     ze (jag (y5 u1 i) big (0:Int)) (y12 u1 i)
  else
   if(nI u1 i.toNat (1:Nat)==1)=true then
   ze (y11 (↑(zg (nL u1 i.toNat (2:Nat))):Int) (0:Int) (0:Int)) fun r10 =>
   if(!r10)=true then
    some (10:Int)
   else
    if((↑(zg (nL u1 i.toNat (3:Nat))):Int)!=(↑(zg (nL u1 i.toNat (2:Nat))):Int))=true then
    some (10:Int)
    else
    if((↑(zg (nL u1 i.toNat (4:Nat))):Int)!=(↑(zg (nL u1 i.toNat (2:Nat))):Int))=true then
     some (10:Int)
    else
     ze (jag (y5 u1 i) big (0:Int)) (y12 u1 i)
   else
   ze (y11 (↑(zg (nL u1 i.toNat (2:Nat))):Int) (0:Int) (0:Int)) fun r10 =>
   if(!r10)=true then
    some (10:Int)
   else
    if((↑(zg (nL u1 i.toNat (3:Nat))):Int)!=(↑(zg (nL u1 i.toNat (2:Nat))):Int))=true then
    some (10:Int)
    else
    if((↑(zg (nL u1 i.toNat (4:Nat))):Int)!=0)=true then
     some (10:Int)
    else
     ze (jag (y5 u1 i) big (0:Int)) (y12 u1 i)
  else
  if(nI u1 i.toNat (1:Nat)==1)=true then
   if(nI u1 i.toNat (1:Nat)==1)=true then
   ze (y11 (↑(zg (nL u1 i.toNat (2:Nat))):Int) (1:Int) (6:Int)) fun r11 =>
   if(!r11)=true then
    some (10:Int)
   else
    if((↑(zg (nL u1 i.toNat (3:Nat))):Int)!=(↑(zg (nL u1 i.toNat (2:Nat))):Int))=true then
    some (10:Int)
    else
    if((↑(zg (nL u1 i.toNat (4:Nat))):Int)!=(↑(zg (nL u1 i.toNat (2:Nat))):Int))=true then
     some (10:Int)
    else
     ze (jag (y5 u1 i) big (0:Int)) (y12 u1 i)
   else
   ze (y11 (↑(zg (nL u1 i.toNat (2:Nat))):Int) (1:Int) (6:Int)) fun r11 =>
   if(!r11)=true then
    some (10:Int)
   else
    if((↑(zg (nL u1 i.toNat (3:Nat))):Int)!=(↑(zg (nL u1 i.toNat (2:Nat))):Int))=true then
    some (10:Int)
    else
    if((↑(zg (nL u1 i.toNat (4:Nat))):Int)!=0)=true then
     some (10:Int)
    else
     ze (jag (y5 u1 i) big (0:Int)) (y12 u1 i)
  else
   if(nI u1 i.toNat (1:Nat)==1)=true then
   ze (y11 (↑(zg (nL u1 i.toNat (2:Nat))):Int) (1:Int) (1:Int)) fun r12 =>
   if(!r12)=true then
    some (10:Int)
   else
    if((↑(zg (nL u1 i.toNat (3:Nat))):Int)!=(↑(zg (nL u1 i.toNat (2:Nat))):Int))=true then
    some (10:Int)
    else
    if((↑(zg (nL u1 i.toNat (4:Nat))):Int)!=(↑(zg (nL u1 i.toNat (2:Nat))):Int))=true then
     some (10:Int)
    else
     ze (jag (y5 u1 i) big (0:Int)) (y12 u1 i)
   else
   ze (y11 (↑(zg (nL u1 i.toNat (2:Nat))):Int) (1:Int) (1:Int)) fun r12 =>
   if(!r12)=true then
    some (10:Int)
   else
    if((↑(zg (nL u1 i.toNat (3:Nat))):Int)!=(↑(zg (nL u1 i.toNat (2:Nat))):Int))=true then
    some (10:Int)
    else
    if((↑(zg (nL u1 i.toNat (4:Nat))):Int)!=0)=true then
     some (10:Int)
    else
     ze (jag (y5 u1 i) big (0:Int)) (y12 u1 i)
def je9 (u1:List (List NC)) (i:Int):(Unit ⊕ Unit)->Option Int :=
 (qZ (jnv u1 i) (y88 u1 i))
def y73 (u4:ByteArray) (u1:List (List NC)) (i:Int):Option Int :=
 if 0<=i∧i<(↑u1.length:Int)then
  if zf i<zg u1 then
  ze (y72 (nS u1 i.toNat (0:Nat))) fun r0 =>
  if(!r0)=true then
   some (4:Int)
  else
   if(nS u1 i.toNat (0:Nat)==qi #[(115:UInt8),(116:UInt8),(97:UInt8),(110:UInt8),(100:UInt8)])=true then
   some (4:Int)
   else
   ze (jag (y63 u1 i) big (0:Int)) (je9 u1 i)
  else none
 else none
def jf3:List Lf->Option GT
 |[.d (.s u4),.x (.st [.s,.i .i64,.ints .i64,.ints .i64,.ints .i64,.i .i64,.recs 5,.i .i64] u1),.d (.i .i64 i)]=>some (.leaf (ok (y73 u4 u1 i)) [.c (.d (.i .i64 ((val (y73 u4 u1 i)))))])
 |_=>none
abbrev sp_82:jaa->jaa:=jaG 82 true (jai jf2 jf3)
abbrev jiJ (u4:ByteArray) (u1:List (List NC)) (i r:Int):Lp (Int × Nat) Int (Unit ⊕ Unit) Int Int :=
 ⟨fun z=>z.1,fun z=>z.2,fun z x n=>(x,n),fun z=>y63 u1 i,fun z=>je9 u1 i,fun z=>top r,fun z=>0,[.c fun _=>i,.c fun _=>0,.c fun _=>0,.c fun vv=>vv.1,.c fun _=>u4,.c fun _=>nS u1 i.toNat (0:Nat),.c fun _=>nI u1 i.toNat (1:Nat),.c fun _=>nI u1 i.toNat (5:Nat),.c fun _=>nI u1 i.toNat (7:Nat),.c fun _=>u1,.c fun _=>nL u1 i.toNat (2:Nat),.c fun _=>nL u1 i.toNat (3:Nat),.c fun _=>nL u1 i.toNat (4:Nat),.c fun _=>nR u1 i.toNat (6:Nat)]⟩
abbrev jiK (u4:ByteArray) (u1:List (List NC)) (i r:Int):Lp (Unit × Int × Nat) Int (Unit ⊕ Unit) Int Int :=
 ⟨fun z=>z.2.1,fun z=>z.2.2,fun z x n=>((),x,n),fun z=>y5 u1 i,fun z=>y12 u1 i,fun z=>top r,fun z=>0,[.c fun _=>0,.c fun _=>0,.c fun vv=>vv.2.1,.c fun _=>u4,.c fun _=>nS u1 i.toNat (0:Nat),.c fun _=>nI u1 i.toNat (1:Nat),.c fun _=>nI u1 i.toNat (5:Nat),.c fun _=>nI u1 i.toNat (7:Nat),.c fun _=>u1,.c fun _=>nL u1 i.toNat (2:Nat),.c fun _=>nL u1 i.toNat (3:Nat),.c fun _=>nL u1 i.toNat (4:Nat),.c fun _=>nR u1 i.toNat (6:Nat)]⟩
abbrev jiL (u4:ByteArray) (u1:List (List NC)) (i r:Int):Lp (Unit × Unit × Int × Nat) Int (Unit ⊕ Unit) Int Int :=
 ⟨fun z=>z.2.2.1,fun z=>z.2.2.2,fun z x n=>((),(),x,n),fun z=>y44 u1 i,fun z=>y107 u1 i,fun z=>top r,fun z=>0,[.c fun _=>0,.c fun vv=>vv.2.2.1,.c fun _=>nS u1 i.toNat (0:Nat),.c fun _=>nI u1 i.toNat (1:Nat),.c fun _=>nI u1 i.toNat (5:Nat),.c fun _=>nI u1 i.toNat (7:Nat),.c fun _=>nL u1 i.toNat (2:Nat),.c fun _=>nL u1 i.toNat (3:Nat),.c fun _=>nL u1 i.toNat (4:Nat),.c fun _=>nR u1 i.toNat (6:Nat)]⟩
abbrev jiM (u4:ByteArray) (u1:List (List NC)) (i r:Int):Lp (Unit × Unit × Unit × Int × Nat) Int (Unit ⊕ Unit) Int Int :=
 ⟨fun z=>z.2.2.2.1,fun z=>z.2.2.2.2,fun z x n=>((),(),(),x,n),fun z=>y64 u1 i,fun z=>jiI u1 i,fun z=>top r,fun z=>0,[.c fun _=>0,.c fun vv=>vv.2.2.2.1,.c fun _=>nS u1 i.toNat (0:Nat),.c fun _=>nI u1 i.toNat (1:Nat),.c fun _=>nI u1 i.toNat (5:Nat),.c fun _=>nI u1 i.toNat (7:Nat),.c fun _=>nL u1 i.toNat (2:Nat),.c fun _=>nL u1 i.toNat (3:Nat),.c fun _=>nL u1 i.toNat (4:Nat),.c fun _=>nR u1 i.toNat (6:Nat)]⟩
abbrev jiN (u4:ByteArray) (u1:List (List NC)) (i r:Int):Lp (Unit × Unit × Unit × Unit × Int × Nat) Int (Unit ⊕ Unit) Int Int :=
 ⟨fun z=>z.2.2.2.2.1,fun z=>z.2.2.2.2.2,fun z x n=>((),(),(),(),x,n),fun z=>y45 u1 i,fun z=>je8 u1 i,fun z=>top r,fun z=>0,[.c fun _=>0,.c fun vv=>vv.2.2.2.2.1,.c fun _=>nS u1 i.toNat (0:Nat),.c fun _=>nI u1 i.toNat (1:Nat),.c fun _=>nI u1 i.toNat (5:Nat),.c fun _=>nI u1 i.toNat (7:Nat),.c fun _=>nL u1 i.toNat (2:Nat),.c fun _=>nL u1 i.toNat (3:Nat),.c fun _=>nL u1 i.toNat (4:Nat),.c fun _=>nR u1 i.toNat (6:Nat)]⟩
def jpX (u4:ByteArray) (u1:List (List NC)) (i r:Int):Sk (top r) (ze (jag (y45 u1 i) big (0:Int)) (je8 u1 i)) :=
 .loop (jiN u4 u1 i r) (fun kk=>((),(),(),(),0,big)) fun z0 =>
 .br
 (.ob (.ob (.call (.brB
 (.exit (.obT (.rc)))
 (.next)))))
 (.exit (.call (.brB
 (.obT (.rc))
 (.brB
 (.brB
 (.obT (.rc))
 (.brB
 (.br
 (.obT (.rc))
 (.obT (.rc)))
 (.call (.obT (.rc)))))
 (.brB
 (.br
 (.obT (.rc))
 (.obT (.rc)))
 (.call (.obT (.rc))))))))
def jpY (u4:ByteArray) (u1:List (List NC)) (i r:Int):Sk (top r) (ze (jag (y44 u1 i) big (0:Int)) (y107 u1 i)) :=
 .loop (jiL u4 u1 i r) (fun kk=>((),(),0,big)) fun z0 =>
 .br
 (.ob (.ob (.ob (.call (.brB
 (.exit (.obT (.rc)))
 (.next))))))
 (.exit (.loop (jiM u4 u1 i r) (fun kk=>((),(),(),0,big)) fun z0 =>
 .br
 (.ob (.ob (.call (.brB
 (.exit (.obT (.rc)))
 (.next)))))
 (.exit (jpX u4 u1 i r))))
def y32 (u4:ByteArray) (u1:List (List NC)) (i r:Int):Sk (top r) (ze (jag (y5 u1 i) big (0:Int)) (y12 u1 i)) :=
 .loop (jiK u4 u1 i r) (fun kk=>((),0,big)) fun z0 =>
 .br
 (.ob (.ob (.call (.brB
 (.exit (.obT (.rc)))
 (.next)))))
 (.exit (.call (.brB
 (.obT (.rc))
 (jpY u4 u1 i r))))
def jpZ (u4:ByteArray) (u1:List (List NC)) (i r:Int):Sk (top r) (y88 u1 i ()) :=
 .call (.brB
 (.obT (.rc))
 (.brB
 (.brB
 (.brB
 (.call (.brB
 (.obT (.rc))
 (.brB
 (.obT (.rc))
 (.brB
 (.obT (.rc))
 (y32 u4 u1 i r)))))
 (.call (.brB
 (.obT (.rc))
 (.brB
 (.obT (.rc))
 (.brB
 (.obT (.rc))
 (y32 u4 u1 i r))))))
 (.brB
 (.call (.brB
 (.obT (.rc))
 (.brB
 (.obT (.rc))
 (.brB
 (.obT (.rc))
 (y32 u4 u1 i r)))))
 (.call (.brB
 (.obT (.rc))
 (.brB
 (.obT (.rc))
 (.brB
 (.obT (.rc))
 (y32 u4 u1 i r)))))))
 (.brB
 (.brB
 (.call (.brB
 (.obT (.rc))
 (.brB
 (.obT (.rc))
 (.brB
 (.obT (.rc))
 (y32 u4 u1 i r)))))
 (.call (.brB
 (.obT (.rc))
 (.brB
 (.obT (.rc))
 (.brB
 (.obT (.rc))
 (y32 u4 u1 i r))))))
 (.brB
 (.call (.brB
 (.obT (.rc))
 (.brB
 (.obT (.rc))
 (.brB
 (.obT (.rc))
 (y32 u4 u1 i r)))))
 (.call (.brB
 (.obT (.rc))
 (.brB
 (.obT (.rc))
 (.brB
 (.obT (.rc))
 (y32 u4 u1 i r)))))))))
def jrm (u4:ByteArray) (u1:List (List NC)) (i r:Int):Sk (top r) (y73 u4 u1 i) :=
 .ob (.ob (.call (.brB
 (.obT (.rc))
 (.brB
 (.obT (.rc))
 (.loop (jiJ u4 u1 i r) (fun kk=>((0:Int),big)) fun z0 =>
 .br
 (.ob (.ob (.brB
 (.exit (.obT (.rc)))
 (.next))))
 (.exit (jpZ u4 u1 i r)))))))
def jp0 (u4:ByteArray) (u1:List (List NC)) (i r:Int) (h:ze (y73 u4 u1 i) some=some r):jbl Tryz.f82 ((sp_81 (sp_48 (sp_45 (sp_131 sp0))))) (fun gs id _=>match id with
 |0=>some ⟨Int × Nat,fun z=>⟨[(1,.w (.c (.d (.i .i64 i)))),(2,.w (.c (.p 1 0 1 0))),(5,.w (.c (.p 2 0 1 0))),(6,.w (.c (.d (.i .i64 z.1))))],[(1,.box 24 [.d (.s u4),.o 0]),(2,.box 118 [.d (.s (nS u1 i.toNat (0:Nat))),.d (.i .i64 (nI u1 i.toNat (1:Nat))),.o 3,.o 4,.o 5,.d (.i .i64 (nI u1 i.toNat (5:Nat))),.o 6,.d (.i .i64 (nI u1 i.toNat (7:Nat)))]),(0,.xext (XC.st zS u1)),(3,.ext (.ints .i64 (nL u1 i.toNat (2:Nat)))),(4,.ext (.ints .i64 (nL u1 i.toNat (3:Nat)))),(5,.ext (.ints .i64 (nL u1 i.toNat (4:Nat)))),(6,.ext (.recs 5 (nR u1 i.toNat (6:Nat))))],7⟩,fun z=>(jiJ u4 u1 i r).inv z,fun z=>z.2⟩
 |2=>some ⟨Unit × Int × Nat,fun z=>⟨[(2,.w (.c (.p 1 0 1 0))),(5,.w (.c (.p 2 0 1 0))),(10,.w (.c (.d (.i .i64 z.2.1))))],[(1,.box 24 [.d (.s u4),.o 0]),(2,.box 118 [.d (.s (nS u1 i.toNat (0:Nat))),.d (.i .i64 (nI u1 i.toNat (1:Nat))),.o 3,.o 4,.o 5,.d (.i .i64 (nI u1 i.toNat (5:Nat))),.o 6,.d (.i .i64 (nI u1 i.toNat (7:Nat)))]),(0,.xext (XC.st zS u1)),(3,.ext (.ints .i64 (nL u1 i.toNat (2:Nat)))),(4,.ext (.ints .i64 (nL u1 i.toNat (3:Nat)))),(5,.ext (.ints .i64 (nL u1 i.toNat (4:Nat)))),(6,.ext (.recs 5 (nR u1 i.toNat (6:Nat))))],7⟩,fun z=>(jiK u4 u1 i r).inv z,fun z=>z.2.2⟩
 |4=>some ⟨Unit × Unit × Int × Nat,fun z=>⟨[(5,.w (.c (.p 1 0 1 0))),(11,.w (.c (.d (.i .i64 z.2.2.1))))],[(1,.box 118 [.d (.s (nS u1 i.toNat (0:Nat))),.d (.i .i64 (nI u1 i.toNat (1:Nat))),.o 2,.o 3,.o 4,.d (.i .i64 (nI u1 i.toNat (5:Nat))),.o 5,.d (.i .i64 (nI u1 i.toNat (7:Nat)))]),(2,.ext (.ints .i64 (nL u1 i.toNat (2:Nat)))),(3,.ext (.ints .i64 (nL u1 i.toNat (3:Nat)))),(4,.ext (.ints .i64 (nL u1 i.toNat (4:Nat)))),(5,.ext (.recs 5 (nR u1 i.toNat (6:Nat))))],6⟩,fun z=>(jiL u4 u1 i r).inv z,fun z=>z.2.2.2⟩
 |6=>some ⟨Unit × Unit × Unit × Int × Nat,fun z=>⟨[(5,.w (.c (.p 1 0 1 0))),(12,.w (.c (.d (.i .i64 z.2.2.2.1))))],[(1,.box 118 [.d (.s (nS u1 i.toNat (0:Nat))),.d (.i .i64 (nI u1 i.toNat (1:Nat))),.o 2,.o 3,.o 4,.d (.i .i64 (nI u1 i.toNat (5:Nat))),.o 5,.d (.i .i64 (nI u1 i.toNat (7:Nat)))]),(2,.ext (.ints .i64 (nL u1 i.toNat (2:Nat)))),(3,.ext (.ints .i64 (nL u1 i.toNat (3:Nat)))),(4,.ext (.ints .i64 (nL u1 i.toNat (4:Nat)))),(5,.ext (.recs 5 (nR u1 i.toNat (6:Nat))))],6⟩,fun z=>(jiM u4 u1 i r).inv z,fun z=>z.2.2.2.2⟩
 |8=>some ⟨Unit × Unit × Unit × Unit × Int × Nat,fun z=>⟨[(5,.w (.c (.p 1 0 1 0))),(13,.w (.c (.d (.i .i64 z.2.2.2.2.1))))],[(1,.box 118 [.d (.s (nS u1 i.toNat (0:Nat))),.d (.i .i64 (nI u1 i.toNat (1:Nat))),.o 2,.o 3,.o 4,.d (.i .i64 (nI u1 i.toNat (5:Nat))),.o 5,.d (.i .i64 (nI u1 i.toNat (7:Nat)))]),(2,.ext (.ints .i64 (nL u1 i.toNat (2:Nat)))),(3,.ext (.ints .i64 (nL u1 i.toNat (3:Nat)))),(4,.ext (.ints .i64 (nL u1 i.toNat (4:Nat)))),(5,.ext (.recs 5 (nR u1 i.toNat (6:Nat))))],6⟩,fun z=>(jiN u4 u1 i r).inv z,fun z=>z.2.2.2.2.2⟩
 |_=>none) (jbd jf2 [.d (.s u4),.x (.st zS u1),.d (.i .i64 i)]) [.c (.d (.i .i64 r))] :=
 Sk.vc (jrm u4 u1 i r) (by kernel_rfl) h
def jp1:jaf Tryz.prog 82 true (jai jf2 jf3):=by
 refine jaC (sp:=(sp_81 (sp_48 (sp_45 (sp_131 sp0))))) (fn:=Tryz.f82) (body:=bodyOf Tryz.f82) mixed (sp_81_ok (sp_48_ok (sp_45_ok (sp_131_ok jau)))) Tryz.func82 (by kernel_rfl) (by kernel_rfl) fun ls t h ho b hb=>?_;unfold jf3 at h;split at h
 ·rename_i u4 u1 i;cases h;obtain rfl:=jaN hb;exact⟨zj (by kernel_rfl),_,_,jp0 u4 u1 i _ (jar ho)⟩
 ·cases h
def sp_82_ok {sp:jaa} (h:jac Tryz.prog sp):jac Tryz.prog (sp_82 sp):=jap jp1 h
end Go.Sh
end

section
namespace Go.Sh
open Go Go.Proofs Go.RowKit Go.Sx
open Go.IntKind (wrap)
def y122:List SV:=[.a [.d,.x (.st zS [])]]
def y37 (u4:ByteArray) (u1:List (List NC)) (x0:Int):Option (Int ⊕ ((Int × Int) ⊕ Unit)) :=
 if x0<(↑u1.length:Int)then
  ze (y73 u4 u1 x0) fun r1 =>
  if(r1 != 0)=true then
  some (.inr ((.inl (x0,r1))))
  else
  some (.inl (wrap .i64 (x0+1)))
 else
  some (.inr ((.inr ())))
def jkn (u5:Int × Int):Option (Int × Int) :=
 some (u5.1,u5.2)
def jko (u6:Unit):Option (Int × Int) :=
 some (((0:Int),0))
def jgh:((Int × Int) ⊕ Unit)->Option (Int × Int) :=
 (qZ (jkn) (jko))
def y33 (u4:ByteArray) (u1:List (List NC)):Option (Int × Int) :=
 ze (y72 u4) fun r0 =>
 if(!r0)=true then
  some (((0:Int),4))
 else
  if(↑u1.length:Int)>24 then
  some (((0:Int),8))
  else
  ze (jag (y37 u4 u1) big (0:Int)) (jgh)
def y123:List Lf->Option GT
 |[.d (.s u4),.x (.st [.s,.i .i64,.ints .i64,.ints .i64,.ints .i64,.i .i64,.recs 5,.i .i64] u1)]=>some (.leaf (ok (y33 u4 u1)) [.c (.d (.i .i64 ((val (y33 u4 u1)).1))),.c (.d (.i .i64 ((val (y33 u4 u1)).2)))])
 |_=>none
abbrev sp_21:jaa->jaa:=jaG 21 true (jai y122 y123)
abbrev jgi (u4:ByteArray) (u1:List (List NC)) (r:Int × Int):Lp (Int × Nat) Int (((Int × Int) ⊕ Unit)) (Int × Int) (Int × Int) :=
 ⟨fun z=>z.1,fun z=>z.2,fun z x n=>(x,n),fun z=>y37 u4 u1,fun z=>jgh,fun z=>top r,fun z=>0,[.c fun _=>0,.c fun vv=>vv.1,.c fun _=>u4,.c fun _=>u1]⟩
def jnA (u4:ByteArray) (u1:List (List NC)) (r:Int × Int):Sk (top r) (y33 u4 u1) :=
 .call (.brB
 (.obT (.obT (.rc)))
 (.br
 (.obT (.obT (.rc)))
 (.loop (jgi u4 u1 r) (fun kk=>((0:Int),big)) fun z0 =>
 .br
 (.call (.brB
 (.exit (.obT (.obT (.rc))))
 (.next)))
 (.exit (.obT (.obT (.rc)))))))
def jmp (u4:ByteArray) (u1:List (List NC)) (r:Int × Int) (h:ze (y33 u4 u1) some=some r):jbl Tryz.f21 ((sp_81 (sp_82 sp0))) (fun gs id _=>match id with
 |0=>some ⟨Int × Nat,fun z=>⟨[(1,.w (.c (.p 1 0 1 0))),(4,.w (.c (.d (.i .i64 z.1))))],[(1,.box 24 [.d (.s u4),.o 0]),(0,.xext (XC.st zS u1))],2⟩,fun z=>(jgi u4 u1 r).inv z,fun z=>z.2⟩
 |_=>none) (jbd y122 [.d (.s u4),.x (.st zS u1)]) [.c (.d (.i .i64 r.1)),.c (.d (.i .i64 r.2))] :=
 Sk.vc (jnA u4 u1 r) (by kernel_rfl) h
def jmq:jaf Tryz.prog 21 true (jai y122 y123):=by
 refine jaC (sp:=(sp_81 (sp_82 sp0))) (fn:=Tryz.f21) (body:=bodyOf Tryz.f21) mixed (sp_81_ok (sp_82_ok jau)) Tryz.func21 (by kernel_rfl) (by kernel_rfl) fun ls t h ho b hb=>?_;unfold y123 at h;split at h
 ·rename_i u4 u1;cases h;obtain rfl:=jaN hb;exact⟨zj (by kernel_rfl),_,_,jmp u4 u1 _ (jar ho)⟩
 ·cases h
def sp_21_ok {sp:jaa} (h:jac Tryz.prog sp):jac Tryz.prog (sp_21 sp):=jap jmq h
def jh3:List SV:=[.a [.d,.d,.r (.ints .i64 []),.r (.ints .i64 []),.r (.ints .i64 []),.d,.r (.recs 5 []),.d],.c (.d)]
def y99 (u14:ByteArray) (u7:Int) (u13 u12 u10:List Int) (u9:Int) (u15:List (List Int)) (u16 u50:Int):Option Bool :=
 ze (jfz u13 u50) fun r0 =>
 if(r0)=true then
  some true
 else
  some (u16==u50)
def jh4:List Lf->Option GT
 |[.d (.s u14),.d (.i .i64 u7),.r (.ints .i64 u13),.r (.ints .i64 u12),.r (.ints .i64 u10),.d (.i .i64 u9),.r (.recs 5 u15),.d (.i .i64 u16),.d (.i .i64 u50)]=>some (.leaf (ok (y99 u14 u7 u13 u12 u10 u9 u15 u16 u50)) [.c (.d (.b ((val (y99 u14 u7 u13 u12 u10 u9 u15 u16 u50)))))])
 |_=>none
abbrev sp_87:jaa->jaa:=jaG 87 true (jai jh3 jh4)
def juK (u14:ByteArray) (u7:Int) (u13 u12 u10:List Int) (u9:Int) (u15:List (List Int)) (u16 u50:Int) (r:Bool):Sk (top r) (y99 u14 u7 u13 u12 u10 u9 u15 u16 u50) :=
 .call (.brB
 (.obT (.rc))
 (.obT (.rc)))
def jsV (u14:ByteArray) (u7:Int) (u13 u12 u10:List Int) (u9:Int) (u15:List (List Int)) (u16 u50:Int) (r:Bool) (h:ze (y99 u14 u7 u13 u12 u10 u9 u15 u16 u50) some=some r):jbl Tryz.f87 ((sp_48 sp0)) (fun _ _ _=>none) (jbd jh3 [.d (.s u14),.d (.i .i64 u7),.r (.ints .i64 u13),.r (.ints .i64 u12),.r (.ints .i64 u10),.d (.i .i64 u9),.r (.recs 5 u15),.d (.i .i64 u16),.d (.i .i64 u50)]) [.c (.d (.b r))] :=
 Sk.vc (juK u14 u7 u13 u12 u10 u9 u15 u16 u50 r) (by kernel_rfl) h
def jsW:jaf Tryz.prog 87 true (jai jh3 jh4):=by
 refine jaC (sp:=(sp_48 sp0)) (fn:=Tryz.f87) (body:=bodyOf Tryz.f87) mixed (sp_48_ok jau) Tryz.func87 (by kernel_rfl) (by kernel_rfl) fun ls t h ho b hb=>?_;unfold jh4 at h;split at h
 ·rename_i u14 u7 u13 u12 u10 u9 u15 u16 u50;cases h;obtain rfl:=jaN hb;exact⟨zj (by kernel_rfl),_,_,jsV u14 u7 u13 u12 u10 u9 u15 u16 u50 _ (jar ho)⟩
 ·cases h
def sp_87_ok {sp:jaa} (h:jac Tryz.prog sp):jac Tryz.prog (sp_87 sp):=jap jsW h
def jh5:List SV:=[.a [.d,.x (.st zS [])],.c (.r (.ints .i64 [])),.c (.d)]
def y78 (u1:List (List NC)) (u46:List Int) (u36 x0:Int):Option (Int ⊕ (Unit ⊕ Unit)) :=
 if x0<(↑u1.length:Int)then
  if 0<=u36∧u36<(↑u1.length:Int)then
  if zf u36<zg u1 then
   ze (y99 (nS u1 u36.toNat (0:Nat)) (nI u1 u36.toNat (1:Nat)) (nL u1 u36.toNat (2:Nat)) (nL u1 u36.toNat (3:Nat)) (nL u1 u36.toNat (4:Nat)) (nI u1 u36.toNat (5:Nat)) (nR u1 u36.toNat (6:Nat)) (nI u1 u36.toNat (7:Nat)) x0) fun r0 =>
   if(r0)=true then
   ze (jfz u46 x0) fun r1 =>
   if(!r1)=true then
    some (.inr ((.inl ())))
   else
    some (.inl (wrap .i64 (x0+1)))
   else
   some (.inl (wrap .i64 (x0+1)))
  else none
  else none
 else
  some (.inr ((.inr ())))
def jp2 (u5:Unit):Option Bool :=
 some false
def jp3 (u6:Unit):Option Bool :=
 some true
def jlj:(Unit ⊕ Unit)->Option Bool :=
 (qZ (jp2) (jp3))
def jdt (u4:ByteArray) (u1:List (List NC)) (u46:List Int) (u36:Int):Option Bool :=
 ze (jag (y78 u1 u46 u36) big (0:Int)) (jlj)
def jh6:List Lf->Option GT
 |[.d (.s u4),.x (.st [.s,.i .i64,.ints .i64,.ints .i64,.ints .i64,.i .i64,.recs 5,.i .i64] u1),.r (.ints .i64 u46),.d (.i .i64 u36)]=>some (.leaf (ok (jdt u4 u1 u46 u36)) [.c (.d (.b ((val (jdt u4 u1 u46 u36)))))])
 |_=>none
abbrev sp_83:jaa->jaa:=jaG 83 true (jai jh5 jh6)
abbrev jlk (u4:ByteArray) (u1:List (List NC)) (u46:List Int) (u36:Int) (r:Bool):Lp (Int × Nat) Int (Unit ⊕ Unit) Bool Bool :=
 ⟨fun z=>z.1,fun z=>z.2,fun z x n=>(x,n),fun z=>y78 u1 u46 u36,fun z=>jlj,fun z=>top r,fun z=>0,[.c fun _=>u36,.c fun _=>0,.c fun vv=>vv.1,.c fun _=>u46,.c fun _=>u4,.c fun _=>u1]⟩
def juL (u4:ByteArray) (u1:List (List NC)) (u46:List Int) (u36:Int) (r:Bool):Sk (top r) (jdt u4 u1 u46 u36) :=
 .loop (jlk u4 u1 u46 u36 r) (fun kk=>((0:Int),big)) fun z0 =>
 .br
 (.ob (.ob (.call (.brB
 (.call (.brB
 (.exit (.obT (.rc)))
 (.next)))
 (.next)))))
 (.exit (.obT (.rc)))
def jsX (u4:ByteArray) (u1:List (List NC)) (u46:List Int) (u36:Int) (r:Bool) (h:ze (jdt u4 u1 u46 u36) some=some r):jbl Tryz.f83 ((sp_87 (sp_48 sp0))) (fun gs id _=>match id with
 |0=>some ⟨Int × Nat,fun z=>⟨[(1,.w (.c (.o 1))),(2,.w (.c (.d (.i .i64 u36)))),(3,.w (.c (.p 2 0 1 0))),(7,.w (.c (.d (.i .i64 z.1))))],[(1,.ext (.ints .i64 u46)),(2,.box 24 [.d (.s u4),.o 0]),(0,.xext (XC.st zS u1))],3⟩,fun z=>(jlk u4 u1 u46 u36 r).inv z,fun z=>z.2⟩
 |_=>none) (jbd jh5 [.d (.s u4),.x (.st zS u1),.r (.ints .i64 u46),.d (.i .i64 u36)]) [.c (.d (.b r))] :=
 Sk.vc (juL u4 u1 u46 u36 r) (by kernel_rfl) h
def jsY:jaf Tryz.prog 83 true (jai jh5 jh6):=by
 refine jaC (sp:=(sp_87 (sp_48 sp0))) (fn:=Tryz.f83) (body:=bodyOf Tryz.f83) mixed (sp_87_ok (sp_48_ok jau)) Tryz.func83 (by kernel_rfl) (by kernel_rfl) fun ls t h ho b hb=>?_;unfold jh6 at h;split at h
 ·rename_i u4 u1 u46 u36;cases h;obtain rfl:=jaN hb;exact⟨zj (by kernel_rfl),_,_,jsX u4 u1 u46 u36 _ (jar ho)⟩
 ·cases h
def sp_83_ok {sp:jaa} (h:jac Tryz.prog sp):jac Tryz.prog (sp_83 sp):=jap jsY h
def jh7:List SV:=[.a [.d,.x (.st zS [])]]
def y65 (u4:ByteArray) (u1:List (List NC)) (x0:List Int) (x1:(Int × Int)):Option ((Int × Int) ⊕ Int) :=
 if x1.2>=0 then
  ze (jfz x0 x1.2) fun r0 =>
  if(!r0)=true then
  ze (jdt u4 u1 x0 x1.2) fun r1 =>
  if(r1)=true then
   some (.inl ((x1.2,wrap .i64 (x1.2-1))))
  else
   some (.inl ((x1.1,wrap .i64 (x1.2-1))))
  else
  some (.inl ((x1.1,wrap .i64 (x1.2-1))))
 else
  some (.inr x1.1)
def jg0 (x0:List Int) (u11:Int):Option ((List Int) ⊕ (Unit ⊕ (List Int))) :=
 if u11<0 then
  some (.inr ((.inl ())))
 else
  if(zg x0+zg [u11])*8<=140737488355328∧zg x0+zg [u11]<=9223372036854775807 then
  some (.inl (x0++[u11]))
  else none
def y79 (u4:ByteArray) (u1:List (List NC)) (x0:(List Int)):Option ((List Int) ⊕ (Unit ⊕ (List Int))) :=
 if(↑x0.length:Int)<(↑u1.length:Int)then
  ze (jag (y65 u4 u1 x0) big (((-1:Int),wrap .i64 ((↑u1.length:Int)-1)))) (jg0 x0)
 else
  some (.inr (.inr x0))
def jp4 (u5:Unit):Option (List Int × Bool) :=
 some ([],false)
def jp5 (u6:List Int):Option (List Int × Bool) :=
 some (u6,true)
def jg1:(Unit ⊕ (List Int))->Option (List Int × Bool) :=
 (qZ (jp4) (jp5))
def y0 (u4:ByteArray) (u1:List (List NC)):Option (List Int × Bool) :=
 ze (jag (y79 u4 u1) big []) (jg1)
def jh8:List Lf->Option GT
 |[.d (.s u4),.x (.st [.s,.i .i64,.ints .i64,.ints .i64,.ints .i64,.i .i64,.recs 5,.i .i64] u1)]=>some (.leaf (ok (y0 u4 u1)) [.c (.row 3 (.ints .i64 ((val (y0 u4 u1)).1))),.c (.d (.b ((val (y0 u4 u1)).2)))])
 |_=>none
abbrev sp_23:jaa->jaa:=jaG 23 true (jai jh7 jh8)
abbrev jg2 (u4:ByteArray) (u1:List (List NC)) (r:List Int × Bool):Lp (List Int × Nat) (List Int) ((Unit ⊕ (List Int))) (List Int × Bool) (List Int × Bool) :=
 ⟨fun z=>z.1,fun z=>z.2,fun z x n=>(x,n),fun z=>y79 u4 u1,fun z=>jg1,fun z=>top r,fun z=>0,[.c fun _=>0,.c fun _=>u4,.c fun vv=>vv.1,.c fun _=>u1]⟩
abbrev jll (u4:ByteArray) (u1:List (List NC)) (r:List Int × Bool) (m1:Nat):Lp (List Int × Nat × (Int × Int) × Nat) (Int × Int) Int (((List Int) ⊕ (Unit ⊕ (List Int)))) (List Int × Bool) :=
 ⟨fun z=>z.2.2.1,fun z=>z.2.2.2,fun z x n=>(z.1,z.2.1,x,n),fun z=>y65 u4 u1 z.1,fun z=>jg0 z.1,fun z=>(jg2 u4 u1 r).cx (z.1,m1),fun z=>z.2.1,[.c fun _=>0,.c fun vv=>vv.2.2.1.1,.c fun vv=>vv.2.2.1.2,.c fun _=>u4,.c fun vv=>vv.1,.c fun _=>u1]⟩
def jsZ (u4:ByteArray) (u1:List (List NC)) (r:List Int × Bool):Sk (top r) (ze (jag (y79 u4 u1) big []) (jg1)) :=
 .loopQ (jg2 u4 u1 r) [.c fun _=>0,.c fun _=>u4,.p fun vv=>zg vv.1=(0:Nat),.c fun _=>u1] (fun kk=>([],big)) (fun z0 =>
 .br
 (.loop (jll u4 u1 r z0.2) (fun kk=>(z0.1,kk,((-1:Int),wrap .i64 ((↑u1.length:Int)-1)),big)) fun z1 =>
 .br
 (.call (.brB
 (.call (.brB
 (.next)
 (.next)))
 (.next)))
 (.exit (.br
 (.exit (.obT (.obT (.ret (fun r=>(Ob (zg r.1=(0:Nat)) ∧
 (Ob (false=r.2) ∧
 True))) ⟨⟨rfl⟩,⟨⟨rfl⟩,trivial⟩⟩))))
 (.ob (.next)))))
 (.exit (.obT (.obT (.rc))))) (fun _=>⟨rfl,trivial⟩)
def juM (u4:ByteArray) (u1:List (List NC)) (r:List Int × Bool):Sk (top r) (y0 u4 u1) :=
 jsZ u4 u1 r
def js0 (u4:ByteArray) (u1:List (List NC)) (r:List Int × Bool) (h:ze (y0 u4 u1) some=some r):jbl Tryz.f23 ((sp_48 (sp_83 sp0))) (fun gs id _=>match id with
 |0=>some ⟨List Int × Nat,fun z=>⟨[(1,.w (.c (.p 1 0 1 0))),(4,.w (.c (.o 2)))],[(1,.box 24 [.d (.s u4),.o 0]),(2,.row 3 (.ints .i64 z.1)),(0,.xext (XC.st zS u1))],3⟩,fun z=>(jg2 u4 u1 r).inv z,fun z=>z.2⟩
 |2=>some ⟨List Int × Nat × (Int × Int) × Nat,fun z=>⟨[(1,.w (.c (.p 1 0 1 0))),(4,.w (.c (.o 2))),(5,.w (.c (.d (.i .i64 z.2.2.1.1)))),(6,.w (.c (.d (.i .i64 z.2.2.1.2))))],[(1,.box 24 [.d (.s u4),.o 0]),(2,.row 3 (.ints .i64 z.1)),(0,.xext (XC.st zS u1))],3⟩,fun z=>(jll u4 u1 r (gs.getD 0 0)).inv z,fun z=>z.2.2.2⟩
 |_=>none) (jbd jh7 [.d (.s u4),.x (.st zS u1)]) [.c (.row 3 (.ints .i64 r.1)),.c (.d (.b r.2))] :=
 Sk.vc (juM u4 u1 r) (by kernel_rfl) h
def js1:jaf Tryz.prog 23 true (jai jh7 jh8):=by
 refine jaC (sp:=(sp_48 (sp_83 sp0))) (fn:=Tryz.f23) (body:=bodyOf Tryz.f23) mixed (sp_48_ok (sp_83_ok jau)) Tryz.func23 (by kernel_rfl) (by kernel_rfl) fun ls t h ho b hb=>?_;unfold jh8 at h;split at h
 ·rename_i u4 u1;cases h;obtain rfl:=jaN hb;exact⟨zj (by kernel_rfl),_,_,js0 u4 u1 _ (jar ho)⟩
 ·cases h
def sp_23_ok {sp:jaa} (h:jac Tryz.prog sp):jac Tryz.prog (sp_23 sp):=jap js1 h
def jfa:List SV:=[.a [.d,.x (.st zS [])]]
def y66 (u4:ByteArray) (u1:List (List NC)):Option Int :=
 ze (y33 u4 u1) fun r0 =>
 if(r0.2 != 0)=true then
  some r0.2
 else
  ze (y0 u4 u1) fun r1 =>
  if(!r1.2)=true then
  some (19:Int)
  else
  some (0:Int)
def jfb:List Lf->Option GT
 |[.d (.s u4),.x (.st [.s,.i .i64,.ints .i64,.ints .i64,.ints .i64,.i .i64,.recs 5,.i .i64] u1)]=>some (.leaf (ok (y66 u4 u1)) [.c (.d (.i .i64 ((val (y66 u4 u1)))))])
 |_=>none
abbrev sp_22:jaa->jaa:=jaG 22 true (jai jfa jfb)
def jp6 (u4:ByteArray) (u1:List (List NC)) (r:Int):Sk (top r) (y66 u4 u1) :=
 .call (.brB
 (.obT (.rc))
 (.call (.brB
 (.obT (.rc))
 (.obT (.rc)))))
def joQ (u4:ByteArray) (u1:List (List NC)) (r:Int) (h:ze (y66 u4 u1) some=some r):jbl Tryz.f22 ((sp_21 (sp_23 sp0))) (fun _ _ _=>none) (jbd jfa [.d (.s u4),.x (.st zS u1)]) [.c (.d (.i .i64 r))] :=
 Sk.vc (jp6 u4 u1 r) (by kernel_rfl) h
def joR:jaf Tryz.prog 22 true (jai jfa jfb):=by
 refine jaC (sp:=(sp_21 (sp_23 sp0))) (fn:=Tryz.f22) (body:=bodyOf Tryz.f22) mixed (sp_21_ok (sp_23_ok jau)) Tryz.func22 (by kernel_rfl) (by kernel_rfl) fun ls t h ho b hb=>?_;unfold jfb at h;split at h
 ·rename_i u4 u1;cases h;obtain rfl:=jaN hb;exact⟨zj (by kernel_rfl),_,_,joQ u4 u1 _ (jar ho)⟩
 ·cases h
def sp_22_ok {sp:jaa} (h:jac Tryz.prog sp):jac Tryz.prog (sp_22 sp):=jap joR h
end Go.Sh
end

section
namespace Go.Sh
open Go Go.Proofs Go.RowKit Go.Sx
open Go.IntKind (wrap)
def jqS:List (Option Cont):=[some (.ints .i64 [])]
def jp7 (l:List Int) (x0:Int):Option (Int ⊕ (Int ⊕ Unit)) :=
 if x0<(↑l.length:Int)then
  if 0<=x0∧x0<(↑l.length:Int)then
  if zf x0<zg l then
   if(za l x0.toNat (0:Int)!=0)=true then
   some (.inr ((.inl (za l x0.toNat (0:Int)))))
   else
   some (.inl (wrap .i64 (x0+1)))
  else none
  else none
 else
  some (.inr ((.inr ())))
def js2 (u5:Int):Option Int :=
 some u5
def js3 (u6:Unit):Option Int :=
 some (0:Int)
def joS:(Int ⊕ Unit)->Option Int :=
 (qZ (js2) (js3))
def jfc (l:List Int):Option Int :=
 ze (jag (jp7 l) big (0:Int)) (joS)
def jlm:List A->Option (Prop × List RV)
 |[.r (.ints .i64 l)]=>some (ok (jfc l),[.d (.i .i64 ((val (jfc l))))])
 |_=>none
abbrev sp_76:jaa->jaa:=jaG 76 true (jaK jqS jlm)
abbrev joT (l:List Int) (r:Int):Lp (Int × Nat) Int (Int ⊕ Unit) Int Int :=
 ⟨fun z=>z.1,fun z=>z.2,fun z x n=>(x,n),fun z=>jp7 l,fun z=>joS,fun z=>top r,fun z=>0,[.c fun _=>(↑l.length:Int),.c fun vv=>vv.1,.c fun _=>l]⟩
def jyu (l:List Int) (r:Int):Sk (top r) (jfc l) :=
 .loop (joT l r) (fun kk=>((0:Int),big)) fun z0 =>
 .br
 (.ob (.ob (.brB
 (.exit (.obT (.rc)))
 (.next))))
 (.exit (.obT (.rc)))
def jwK (l:List Int) (r:Int) (h:ze (jfc l) some=some r):jco Tryz.f76 (sp0) (fun gs id _=>match id with
 |0=>some ⟨Int × Nat,fun z=>⟨[(5,.w (.c (.o 0))),(6,.w (.c (.d (.i .i64 ((↑l.length:Int)))))),(7,.w (.c (.d (.i .i64 z.1))))],[(0,.ext (.ints .i64 l))],1⟩,fun z=>(joT l r).inv z,fun z=>z.2⟩
 |_=>none) [.r (.ints .i64 l)] [.d (.i .i64 r)] :=
 Sk.vc (jyu l r) (by kernel_rfl) h
def jwL:jaf Tryz.prog 76 true (jaK jqS jlm):=by
 refine jaU (sp:=sp0) (fn:=Tryz.f76) (body:=bodyOf Tryz.f76) mixed jau Tryz.func76 (by kernel_rfl) (by kernel_rfl) fun as_ ob rs h ho=>?_;unfold jlm at h;split at h
 ·rename_i l;cases h;exact⟨zj rfl,_,_,jwK l _ (jar ho)⟩
 ·cases h
def sp_76_ok {sp:jaa} (h:jac Tryz.prog sp):jac Tryz.prog (sp_76 sp):=jap jwL h
def joU:List (Option Cont):=[none]
def y74 (s:ByteArray) (x0:Int):Option (Int ⊕ (Unit ⊕ Unit)) :=
 if x0<(↑(xS s):Int)then
  if 0<=x0∧x0<(↑(xS s):Int)then
  if(↑(qw (qC (qd s) x0.toNat (0:UInt8))):Int)>=97 then
   if(↑(qw (qC (qd s) x0.toNat (0:UInt8))):Int)<=122 then
   some (.inl (wrap .i64 (x0+1)))
   else
   if(↑(qw (qC (qd s) x0.toNat (0:UInt8))):Int)>=65 then
    if(!decide ((↑(qw (qC (qd s) x0.toNat (0:UInt8))):Int)<=90))=true then
    if(x0==0)=true then
     some (.inr ((.inl ())))
    else
     if((↑(qw (qC (qd s) x0.toNat (0:UInt8))):Int)!=45)=true then
     if(↑(qw (qC (qd s) x0.toNat (0:UInt8))):Int)<48 then
      some (.inr ((.inl ())))
     else
      if(↑(qw (qC (qd s) x0.toNat (0:UInt8))):Int)>57 then
      some (.inr ((.inl ())))
      else
      some (.inl (wrap .i64 (x0+1)))
     else
     some (.inl (wrap .i64 (x0+1)))
    else
    some (.inl (wrap .i64 (x0+1)))
   else
    if(x0==0)=true then
    some (.inr ((.inl ())))
    else
    if((↑(qw (qC (qd s) x0.toNat (0:UInt8))):Int)!=45)=true then
     if(↑(qw (qC (qd s) x0.toNat (0:UInt8))):Int)<48 then
     some (.inr ((.inl ())))
     else
     if(↑(qw (qC (qd s) x0.toNat (0:UInt8))):Int)>57 then
      some (.inr ((.inl ())))
     else
      some (.inl (wrap .i64 (x0+1)))
    else
     some (.inl (wrap .i64 (x0+1)))
  else
   if(↑(qw (qC (qd s) x0.toNat (0:UInt8))):Int)>=65 then
   if(!decide ((↑(qw (qC (qd s) x0.toNat (0:UInt8))):Int)<=90))=true then
    if(x0==0)=true then
    some (.inr ((.inl ())))
    else
    if((↑(qw (qC (qd s) x0.toNat (0:UInt8))):Int)!=45)=true then
     if(↑(qw (qC (qd s) x0.toNat (0:UInt8))):Int)<48 then
     some (.inr ((.inl ())))
     else
     if(↑(qw (qC (qd s) x0.toNat (0:UInt8))):Int)>57 then
      some (.inr ((.inl ())))
     else
      some (.inl (wrap .i64 (x0+1)))
    else
     some (.inl (wrap .i64 (x0+1)))
   else
    some (.inl (wrap .i64 (x0+1)))
   else
   if(x0==0)=true then
    some (.inr ((.inl ())))
   else
    if((↑(qw (qC (qd s) x0.toNat (0:UInt8))):Int)!=45)=true then
    if(↑(qw (qC (qd s) x0.toNat (0:UInt8))):Int)<48 then
     some (.inr ((.inl ())))
    else
     if(↑(qw (qC (qd s) x0.toNat (0:UInt8))):Int)>57 then
     some (.inr ((.inl ())))
     else
     some (.inl (wrap .i64 (x0+1)))
    else
    some (.inl (wrap .i64 (x0+1)))
  else none
 else
  some (.inr ((.inr ())))
def jrn (s:ByteArray) (u5:Unit):Option Bool :=
 some false
def jro (s:ByteArray) (u6:Unit):Option Bool :=
 if(s != qi #[])=true then
  some (decide ((↑(xS s):Int)<=12))
 else
  some false
def jh9 (s:ByteArray):(Unit ⊕ Unit)->Option Bool :=
 (qZ (jrn s) (jro s))
def y67 (s:ByteArray):Option Bool :=
 ze (jag (y74 s) big (0:Int)) (jh9 s)
def jjL:List A->Option (Prop × List RV)
 |[.d (.s s)]=>some (ok (y67 s),[.d (.b ((val (y67 s))))])
 |_=>none
abbrev sp_78:jaa->jaa:=jaG 78 true (jaK joU jjL)
abbrev jmW (s:ByteArray) (r:Bool):Lp (Int × Nat) Int (Unit ⊕ Unit) Bool Bool :=
 ⟨fun z=>z.1,fun z=>z.2,fun z x n=>(x,n),fun z=>y74 s,fun z=>jh9 s,fun z=>top r,fun z=>0,[.c fun _=>s,.c fun _=>(↑(xS s):Int),.c fun vv=>vv.1]⟩
def juN (s:ByteArray) (r:Bool):Sk (top r) (ze (jag (y74 s) big (0:Int)) (jh9 s)) :=
 .loop (jmW s r) (fun kk=>((0:Int),big)) fun z0 =>
 .br
 (.ob (.br
 (.br
 (.next)
 (.br
 (.brB
 (.brB
 (.exit (.obT (.rc)))
 (.brB
 (.br
 (.exit (.obT (.rc)))
 (.br
 (.exit (.obT (.rc)))
 (.next)))
 (.next)))
 (.next))
 (.brB
 (.exit (.obT (.rc)))
 (.brB
 (.br
 (.exit (.obT (.rc)))
 (.br
 (.exit (.obT (.rc)))
 (.next)))
 (.next)))))
 (.br
 (.brB
 (.brB
 (.exit (.obT (.rc)))
 (.brB
 (.br
 (.exit (.obT (.rc)))
 (.br
 (.exit (.obT (.rc)))
 (.next)))
 (.next)))
 (.next))
 (.brB
 (.exit (.obT (.rc)))
 (.brB
 (.br
 (.exit (.obT (.rc)))
 (.br
 (.exit (.obT (.rc)))
 (.next)))
 (.next))))))
 (.exit (.brB
 (.obT (.rc))
 (.obT (.rc))))
def jwM (s:ByteArray) (r:Bool):Sk (top r) (y67 s) :=
 juN s r
def juO (s:ByteArray) (r:Bool) (h:ze (y67 s) some=some r):jco Tryz.f78 (sp0) (fun gs id _=>match id with
 |0=>some ⟨Int × Nat,fun z=>⟨[(0,.w (.c (.d (.s s)))),(7,.w (.c (.d (.i .i64 ((↑(xS s):Int)))))),(8,.w (.c (.d (.i .i64 z.1))))],[],1⟩,fun z=>(jmW s r).inv z,fun z=>z.2⟩
 |_=>none) [.d (.s s)] [.d (.b r)] :=
 Sk.vc (jwM s r) (by kernel_rfl) h
def juP:jaf Tryz.prog 78 true (jaK joU jjL):=by
 refine jaU (sp:=sp0) (fn:=Tryz.f78) (body:=bodyOf Tryz.f78) mixed jau Tryz.func78 (by kernel_rfl) (by kernel_rfl) fun as_ ob rs h ho=>?_;unfold jjL at h;split at h
 ·rename_i s;cases h;exact⟨zj rfl,_,_,juO s _ (jar ho)⟩
 ·cases h
def sp_78_ok {sp:jaa} (h:jac Tryz.prog sp):jac Tryz.prog (sp_78 sp):=jap juP h
def jf4:List SV:=[.c (.d),.c (.p [.d,.x (.st zS [])])]
def y50 (n:Int) (u40:ByteArray) (u51:List (List NC)):Option Bool :=
 ze (y30 n (0:Int) (wrap .i64 ((↑u51.length:Int)-1))) fun r0 =>
 some r0
def jf5:List Lf->Option GT
 |[.d (.i .i64 n),.d (.s u40),.x (.st [.s,.i .i64,.ints .i64,.ints .i64,.ints .i64,.i .i64,.recs 5,.i .i64] u51)]=>some (.leaf (ok (y50 n u40 u51)) [.c (.d (.b ((val (y50 n u40 u51)))))])
 |_=>none
abbrev sp_122:jaa->jaa:=jaG 122 true (jai jf4 jf5)
def jrp (n:Int) (u40:ByteArray) (u51:List (List NC)) (r:Bool):Sk (top r) (y50 n u40 u51) :=
 .obT (.call (.obT (.rc)))
def jp8 (n:Int) (u40:ByteArray) (u51:List (List NC)) (r:Bool) (h:ze (y50 n u40 u51) some=some r):jbl Tryz.f122 ((sp_84 sp0)) (fun _ _ _=>none) (jbd jf4 [.d (.i .i64 n),.d (.s u40),.x (.st zS u51)]) [.c (.d (.b r))] :=
 Sk.vc (jrp n u40 u51 r) (by kernel_rfl) h
def jp9:jaf Tryz.prog 122 true (jai jf4 jf5):=by
 refine jaC (sp:=(sp_84 sp0)) (fn:=Tryz.f122) (body:=bodyOf Tryz.f122) mixed (sp_84_ok jau) Tryz.func122 (by kernel_rfl) (by kernel_rfl) fun ls t h ho b hb=>?_;unfold jf5 at h;split at h
 ·rename_i n u40 u51;cases h;obtain rfl:=jaN hb;exact⟨zj (by kernel_rfl),_,_,jp8 n u40 u51 _ (jar ho)⟩
 ·cases h
def sp_122_ok {sp:jaa} (h:jac Tryz.prog sp):jac Tryz.prog (sp_122 sp):=jap jp9 h
def jf6:List SV:=[.c (.d),.c (.p [.f 122 [.p [.d,.x (.st zS [])]]])]
def y75 (n:Int) (u52:ByteArray) (u53:List (List NC)):Option Bool :=
 ze (y50 n u52 u53) fun r0 =>
 some !r0
def jf7:List Lf->Option GT
 |[.d (.i .i64 n),.d (.s u52),.x (.st [.s,.i .i64,.ints .i64,.ints .i64,.ints .i64,.i .i64,.recs 5,.i .i64] u53)]=>some (.leaf (ok (y75 n u52 u53)) [.c (.d (.b ((val (y75 n u52 u53)))))])
 |_=>none
abbrev sp_124:jaa->jaa:=jaG 124 true (jai jf6 jf7)
def jrq (n:Int) (u52:ByteArray) (u53:List (List NC)) (r:Bool):Sk (top r) (y75 n u52 u53) :=
 .obT (.call (.obT (.rc)))
def jqa (n:Int) (u52:ByteArray) (u53:List (List NC)) (r:Bool) (h:ze (y75 n u52 u53) some=some r):jbl Tryz.f124 ((sp_122 sp0)) (fun _ _ _=>none) (jbd jf6 [.d (.i .i64 n),.d (.s u52),.x (.st zS u53)]) [.c (.d (.b r))] :=
 Sk.vc (jrq n u52 u53 r) (by kernel_rfl) h
def jqb:jaf Tryz.prog 124 true (jai jf6 jf7):=by
 refine jaC (sp:=(sp_122 sp0)) (fn:=Tryz.f124) (body:=bodyOf Tryz.f124) mixed (sp_122_ok jau) Tryz.func124 (by kernel_rfl) (by kernel_rfl) fun ls t h ho b hb=>?_;unfold jf7 at h;split at h
 ·rename_i n u52 u53;cases h;obtain rfl:=jaN hb;exact⟨zj (by kernel_rfl),_,_,jqa n u52 u53 _ (jar ho)⟩
 ·cases h
def sp_124_ok {sp:jaa} (h:jac Tryz.prog sp):jac Tryz.prog (sp_124 sp):=jap jqb h
def y53:List SV:=[.c (.r (.ints .i64 [])),.c (.f 124 [.p [.f 122 [.p [.d,.x (.st zS [])]]]])]
def y14 (s:List Int) (u37:ByteArray) (u38:List (List NC)) (x0:Int):Option (Int ⊕ (Int ⊕ Unit)) :=
 if x0<(↑s.length:Int)then
  if 0<=x0∧x0<(↑s.length:Int)then
  if zf x0<zg s then
   ze (y75 (za s x0.toNat (0:Int)) u37 u38) fun r0 =>
   if(r0)=true then
   some (.inr (.inl x0))
   else
   some (.inl (wrap .i64 (x0+1)))
  else none
  else none
 else
  some (.inr ((.inr ())))
def y140 (u5:Int):Option Int :=
 some u5
def y141 (u6:Unit):Option Int :=
 some (-1:Int)
def y82:(Int ⊕ Unit)->Option Int :=
 (qZ (y140) (y141))
def y13 (s:List Int) (u37:ByteArray) (u38:List (List NC)):Option Int :=
 ze (jag (y14 s u37 u38) big (0:Int)) (y82)
def y54:List Lf->Option GT
 |[.r (.ints .i64 s),.d (.s u37),.x (.st [.s,.i .i64,.ints .i64,.ints .i64,.ints .i64,.i .i64,.recs 5,.i .i64] u38)]=>some (.leaf (ok (y13 s u37 u38)) [.c (.d (.i .i64 ((val (y13 s u37 u38)))))])
 |_=>none
abbrev sp_156_124:jaa->jaa:=jaG 156 true (jai y53 y54)
abbrev y83 (s:List Int) (u37:ByteArray) (u38:List (List NC)) (r:Int):Lp (Int × Nat) Int (Int ⊕ Unit) Int Int :=
 ⟨fun z=>z.1,fun z=>z.2,fun z x n=>(x,n),fun z=>y14 s u37 u38,fun z=>y82,fun z=>top r,fun z=>0,[.c fun _=>(↑s.length:Int),.c fun vv=>vv.1,.c fun _=>s,.c fun _=>u37,.c fun _=>u38]⟩
def y161 (s:List Int) (u37:ByteArray) (u38:List (List NC)) (r:Int):Sk (top r) (y13 s u37 u38) :=
 .loop (y83 s u37 u38 r) (fun kk=>((0:Int),big)) fun z0 =>
 .br
 (.ob (.ob (.call (.brB
 (.exit (.obT (.rc)))
 (.next)))))
 (.exit (.obT (.rc)))
def y154 (s:List Int) (u37:ByteArray) (u38:List (List NC)) (r:Int) (h:ze (y13 s u37 u38) some=some r):jbl Tryz.f156 ((sp_124 (sp_122 sp0))) (fun gs id _=>match id with
 |0=>some ⟨Int × Nat,fun z=>⟨[(0,.w (.c (.o 0))),(1,.w (.c (.fn 124 [3]))),(7,.w (.c (.d (.i .i64 ((↑s.length:Int)))))),(8,.w (.c (.d (.i .i64 z.1))))],[(0,.ext (.ints .i64 s)),(3,.ebox [.fn 122 [2]]),(2,.ebox [.d (.s u37),.o 1]),(1,.xext (XC.st zS u38))],4⟩,fun z=>(y83 s u37 u38 r).inv z,fun z=>z.2⟩
 |_=>none) (jbd y53 [.r (.ints .i64 s),.d (.s u37),.x (.st zS u38)]) [.c (.d (.i .i64 r))] :=
 Sk.vc (y161 s u37 u38 r) (by kernel_rfl) h
def y155:jaf Tryz.prog 156 true (jai y53 y54):=by
 refine jaC (sp:=(sp_124 (sp_122 sp0))) (fn:=Tryz.f156) (body:=bodyOf Tryz.f156) mixed (sp_124_ok (sp_122_ok jau)) Tryz.func156 (by kernel_rfl) (by kernel_rfl) fun ls t h ho b hb=>?_;unfold y54 at h;split at h
 ·rename_i s u37 u38;cases h;obtain rfl:=jaN hb;exact⟨zj (by kernel_rfl),_,_,y154 s u37 u38 _ (jar ho)⟩
 ·cases h
def sp_156_124_ok {sp:jaa} (h:jac Tryz.prog sp):jac Tryz.prog (sp_156_124 sp):=jap y155 h
def y39:List SV:=[.c (.r (.ints .i64 [])),.c (.f 124 [.p [.f 122 [.p [.d,.x (.st zS [])]]]])]
def y4 (s:List Int) (u37:ByteArray) (u38:List (List NC)):Option Bool :=
 ze (y13 s u37 u38) fun r0 =>
 some (decide (r0>=0))
def y40:List Lf->Option GT
 |[.r (.ints .i64 s),.d (.s u37),.x (.st [.s,.i .i64,.ints .i64,.ints .i64,.ints .i64,.i .i64,.recs 5,.i .i64] u38)]=>some (.leaf (ok (y4 s u37 u38)) [.c (.d (.b ((val (y4 s u37 u38)))))])
 |_=>none
abbrev sp_123_124:jaa->jaa:=jaG 123 true (jai y39 y40)
def y142 (s:List Int) (u37:ByteArray) (u38:List (List NC)) (r:Bool):Sk (top r) (y4 s u37 u38) :=
 .call (.obT (.rc))
def y128 (s:List Int) (u37:ByteArray) (u38:List (List NC)) (r:Bool) (h:ze (y4 s u37 u38) some=some r):jbl Tryz.f123 ((sp_156_124 (sp_124 (sp_122 sp0)))) (fun _ _ _=>none) (jbd y39 [.r (.ints .i64 s),.d (.s u37),.x (.st zS u38)]) [.c (.d (.b r))] :=
 Sk.vc (y142 s u37 u38 r) (by kernel_rfl) h
def y129:jaf Tryz.prog 123 true (jai y39 y40):=by
 refine jaC (sp:=(sp_156_124 (sp_124 (sp_122 sp0)))) (fn:=Tryz.f123) (body:=bodyOf Tryz.f123) mixed (sp_156_124_ok (sp_124_ok (sp_122_ok jau))) Tryz.func123 (by kernel_rfl) (by kernel_rfl) fun ls t h ho b hb=>?_;unfold y40 at h;split at h
 ·rename_i s u37 u38;cases h;obtain rfl:=jaN hb;exact⟨zj (by kernel_rfl),_,_,y128 s u37 u38 _ (jar ho)⟩
 ·cases h
def sp_123_124_ok {sp:jaa} (h:jac Tryz.prog sp):jac Tryz.prog (sp_123_124 sp):=jap y129 h
def jf8:List SV:=[.a [.d,.d,.r (.ints .i64 []),.r (.ints .i64 []),.r (.ints .i64 []),.d,.r (.recs 5 []),.d],.c (.p [.d,.d,.r (.ints .i64 []),.r (.ints .i64 []),.r (.ints .i64 []),.d,.r (.recs 5 []),.d])]
def y76 (u54:ByteArray) (u55:Int) (u56 u57 u58:List Int) (u59:Int) (u60:List (List Int)) (u61:Int) (u40:ByteArray) (u62:Int) (u63 u64 u65:List Int) (u66:Int) (u67:List (List Int)) (u68:Int):Option Bool :=
 some (u54==u40)
def jf9:List Lf->Option GT
 |[.d (.s u54),.d (.i .i64 u55),.r (.ints .i64 u56),.r (.ints .i64 u57),.r (.ints .i64 u58),.d (.i .i64 u59),.r (.recs 5 u60),.d (.i .i64 u61),.d (.s u40),.d (.i .i64 u62),.r (.ints .i64 u63),.r (.ints .i64 u64),.r (.ints .i64 u65),.d (.i .i64 u66),.r (.recs 5 u67),.d (.i .i64 u68)]=>some (.leaf (ok (y76 u54 u55 u56 u57 u58 u59 u60 u61 u40 u62 u63 u64 u65 u66 u67 u68)) [.c (.d (.b ((val (y76 u54 u55 u56 u57 u58 u59 u60 u61 u40 u62 u63 u64 u65 u66 u67 u68)))))])
 |_=>none
abbrev sp_126:jaa->jaa:=jaG 126 true (jai jf8 jf9)
def jrr (u54:ByteArray) (u55:Int) (u56 u57 u58:List Int) (u59:Int) (u60:List (List Int)) (u61:Int) (u40:ByteArray) (u62:Int) (u63 u64 u65:List Int) (u66:Int) (u67:List (List Int)) (u68:Int) (r:Bool):Sk (top r) (y76 u54 u55 u56 u57 u58 u59 u60 u61 u40 u62 u63 u64 u65 u66 u67 u68) :=
 .obT (.obT (.rc))
def jqc (u54:ByteArray) (u55:Int) (u56 u57 u58:List Int) (u59:Int) (u60:List (List Int)) (u61:Int) (u40:ByteArray) (u62:Int) (u63 u64 u65:List Int) (u66:Int) (u67:List (List Int)) (u68:Int) (r:Bool) (h:ze (y76 u54 u55 u56 u57 u58 u59 u60 u61 u40 u62 u63 u64 u65 u66 u67 u68) some=some r):jbl Tryz.f126 (sp0) (fun _ _ _=>none) (jbd jf8 [.d (.s u54),.d (.i .i64 u55),.r (.ints .i64 u56),.r (.ints .i64 u57),.r (.ints .i64 u58),.d (.i .i64 u59),.r (.recs 5 u60),.d (.i .i64 u61),.d (.s u40),.d (.i .i64 u62),.r (.ints .i64 u63),.r (.ints .i64 u64),.r (.ints .i64 u65),.d (.i .i64 u66),.r (.recs 5 u67),.d (.i .i64 u68)]) [.c (.d (.b r))] :=
 Sk.vc (jrr u54 u55 u56 u57 u58 u59 u60 u61 u40 u62 u63 u64 u65 u66 u67 u68 r) (by kernel_rfl) h
def jqd:jaf Tryz.prog 126 true (jai jf8 jf9):=by
 refine jaC (sp:=sp0) (fn:=Tryz.f126) (body:=bodyOf Tryz.f126) mixed jau Tryz.func126 (by kernel_rfl) (by kernel_rfl) fun ls t h ho b hb=>?_;unfold jf9 at h;split at h
 ·rename_i u54 u55 u56 u57 u58 u59 u60 u61 u40 u62 u63 u64 u65 u66 u67 u68;cases h;obtain rfl:=jaN hb;exact⟨zj (by kernel_rfl),_,_,jqc u54 u55 u56 u57 u58 u59 u60 u61 u40 u62 u63 u64 u65 u66 u67 u68 _ (jar ho)⟩
 ·cases h
def sp_126_ok {sp:jaa} (h:jac Tryz.prog sp):jac Tryz.prog (sp_126 sp):=jap jqd h
def y26:List SV:=[.c (.x (.st zS [])),.c (.f 126 [.p [.d,.d,.r (.ints .i64 []),.r (.ints .i64 []),.r (.ints .i64 []),.d,.r (.recs 5 []),.d]])]
def y3 (s:List (List NC)) (u28:ByteArray) (u29:Int) (u30 u31 u32:List Int) (u33:Int) (u34:List (List Int)) (u35 x0:Int):Option (Int ⊕ (Int ⊕ Unit)) :=
 if x0<(↑s.length:Int)then
  if 0<=x0∧x0<(↑s.length:Int)then
  if zf x0<zg s then
   ze (y76 (nS s x0.toNat (0:Nat)) (nI s x0.toNat (1:Nat)) (nL s x0.toNat (2:Nat)) (nL s x0.toNat (3:Nat)) (nL s x0.toNat (4:Nat)) (nI s x0.toNat (5:Nat)) (nR s x0.toNat (6:Nat)) (nI s x0.toNat (7:Nat)) u28 u29 u30 u31 u32 u33 u34 u35) fun r0 =>
   if(r0)=true then
   some (.inr (.inl x0))
   else
   some (.inl (wrap .i64 (x0+1)))
  else none
  else none
 else
  some (.inr ((.inr ())))
def y100 (u5:Int):Option Int :=
 some u5
def y101 (u6:Unit):Option Int :=
 some (-1:Int)
def y22:(Int ⊕ Unit)->Option Int :=
 (qZ (y100) (y101))
def y7 (s:List (List NC)) (u28:ByteArray) (u29:Int) (u30 u31 u32:List Int) (u33:Int) (u34:List (List Int)) (u35:Int):Option Int :=
 ze (jag (y3 s u28 u29 u30 u31 u32 u33 u34 u35) big (0:Int)) (y22)
def y27:List Lf->Option GT
 |[.x (.st [.s,.i .i64,.ints .i64,.ints .i64,.ints .i64,.i .i64,.recs 5,.i .i64] s),.d (.s u28),.d (.i .i64 u29),.r (.ints .i64 u30),.r (.ints .i64 u31),.r (.ints .i64 u32),.d (.i .i64 u33),.r (.recs 5 u34),.d (.i .i64 u35)]=>some (.leaf (ok (y7 s u28 u29 u30 u31 u32 u33 u34 u35)) [.c (.d (.i .i64 ((val (y7 s u28 u29 u30 u31 u32 u33 u34 u35)))))])
 |_=>none
abbrev sp_157_126:jaa->jaa:=jaG 157 true (jai y26 y27)
abbrev y57 (s:List (List NC)) (u28:ByteArray) (u29:Int) (u30 u31 u32:List Int) (u33:Int) (u34:List (List Int)) (u35 r:Int):Lp (Int × Nat) Int (Int ⊕ Unit) Int Int :=
 ⟨fun z=>z.1,fun z=>z.2,fun z x n=>(x,n),fun z=>y3 s u28 u29 u30 u31 u32 u33 u34 u35,fun z=>y22,fun z=>top r,fun z=>0,[.c fun _=>(↑s.length:Int),.c fun vv=>vv.1,.c fun _=>s,.c fun _=>u28,.c fun _=>u29,.c fun _=>u33,.c fun _=>u35,.c fun _=>u30,.c fun _=>u31,.c fun _=>u32,.c fun _=>u34]⟩
def y111 (s:List (List NC)) (u28:ByteArray) (u29:Int) (u30 u31 u32:List Int) (u33:Int) (u34:List (List Int)) (u35 r:Int):Sk (top r) (ze (jag (y3 s u28 u29 u30 u31 u32 u33 u34 u35) big (0:Int)) (y22)) :=
 .loop (y57 s u28 u29 u30 u31 u32 u33 u34 u35 r) (fun kk=>((0:Int),big)) fun z0 =>
 .br
 (.ob (.ob (.call (.brB
 (.exit (.obT (.rc)))
 (.next)))))
 (.exit (.obT (.rc)))
def y117 (s:List (List NC)) (u28:ByteArray) (u29:Int) (u30 u31 u32:List Int) (u33:Int) (u34:List (List Int)) (u35 r:Int):Sk (top r) (y7 s u28 u29 u30 u31 u32 u33 u34 u35) :=
 y111 s u28 u29 u30 u31 u32 u33 u34 u35 r
def y112 (s:List (List NC)) (u28:ByteArray) (u29:Int) (u30 u31 u32:List Int) (u33:Int) (u34:List (List Int)) (u35 r:Int) (h:ze (y7 s u28 u29 u30 u31 u32 u33 u34 u35) some=some r):jbl Tryz.f157 ((sp_126 sp0)) (fun gs id _=>match id with
 |0=>some ⟨Int × Nat,fun z=>⟨[(0,.w (.c (.o 0))),(1,.w (.c (.fn 126 [5]))),(7,.w (.c (.d (.i .i64 ((↑s.length:Int)))))),(8,.w (.c (.d (.i .i64 z.1))))],[(0,.xext (XC.st zS s)),(5,.ebox [.d (.s u28),.d (.i .i64 u29),.o 1,.o 2,.o 3,.d (.i .i64 u33),.o 4,.d (.i .i64 u35)]),(1,.ext (.ints .i64 u30)),(2,.ext (.ints .i64 u31)),(3,.ext (.ints .i64 u32)),(4,.ext (.recs 5 u34))],6⟩,fun z=>(y57 s u28 u29 u30 u31 u32 u33 u34 u35 r).inv z,fun z=>z.2⟩
 |_=>none) (jbd y26 [.x (.st zS s),.d (.s u28),.d (.i .i64 u29),.r (.ints .i64 u30),.r (.ints .i64 u31),.r (.ints .i64 u32),.d (.i .i64 u33),.r (.recs 5 u34),.d (.i .i64 u35)]) [.c (.d (.i .i64 r))] :=
 Sk.vc (y117 s u28 u29 u30 u31 u32 u33 u34 u35 r) (by kernel_rfl) h
def y113:jaf Tryz.prog 157 true (jai y26 y27):=by
 refine jaC (sp:=(sp_126 sp0)) (fn:=Tryz.f157) (body:=bodyOf Tryz.f157) mixed (sp_126_ok jau) Tryz.func157 (by kernel_rfl) (by kernel_rfl) fun ls t h ho b hb=>?_;unfold y27 at h;split at h
 ·rename_i s u28 u29 u30 u31 u32 u33 u34 u35;cases h;obtain rfl:=jaN hb;exact⟨zj (by kernel_rfl),_,_,y112 s u28 u29 u30 u31 u32 u33 u34 u35 _ (jar ho)⟩
 ·cases h
def sp_157_126_ok {sp:jaa} (h:jac Tryz.prog sp):jac Tryz.prog (sp_157_126 sp):=jap y113 h
def y19:List SV:=[.c (.x (.st zS [])),.c (.f 126 [.p [.d,.d,.r (.ints .i64 []),.r (.ints .i64 []),.r (.ints .i64 []),.d,.r (.recs 5 []),.d]])]
def y1 (s:List (List NC)) (u28:ByteArray) (u29:Int) (u30 u31 u32:List Int) (u33:Int) (u34:List (List Int)) (u35:Int):Option Bool :=
 ze (y7 s u28 u29 u30 u31 u32 u33 u34 u35) fun r0 =>
 some (decide (r0>=0))
def y20:List Lf->Option GT
 |[.x (.st [.s,.i .i64,.ints .i64,.ints .i64,.ints .i64,.i .i64,.recs 5,.i .i64] s),.d (.s u28),.d (.i .i64 u29),.r (.ints .i64 u30),.r (.ints .i64 u31),.r (.ints .i64 u32),.d (.i .i64 u33),.r (.recs 5 u34),.d (.i .i64 u35)]=>some (.leaf (ok (y1 s u28 u29 u30 u31 u32 u33 u34 u35)) [.c (.d (.b ((val (y1 s u28 u29 u30 u31 u32 u33 u34 u35)))))])
 |_=>none
abbrev sp_125_126:jaa->jaa:=jaG 125 true (jai y19 y20)
def y102 (s:List (List NC)) (u28:ByteArray) (u29:Int) (u30 u31 u32:List Int) (u33:Int) (u34:List (List Int)) (u35:Int) (r:Bool):Sk (top r) (y1 s u28 u29 u30 u31 u32 u33 u34 u35) :=
 .call (.obT (.rc))
def y95 (s:List (List NC)) (u28:ByteArray) (u29:Int) (u30 u31 u32:List Int) (u33:Int) (u34:List (List Int)) (u35:Int) (r:Bool) (h:ze (y1 s u28 u29 u30 u31 u32 u33 u34 u35) some=some r):jbl Tryz.f125 ((sp_157_126 (sp_126 sp0))) (fun _ _ _=>none) (jbd y19 [.x (.st zS s),.d (.s u28),.d (.i .i64 u29),.r (.ints .i64 u30),.r (.ints .i64 u31),.r (.ints .i64 u32),.d (.i .i64 u33),.r (.recs 5 u34),.d (.i .i64 u35)]) [.c (.d (.b r))] :=
 Sk.vc (y102 s u28 u29 u30 u31 u32 u33 u34 u35 r) (by kernel_rfl) h
def y96:jaf Tryz.prog 125 true (jai y19 y20):=by
 refine jaC (sp:=(sp_157_126 (sp_126 sp0))) (fn:=Tryz.f125) (body:=bodyOf Tryz.f125) mixed (sp_157_126_ok (sp_126_ok jau)) Tryz.func125 (by kernel_rfl) (by kernel_rfl) fun ls t h ho b hb=>?_;unfold y20 at h;split at h
 ·rename_i s u28 u29 u30 u31 u32 u33 u34 u35;cases h;obtain rfl:=jaN hb;exact⟨zj (by kernel_rfl),_,_,y95 s u28 u29 u30 u31 u32 u33 u34 u35 _ (jar ho)⟩
 ·cases h
def sp_125_126_ok {sp:jaa} (h:jac Tryz.prog sp):jac Tryz.prog (sp_125_126 sp):=jap y96 h
def y156:List (Option Cont):=[some (.ints .i64 []),none]
def y43 (s:List Int) (v x0:Int):Option (Int ⊕ (Int ⊕ Unit)) :=
 if x0<(↑s.length:Int)then
  if 0<=x0∧x0<(↑s.length:Int)then
  if zf x0<zg s then
   if(v==za s x0.toNat (0:Int))=true then
   some (.inr (.inl x0))
   else
   some (.inl (wrap .i64 (x0+1)))
  else none
  else none
 else
  some (.inr ((.inr ())))
def jiO (u5:Int):Option Int :=
 some u5
def jiP (u6:Unit):Option Int :=
 some (-1:Int)
def y150:(Int ⊕ Unit)->Option Int :=
 (qZ (jiO) (jiP))
def y46 (s:List Int) (v:Int):Option Int :=
 ze (jag (y43 s v) big (0:Int)) (y150)
def y103:List A->Option (Prop × List RV)
 |[.r (.ints .i64 s),.d (.i .i64 v)]=>some (ok (y46 s v),[.d (.i .i64 ((val (y46 s v))))])
 |_=>none
abbrev sp_134:jaa->jaa:=jaG 134 true (jaK y156 y103)
abbrev y151 (s:List Int) (v r:Int):Lp (Int × Nat) Int (Int ⊕ Unit) Int Int :=
 ⟨fun z=>z.1,fun z=>z.2,fun z x n=>(x,n),fun z=>y43 s v,fun z=>y150,fun z=>top r,fun z=>0,[.c fun _=>v,.c fun _=>(↑s.length:Int),.c fun vv=>vv.1,.c fun _=>s]⟩
def jln (s:List Int) (v r:Int):Sk (top r) (y46 s v) :=
 .loop (y151 s v r) (fun kk=>((0:Int),big)) fun z0 =>
 .br
 (.ob (.ob (.brB
 (.exit (.obT (.rc)))
 (.next))))
 (.exit (.obT (.rc)))
def jkp (s:List Int) (v r:Int) (h:ze (y46 s v) some=some r):jco Tryz.f134 (sp0) (fun gs id _=>match id with
 |0=>some ⟨Int × Nat,fun z=>⟨[(0,.w (.c (.o 0))),(1,.w (.c (.d (.i .i64 v)))),(7,.w (.c (.d (.i .i64 ((↑s.length:Int)))))),(8,.w (.c (.d (.i .i64 z.1))))],[(0,.ext (.ints .i64 s))],2⟩,fun z=>(y151 s v r).inv z,fun z=>z.2⟩
 |_=>none) [.r (.ints .i64 s),.d (.i .i64 v)] [.d (.i .i64 r)] :=
 Sk.vc (jln s v r) (by kernel_rfl) h
def jkq:jaf Tryz.prog 134 true (jaK y156 y103):=by
 refine jaU (sp:=sp0) (fn:=Tryz.f134) (body:=bodyOf Tryz.f134) mixed jau Tryz.func134 (by kernel_rfl) (by kernel_rfl) fun as_ ob rs h ho=>?_;unfold y103 at h;split at h
 ·rename_i s v;cases h;exact⟨zj rfl,_,_,jkp s v _ (jar ho)⟩
 ·cases h
def sp_134_ok {sp:jaa} (h:jac Tryz.prog sp):jac Tryz.prog (sp_134 sp):=jap jkq h
def y127:List (Option Cont):=[some (.ints .i64 []),none]
def y16 (s:List Int) (v:Int):Option Bool :=
 ze (y46 s v) fun r0 =>
 some (decide (r0>=0))
def y80:List A->Option (Prop × List RV)
 |[.r (.ints .i64 s),.d (.i .i64 v)]=>some (ok (y16 s v),[.d (.b ((val (y16 s v))))])
 |_=>none
abbrev sp_158:jaa->jaa:=jaG 158 true (jaK y127 y80)
def jiQ (s:List Int) (v:Int) (r:Bool):Sk (top r) (y16 s v) :=
 .call (.obT (.rc))
def jia (s:List Int) (v:Int) (r:Bool) (h:ze (y16 s v) some=some r):jco Tryz.f158 ((sp_134 sp0)) (fun _ _ _=>none) [.r (.ints .i64 s),.d (.i .i64 v)] [.d (.b r)] :=
 Sk.vc (jiQ s v r) (by kernel_rfl) h
def jib:jaf Tryz.prog 158 true (jaK y127 y80):=by
 refine jaU (sp:=(sp_134 sp0)) (fn:=Tryz.f158) (body:=bodyOf Tryz.f158) mixed (sp_134_ok jau) Tryz.func158 (by kernel_rfl) (by kernel_rfl) fun as_ ob rs h ho=>?_;unfold y80 at h;split at h
 ·rename_i s v;cases h;exact⟨zj rfl,_,_,jia s v _ (jar ho)⟩
 ·cases h
def sp_158_ok {sp:jaa} (h:jac Tryz.prog sp):jac Tryz.prog (sp_158 sp):=jap jib h
def jmX:List (Option Cont):=[some (.ints .i64 [])]
def y81 (l:List Int) (x0:Int):Option (Int ⊕ (Unit ⊕ Unit)) :=
 if x0<(↑l.length:Int)then
  if 0<=x0∧x0<(↑l.length:Int)then
  if zf x0<zg l then
   if 0<=qK none (0:Int)∧qK none 0<=qK (some x0) (↑l.length:Int)∧qK (some x0) (↑l.length:Int)<=(↑l.length:Int)then
   ze (y16 (fi (zf (qK (some x0) (↑l.length:Int))-0) (fj (0:Nat) l)) (za l x0.toNat (0:Int))) fun r0 =>
   if(r0)=true then
    some (.inr ((.inl ())))
   else
    some (.inl (wrap .i64 (x0+1)))
   else none
  else none
  else none
 else
  some (.inr ((.inr ())))
def jqe (u5:Unit):Option Bool :=
 some true
def jqf (u6:Unit):Option Bool :=
 some false
def jlo:(Unit ⊕ Unit)->Option Bool :=
 (qZ (jqe) (jqf))
def y84 (l:List Int):Option Bool :=
 ze (jag (y81 l) big (0:Int)) (jlo)
def jic:List A->Option (Prop × List RV)
 |[.r (.ints .i64 l)]=>some (ok (y84 l),[.d (.b ((val (y84 l))))])
 |_=>none
abbrev sp_128:jaa->jaa:=jaG 128 true (jaK jmX jic)
abbrev jlp (l:List Int) (r:Bool):Lp (Int × Nat) Int (Unit ⊕ Unit) Bool Bool :=
 ⟨fun z=>z.1,fun z=>z.2,fun z x n=>(x,n),fun z=>y81 l,fun z=>jlo,fun z=>top r,fun z=>0,[.c fun _=>(↑l.length:Int),.c fun vv=>vv.1,.c fun _=>l]⟩
def juQ (l:List Int) (r:Bool):Sk (top r) (y84 l) :=
 .loop (jlp l r) (fun kk=>((0:Int),big)) fun z0 =>
 .br
 (.ob (.ob (.ob (.call (.brB
 (.exit (.obT (.rc)))
 (.next))))))
 (.exit (.obT (.rc)))
def js4 (l:List Int) (r:Bool) (h:ze (y84 l) some=some r):jco Tryz.f128 ((sp_158 sp0)) (fun gs id _=>match id with
 |0=>some ⟨Int × Nat,fun z=>⟨[(0,.w (.c (.o 0))),(5,.w (.c (.o 0))),(6,.w (.c (.d (.i .i64 ((↑l.length:Int)))))),(7,.w (.c (.d (.i .i64 z.1))))],[(0,.ext (.ints .i64 l))],1⟩,fun z=>(jlp l r).inv z,fun z=>z.2⟩
 |_=>none) [.r (.ints .i64 l)] [.d (.b r)] :=
 Sk.vc (juQ l r) (by kernel_rfl) h
def js5:jaf Tryz.prog 128 true (jaK jmX jic):=by
 refine jaU (sp:=(sp_158 sp0)) (fn:=Tryz.f128) (body:=bodyOf Tryz.f128) mixed (sp_158_ok jau) Tryz.func128 (by kernel_rfl) (by kernel_rfl) fun as_ ob rs h ho=>?_;unfold jic at h;split at h
 ·rename_i l;cases h;exact⟨zj rfl,_,_,js4 l _ (jar ho)⟩
 ·cases h
def sp_128_ok {sp:jaa} (h:jac Tryz.prog sp):jac Tryz.prog (sp_128 sp):=jap js5 h
def jlq:List (Option Cont):=[none]
def y60 (n:Int):Option Bool :=
 ze (y30 n (0:Int) (64:Int)) fun r0 =>
 some r0
def jg3:List A->Option (Prop × List RV)
 |[.d (.i .i64 n)]=>some (ok (y60 n),[.d (.b ((val (y60 n))))])
 |_=>none
abbrev sp_159:jaa->jaa:=jaG 159 true (jaK jlq jg3)
def js6 (n:Int) (r:Bool):Sk (top r) (y60 n) :=
 .call (.obT (.rc))
def jrs (n:Int) (r:Bool) (h:ze (y60 n) some=some r):jco Tryz.f159 ((sp_84 sp0)) (fun _ _ _=>none) [.d (.i .i64 n)] [.d (.b r)] :=
 Sk.vc (js6 n r) (by kernel_rfl) h
def jrt:jaf Tryz.prog 159 true (jaK jlq jg3):=by
 refine jaU (sp:=(sp_84 sp0)) (fn:=Tryz.f159) (body:=bodyOf Tryz.f159) mixed (sp_84_ok jau) Tryz.func159 (by kernel_rfl) (by kernel_rfl) fun as_ ob rs h ho=>?_;unfold jg3 at h;split at h
 ·rename_i n;cases h;exact⟨zj rfl,_,_,jrs n _ (jar ho)⟩
 ·cases h
def sp_159_ok {sp:jaa} (h:jac Tryz.prog sp):jac Tryz.prog (sp_159 sp):=jap jrt h
def jjM:List SV:=[.a [.d,.d,.r (.ints .i64 []),.r (.ints .i64 []),.r (.ints .i64 []),.d,.r (.recs 5 []),.d]]
def y77 (u12:List Int) (x0:Int):Option (Int ⊕ (Unit ⊕ Unit)) :=
 if x0<(↑u12.length:Int)then
  if 0<=x0∧x0<(↑u12.length:Int)then
  if zf x0<zg u12 then
   ze (y60 (za u12 x0.toNat (0:Int))) fun r0 =>
   if(!r0)=true then
   some (.inr ((.inl ())))
   else
   some (.inl (wrap .i64 (x0+1)))
  else none
  else none
 else
  some (.inr ((.inr ())))
def jru (u7:Int) (u10:List Int) (u9:Int) (u5:Unit):Option Bool :=
 some false
def y62 (u10:List Int) (x1:Int):Option (Int ⊕ (Unit ⊕ Unit)) :=
 if x1<(↑u10.length:Int)then
  if 0<=x1∧x1<(↑u10.length:Int)then
  if zf x1<zg u10 then
   ze (je7 (za u10 x1.toNat (0:Int)) (4000:Int)) fun r1 =>
   if(!r1)=true then
   some (.inr ((.inl ())))
   else
   some (.inl (wrap .i64 (x1+1)))
  else none
  else none
 else
  some (.inr ((.inr ())))
def jrv (u7 u9:Int) (u11:Unit):Option Bool :=
 some false
def jrw (u7 u9:Int) (u45:Unit):Option Bool :=
 ze (y60 u9) fun r2 =>
 if(r2)=true then
  if(u7==2)=true then
  some true
  else
  some (u9==0)
 else
  some false
def jfA (u7 u9:Int):(Unit ⊕ Unit)->Option Bool :=
 (qZ (jrv u7 u9) (jrw u7 u9))
def jrx (u7:Int) (u10:List Int) (u9:Int) (u6:Unit):Option Bool :=
 ze (jag (y62 u10) big (0:Int)) (jfA u7 u9)
def jid (u7:Int) (u10:List Int) (u9:Int):(Unit ⊕ Unit)->Option Bool :=
 (qZ (jru u7 u10 u9) (jrx u7 u10 u9))
def jdu (u14:ByteArray) (u7:Int) (u13 u12 u10:List Int) (u9:Int) (u15:List (List Int)) (u16:Int):Option Bool :=
 ze (jag (y77 u12) big (0:Int)) (jid u7 u10 u9)
def jjN:List Lf->Option GT
 |[.d (.s u14),.d (.i .i64 u7),.r (.ints .i64 u13),.r (.ints .i64 u12),.r (.ints .i64 u10),.d (.i .i64 u9),.r (.recs 5 u15),.d (.i .i64 u16)]=>some (.leaf (ok (jdu u14 u7 u13 u12 u10 u9 u15 u16)) [.c (.d (.b ((val (jdu u14 u7 u13 u12 u10 u9 u15 u16)))))])
 |_=>none
abbrev sp_129:jaa->jaa:=jaG 129 true (jai jjM jjN)
abbrev jmY (u14:ByteArray) (u7:Int) (u13 u12 u10:List Int) (u9:Int) (u15:List (List Int)) (u16:Int) (r:Bool):Lp (Int × Nat) Int (Unit ⊕ Unit) Bool Bool :=
 ⟨fun z=>z.1,fun z=>z.2,fun z x n=>(x,n),fun z=>y77 u12,fun z=>jid u7 u10 u9,fun z=>top r,fun z=>0,[.c fun _=>0,.c fun _=>(↑u12.length:Int),.c fun vv=>vv.1,.c fun _=>u14,.c fun _=>u7,.c fun _=>u9,.c fun _=>u16,.c fun _=>u12,.c fun _=>u13,.c fun _=>u10,.c fun _=>u15]⟩
abbrev jmZ (u14:ByteArray) (u7:Int) (u13 u12 u10:List Int) (u9:Int) (u15:List (List Int)) (u16:Int) (r:Bool):Lp (Unit × Int × Nat) Int (Unit ⊕ Unit) Bool Bool :=
 ⟨fun z=>z.2.1,fun z=>z.2.2,fun z x n=>((),x,n),fun z=>y62 u10,fun z=>jfA u7 u9,fun z=>top r,fun z=>0,[.c fun _=>0,.c fun _=>(↑u10.length:Int),.c fun vv=>vv.2.1,.c fun _=>u14,.c fun _=>u7,.c fun _=>u9,.c fun _=>u16,.c fun _=>u10,.c fun _=>u13,.c fun _=>u12,.c fun _=>u15]⟩
def juR (u14:ByteArray) (u7:Int) (u13 u12 u10:List Int) (u9:Int) (u15:List (List Int)) (u16:Int) (r:Bool):Sk (top r) (ze (jag (y62 u10) big (0:Int)) (jfA u7 u9)) :=
 .loop (jmZ u14 u7 u13 u12 u10 u9 u15 u16 r) (fun kk=>((),0,big)) fun z0 =>
 .br
 (.ob (.ob (.call (.brB
 (.exit (.obT (.rc)))
 (.next)))))
 (.exit (.call (.brB
 (.brB
 (.obT (.rc))
 (.obT (.rc)))
 (.obT (.rc)))))
def juS (u14:ByteArray) (u7:Int) (u13 u12 u10:List Int) (u9:Int) (u15:List (List Int)) (u16:Int) (r:Bool):Sk (top r) (ze (jag (y77 u12) big (0:Int)) (jid u7 u10 u9)) :=
 .loop (jmY u14 u7 u13 u12 u10 u9 u15 u16 r) (fun kk=>((0:Int),big)) fun z0 =>
 .br
 (.ob (.ob (.call (.brB
 (.exit (.obT (.rc)))
 (.next)))))
 (.exit (juR u14 u7 u13 u12 u10 u9 u15 u16 r))
def jwN (u14:ByteArray) (u7:Int) (u13 u12 u10:List Int) (u9:Int) (u15:List (List Int)) (u16:Int) (r:Bool):Sk (top r) (jdu u14 u7 u13 u12 u10 u9 u15 u16) :=
 juS u14 u7 u13 u12 u10 u9 u15 u16 r
def juT (u14:ByteArray) (u7:Int) (u13 u12 u10:List Int) (u9:Int) (u15:List (List Int)) (u16:Int) (r:Bool) (h:ze (jdu u14 u7 u13 u12 u10 u9 u15 u16) some=some r):jbl Tryz.f129 ((sp_159 (sp_160 sp0))) (fun gs id _=>match id with
 |0=>some ⟨Int × Nat,fun z=>⟨[(1,.w (.c (.p 4 0 1 0))),(3,.w (.c (.fn 159 []))),(9,.w (.c (.o 1))),(10,.w (.c (.d (.i .i64 ((↑u12.length:Int)))))),(11,.w (.c (.d (.i .i64 z.1))))],[(4,.box 118 [.d (.s u14),.d (.i .i64 u7),.o 0,.o 1,.o 2,.d (.i .i64 u9),.o 3,.d (.i .i64 u16)]),(1,.ext (.ints .i64 u12)),(0,.ext (.ints .i64 u13)),(2,.ext (.ints .i64 u10)),(3,.ext (.recs 5 u15))],5⟩,fun z=>(jmY u14 u7 u13 u12 u10 u9 u15 u16 r).inv z,fun z=>z.2⟩
 |2=>some ⟨Unit × Int × Nat,fun z=>⟨[(1,.w (.c (.p 4 0 1 0))),(3,.w (.c (.fn 159 []))),(21,.w (.c (.o 2))),(22,.w (.c (.d (.i .i64 ((↑u10.length:Int)))))),(23,.w (.c (.d (.i .i64 z.2.1))))],[(4,.box 118 [.d (.s u14),.d (.i .i64 u7),.o 0,.o 1,.o 2,.d (.i .i64 u9),.o 3,.d (.i .i64 u16)]),(2,.ext (.ints .i64 u10)),(0,.ext (.ints .i64 u13)),(1,.ext (.ints .i64 u12)),(3,.ext (.recs 5 u15))],5⟩,fun z=>(jmZ u14 u7 u13 u12 u10 u9 u15 u16 r).inv z,fun z=>z.2.2⟩
 |_=>none) (jbd jjM [.d (.s u14),.d (.i .i64 u7),.r (.ints .i64 u13),.r (.ints .i64 u12),.r (.ints .i64 u10),.d (.i .i64 u9),.r (.recs 5 u15),.d (.i .i64 u16)]) [.c (.d (.b r))] :=
 Sk.vc (jwN u14 u7 u13 u12 u10 u9 u15 u16 r) (by kernel_rfl) h
def juU:jaf Tryz.prog 129 true (jai jjM jjN):=by
 refine jaC (sp:=(sp_159 (sp_160 sp0))) (fn:=Tryz.f129) (body:=bodyOf Tryz.f129) mixed (sp_159_ok (sp_160_ok jau)) Tryz.func129 (by kernel_rfl) (by kernel_rfl) fun ls t h ho b hb=>?_;unfold jjN at h;split at h
 ·rename_i u14 u7 u13 u12 u10 u9 u15 u16;cases h;obtain rfl:=jaN hb;exact⟨zj (by kernel_rfl),_,_,juT u14 u7 u13 u12 u10 u9 u15 u16 _ (jar ho)⟩
 ·cases h
def sp_129_ok {sp:jaa} (h:jac Tryz.prog sp):jac Tryz.prog (sp_129 sp):=jap juU h
def jjO:List SV:=[.a [.d,.d,.r (.ints .i64 []),.r (.ints .i64 []),.r (.ints .i64 []),.d,.r (.recs 5 []),.d]]
def y89 (u14:ByteArray) (u7:Int) (u13 u12 u10:List Int) (u9:Int) (u15:List (List Int)) (u16:Int):Option Bool :=
 if(u7==0)=true then
  ze (y30 (↑u13.length:Int) (0:Int) (0:Int)) fun r0 =>
  if(r0)=true then
  if((↑u12.length:Int)==(↑u13.length:Int))=true then
   some ((↑u10.length:Int)==0)
  else
   some false
  else
  some false
 else
  if(u7==1)=true then
  ze (y30 (↑u13.length:Int) (1:Int) (6:Int)) fun r1 =>
  if(r1)=true then
   if((↑u12.length:Int)==(↑u13.length:Int))=true then
   some ((↑u10.length:Int)==(↑u13.length:Int))
   else
   some false
  else
   some false
  else
  ze (y30 (↑u13.length:Int) (1:Int) (1:Int)) fun r2 =>
  if(r2)=true then
   if((↑u12.length:Int)==(↑u13.length:Int))=true then
   some ((↑u10.length:Int)==0)
   else
   some false
  else
   some false
def jjP:List Lf->Option GT
 |[.d (.s u14),.d (.i .i64 u7),.r (.ints .i64 u13),.r (.ints .i64 u12),.r (.ints .i64 u10),.d (.i .i64 u9),.r (.recs 5 u15),.d (.i .i64 u16)]=>some (.leaf (ok (y89 u14 u7 u13 u12 u10 u9 u15 u16)) [.c (.d (.b ((val (y89 u14 u7 u13 u12 u10 u9 u15 u16)))))])
 |_=>none
abbrev sp_127:jaa->jaa:=jaG 127 true (jai jjO jjP)
def jwO (u14:ByteArray) (u7:Int) (u13 u12 u10:List Int) (u9:Int) (u15:List (List Int)) (u16:Int) (r:Bool):Sk (top r) (y89 u14 u7 u13 u12 u10 u9 u15 u16) :=
 .brB
 (.call (.brB
 (.brB
 (.obT (.rc))
 (.obT (.rc)))
 (.obT (.rc))))
 (.brB
 (.call (.brB
 (.brB
 (.obT (.rc))
 (.obT (.rc)))
 (.obT (.rc))))
 (.call (.brB
 (.brB
 (.obT (.rc))
 (.obT (.rc)))
 (.obT (.rc)))))
def juV (u14:ByteArray) (u7:Int) (u13 u12 u10:List Int) (u9:Int) (u15:List (List Int)) (u16:Int) (r:Bool) (h:ze (y89 u14 u7 u13 u12 u10 u9 u15 u16) some=some r):jbl Tryz.f127 ((sp_84 sp0)) (fun _ _ _=>none) (jbd jjO [.d (.s u14),.d (.i .i64 u7),.r (.ints .i64 u13),.r (.ints .i64 u12),.r (.ints .i64 u10),.d (.i .i64 u9),.r (.recs 5 u15),.d (.i .i64 u16)]) [.c (.d (.b r))] :=
 Sk.vc (jwO u14 u7 u13 u12 u10 u9 u15 u16 r) (by kernel_rfl) h
def juW:jaf Tryz.prog 127 true (jai jjO jjP):=by
 refine jaC (sp:=(sp_84 sp0)) (fn:=Tryz.f127) (body:=bodyOf Tryz.f127) mixed (sp_84_ok jau) Tryz.func127 (by kernel_rfl) (by kernel_rfl) fun ls t h ho b hb=>?_;unfold jjP at h;split at h
 ·rename_i u14 u7 u13 u12 u10 u9 u15 u16;cases h;obtain rfl:=jaN hb;exact⟨zj (by kernel_rfl),_,_,juV u14 u7 u13 u12 u10 u9 u15 u16 _ (jar ho)⟩
 ·cases h
def sp_127_ok {sp:jaa} (h:jac Tryz.prog sp):jac Tryz.prog (sp_127 sp):=jap juW h
end Go.Sh
end

section
namespace Go.Sh
open Go Go.Proofs Go.RowKit Go.Sx
open Go.IntKind (wrap)
def joV:List (Option Cont):=[none,none,none]
def jfd (n lo hi:Int):Option Bool :=
 if lo<=n then
  some (decide (n<=hi))
 else
  some false
def jjQ:List A->Option (Prop × List RV)
 |[.d (.i .i64 n),.d (.i .i64 lo),.d (.i .i64 hi)]=>some (ok (jfd n lo hi),[.d (.b ((val (jfd n lo hi))))])
 |_=>none
abbrev sp_180:jaa->jaa:=jaG 180 true (jaK joV jjQ)
def jwP (n lo hi:Int) (r:Bool):Sk (top r) (jfd n lo hi) :=
 .br
 (.obT (.rc))
 (.obT (.rc))
def juX (n lo hi:Int) (r:Bool) (h:ze (jfd n lo hi) some=some r):jco Tryz.f180 (sp0) (fun _ _ _=>none) [.d (.i .i64 n),.d (.i .i64 lo),.d (.i .i64 hi)] [.d (.b r)] :=
 Sk.vc (jwP n lo hi r) (by kernel_rfl) h
def juY:jaf Tryz.prog 180 true (jaK joV jjQ):=by
 refine jaU (sp:=sp0) (fn:=Tryz.f180) (body:=bodyOf Tryz.f180) mixed jau Tryz.func180 (by kernel_rfl) (by kernel_rfl) fun as_ ob rs h ho=>?_;unfold jjQ at h;split at h
 ·rename_i n lo hi;cases h;exact⟨zj rfl,_,_,juX n lo hi _ (jar ho)⟩
 ·cases h
def sp_180_ok {sp:jaa} (h:jac Tryz.prog sp):jac Tryz.prog (sp_180 sp):=jap juY h
def jqT:List (Option Cont):=[none,none]
def jgE (n u39:Int):Option Bool :=
 ze (jfd n (wrap .i64 (0-u39)) u39) fun r0 =>
 some r0
def jlr:List A->Option (Prop × List RV)
 |[.d (.i .i64 n),.d (.i .i64 u39)]=>some (ok (jgE n u39),[.d (.b ((val (jgE n u39))))])
 |_=>none
abbrev sp_177:jaa->jaa:=jaG 177 true (jaK jqT jlr)
def jyv (n u39:Int) (r:Bool):Sk (top r) (jgE n u39) :=
 .call (.obT (.rc))
def jwQ (n u39:Int) (r:Bool) (h:ze (jgE n u39) some=some r):jco Tryz.f177 ((sp_180 sp0)) (fun _ _ _=>none) [.d (.i .i64 n),.d (.i .i64 u39)] [.d (.b r)] :=
 Sk.vc (jyv n u39 r) (by kernel_rfl) h
def jwR:jaf Tryz.prog 177 true (jaK jqT jlr):=by
 refine jaU (sp:=(sp_180 sp0)) (fn:=Tryz.f177) (body:=bodyOf Tryz.f177) mixed (sp_180_ok jau) Tryz.func177 (by kernel_rfl) (by kernel_rfl) fun as_ ob rs h ho=>?_;unfold jlr at h;split at h
 ·rename_i n u39;cases h;exact⟨zj rfl,_,_,jwQ n u39 _ (jar ho)⟩
 ·cases h
def sp_177_ok {sp:jaa} (h:jac Tryz.prog sp):jac Tryz.prog (sp_177 sp):=jap jwR h
def jwS:List (Option Cont):=[none]
def jd7 (n:Int):Option Bool :=
 ze (jgE n (32768:Int)) fun r0 =>
 some r0
def joW:List A->Option (Prop × List RV)
 |[.d (.i .i64 n)]=>some (ok (jd7 n),[.d (.b ((val (jd7 n))))])
 |_=>none
def jwT (n:Int) (r:Bool):Sk (top r) (jd7 n) :=
 .call (.obT (.rc))
def juZ (n:Int) (r:Bool) (h:ze (jd7 n) some=some r):jco Tryz.f183 ((sp_177 sp0)) (fun _ _ _=>none) [.d (.i .i64 n)] [.d (.b r)] :=
 Sk.vc (jwT n r) (by kernel_rfl) h
def ju0:jaf Tryz.prog 183 true (jaK jwS joW):=by
 refine jaU (sp:=(sp_177 sp0)) (fn:=Tryz.f183) (body:=bodyOf Tryz.f183) mixed (sp_177_ok jau) Tryz.func183 (by kernel_rfl) (by kernel_rfl) fun as_ ob rs h ho=>?_;unfold joW at h;split at h
 ·rename_i n;cases h;exact⟨zj rfl,_,_,juZ n _ (jar ho)⟩
 ·cases h
end Go.Sh
end

section
namespace Go.Sx09
open Go Go.Proofs Go.RowKit Go.Shelf Go.Sx
attribute [local go_sem] jy
def jfB {B:Kd} {w:zx}:jbx B w:=⟨fun _ _ h=>(by cases h),jkv (fun _=>rfl) B w⟩
def jfT {U:Env} {B:Kd} {N n0:Nat} {st:St} {a:Act} {w:zx} {t:Nat} {v:zF} (h:Rel U B N n0 st a w) (ht:jaE st.tm t=none) (hlt:t<N):Rel U B N n0 st (a.put (some t) v) w:=by
 refine⟨fun x u hx=>?_,by rw[jbD];exact h.size,by rw[jb9];exact h.defers,h.heap,h.le,h.n0⟩;have hne:x≠t:=fun e=>by subst e;rw[ht]at hx;cases hx
 rw[jbQ (fun y hy=>by cases hy;rw[h.size];exact hlt),if_neg (fun e=>hne (xT e).symm)];exact h.tm x u hx
structure KpC (n1:Nat) (A C:zx):Prop where
 size:A.heap.size<=C.heap.size
 same:∀k o,n1<=k->A.heap[k]?=some o->o.isCells=true->C.heap[k]?=some o
def stL (y:zF) (L:List Int) (k:Nat):St :=
 ⟨[(11,vi .i64 k),(10,vi .i64 5),(9,.w (.c (.o 0))),(0,.w (.c (.d (.v y))))],[(0,.ext (.ints .i64 L))],1⟩
def stB (y:zF) (b0 b1 b2 a0 a1:Int):St :=
 ⟨[(11,vi .i64 0),(10,vi .i64 5),(9,.w (.c (.o 1))),(0,.w (.c (.d (.v y))))],[(1,.row 3 (.ints .i64 [b0,b1,b2,a0,a1])),(0,.box 148 [.d (.i .i64 b0),.d (.i .i64 b1),.d (.i .i64 b2),.d (.i .i64 a0),.d (.i .i64 a1)])],2⟩
structure Bet (Far:zx->Nat->Prop) (y:zF) (L:List Int) (k:Nat) (a:Act) (w:zx):Prop where
 rel:∃U,Rel U (kd fun x=>x<w.heap.size) 22 1 (stL y L k) a w∧∀ad n cap,U 0=.slice (some ad) n cap->Far w ad.block
def jwU {v:zF} {c:Cont} {A C:zx} (h:jaJ A v c) (he:0<c.e) (hv:∀ad n cap,v=.slice (some ad) n cap->∀o,A.heap[ad.block]?=some o->o.isCells=true->C.heap[ad.block]?=some o):jaJ C v c:=by
 obtain⟨a,cap,rfl,hc,hcells⟩:=h;refine⟨a,cap,rfl,hc,fun hn=>?_⟩;obtain⟨b,off,rfl,hx⟩:=hcells hn;refine⟨b,off,rfl,fun j x hj=>?_⟩;have h1:=hx j x hj;obtain⟨o,ho,hoc⟩:=cells_of_cell h1;have h2:=hv _ _ _ rfl o ho hoc;have ho':A.heap[b]?=some o:=ho;exact(World.cell?_of_block (w:=A) (w':=C) (a:=⟨b,off+j,none⟩) (h2.trans ho'.symm)).trans h1
def jjR {c:yb} {N n0:Nat} {st st2:St} {U:Env} {a:Act} {w:zx} (hr:Rel U (kd fun x=>x<w.heap.size) N n0 st a w)
  (h:sx Tryz.prog (fun _=>none) N n0 0 (fun _ _ _=>none) (fun _ _ _=>False) c 0 [] st (fun e st'=>match e with | .normal=>Le n0 st' st2|_=>False)) :
  c.wp Tryz.prog (fun e a' w'=>e=.normal∧w.grownBy w' none∧∃U',Rel U' (kd fun x=>x<w.heap.size) N n0 st2 a' w'∧jae n0 U U') a w:=by
 refine xG (jba (fun _ _ _ h=>by cases h) (fun _ _ _ _ _ _ _ _ _ h=>h.elim) c 0 [] st _ U a w h hr (jae.refl _ _) (Bel.refl _ _)) ?_;rintro e a' w' ⟨ex,U',st',rfl,hk,hr',hag,hbl⟩;cases ex with
 |normal =>
  obtain⟨U2,hr2,hag2⟩:=Le.rel hk hr';exact⟨rfl,⟨hbl.os,hbl.tape,hbl.output,hbl.size,fun k hk _=>hbl.block k hk⟩,U2,hr2,fun x hx=>(hag2 x hx).trans (hag x hx)⟩
 |exit j=>exact hk.elim
 |ret=>exact hk.elim
def prs (L:List Int) (k:Nat):List (Nat × Int):=(zG k).map fun j=>(j,L.getD j 0)
def js7 (L:List Int) (k:Nat):prs L (k+1)=prs L k++[(k,L.getD k 0)]:=by simp[prs,kb]
def joX (L:List Int) (k:Nat):(prs L k).length=k:=by simp[prs]
def sub:List Nat->yb->yb
 |[],c=>c
 |0::p,.seq x _=>sub p x
 |_::p,.seq _ y=>sub p y
 |0::p,.cond _ x _=>sub p x
 |_::p,.cond _ _ y=>sub p y
 |_::p,.block _ c=>sub p c
 |_::p,.loop c=>sub p c
 |_,c=>c
def bodyOf (f:jQ):yb:=f.body.getD .skip
abbrev pc (c:yb) (st st2:St):Prop:=sx Tryz.prog (fun _=>none) 22 1 0 (fun _ _ _=>none) (fun _ _ _=>False) c 0 [] st (fun e st'=>match e with | .normal=>Le 1 st' st2|_=>False)
def stC (y:zF) (L:List Int) (k:Nat):St:=⟨(12,vb (decide ((k:Int)<5)))::(stL y L k).tm,(stL y L k).hp,1⟩
def stD (y:zF) (L:List Int) (k:Nat):St:=⟨(4,vi .i64 (L.getD k 0))::(3,vi .i64 k)::(stL y L k).tm,(stL y L k).hp,1⟩
def pc1 (y:zF) (L:List Int) (k:Nat):pc (sub [1,0,0,0] (bodyOf Tryz.f185)) (stL y L k) (stC y L k):=by
 refine jJ (by kernel_rfl:(Ob ((decide ((k:Int)<5))=decide ((k:Int)<5))∧Ob ((k:Int)=k)∧Ob ((5:Int)=5)∧Ob (y=y)∧Ob (L=L)∧True)=_) ?_;exact⟨⟨rfl⟩,⟨rfl⟩,⟨rfl⟩,⟨rfl⟩,⟨rfl⟩,trivial⟩
def pc2 (y:zF) (L:List Int) (k:Nat) (hk:k<L.length):pc (sub [1,0,0,1,1,0,0,0] (bodyOf Tryz.f185)) (stC y L k) (stD y L k):=by
 refine jJ (by kernel_rfl:(Ob (0<=(k:Int)∧(k:Int)<(L.length:Int))∧Ob ((k:Int).toNat<L.length)∧Ob (L.getD (k:Int).toNat 0=L.getD k 0)∧Ob ((k:Int)=k)∧Ob ((k:Int)=k)∧Ob ((5:Int)=5)∧Ob (y=y)∧Ob (L=L)∧True)=_) ?_;exact⟨⟨by omega⟩,⟨by omega⟩,⟨rfl⟩,⟨rfl⟩,⟨rfl⟩,⟨rfl⟩,⟨rfl⟩,⟨rfl⟩,trivial⟩
def pc3 (y:zF) (L:List Int) (k:Nat) (hk:k<5):pc (sub [1,0,0,1,1,1] (bodyOf Tryz.f185)) (stL y L k) (stL y L (k+1)):=by
 refine jJ (by kernel_rfl:(Ob (xF.wrap ((k:Int)+1)=((k+1:Nat):Int))∧Ob ((5:Int)=5)∧Ob (y=y)∧Ob (L=L)∧True)=_) ?_;refine⟨⟨?_⟩,⟨rfl⟩,⟨rfl⟩,⟨rfl⟩,trivial⟩;rw[fa _ (by omega)];omega
def js8 {U:Env} {B:Kd} {N n0:Nat} {st:St} {a:Act} {w:zx} {c:Cont} (h:Rel U B N n0 st a w) (hs:st.hp=[(0,.ext c)]) (he:0<c.e):Rel U (kd fun x=>x<w.heap.size) N n0 st a w:=by
 obtain⟨B',_,hh⟩:=h.heap;refine⟨h.tm,h.size,h.defers,⟨kd fun x=>x<w.heap.size,Grow.refl _ _ _ _,⟨fun x o hf=>?_,fun x o x' o' b hf hf' hne hb=>?_,jfB⟩⟩,fun k hk=>jbe.1 hk,h.n0⟩
 ·have h1:=hh.ok x o hf;refine⟨h1.1,h1.2.1,?_⟩;rw[hs]at hf;simp only[find]at hf;split at hf
  ·cases hf;exact⟨h1.2.2.1,h1.2.2.1.lt he⟩
  ·cases hf
 ·rw[hs]at hf;simp only[find]at hf;split at hf
  ·cases hf;cases hb
  ·cases hf
def jls {o:Oper} {x:Operand} {n:Nat} {a:Act} {w:zx} {K:Act->zx->Prop} {Q:Exit->Act->zx->Prop} (ho:o.op=.move x) (h:K (a.put o.dst (a.eval x)) w):o.wpIn xD n Tryz.prog a w K Q:=by
 refine⟨fun _ _=>trivial,?_⟩
 have:((o.semAt xD.round a.eval).run Tryz.prog w)=.ok (.value (a.eval x)) w:=by
  rw[jq,jz];unfold execOp;simp only[ho,zp]
 rw[this];exact h
def jd8 {y:zF} {L:List Int} {k t:Nat} (h:t≠11∧t≠10∧t≠9∧t≠0):jaE (stL y L k).tm t=none:=by
 simp only[stL,jaE];rw[if_neg (yG h.1),if_neg (yG h.2.1),if_neg (yG h.2.2.1),if_neg (yG h.2.2.2)]
set_option maxHeartbeats 2000000 in
def jyw (n l:Nat) (Kp:zx->zx->Prop) (Far:zx->Nat->Prop)
  (hKF:∀{A C:zx} {k:Nat},Kp A C->Far A k->Far C k∧∀o,A.heap[k]?=some o->o.isCells=true->C.heap[k]?=some o)
  (hFg:∀{A B:zx} {k:Nat},A.grownBy B none->Far A k->Far B k) (L:List Int) (hL:L.length=5) (J Jx:List (Nat × Int)->zx->Prop)
  (hY:∀pre x W,J pre W->pre.length<5->x=(pre.length,L.getD pre.length 0)->YieldAt xD (n-1) Tryz.prog l #[.int .i64 (x.1:Int),.int .i64 x.2] W fun e W' =>
   (e=.returned (.bool true)∧J (pre++[x]) W'∧Kp W W')∨(e=.returned (.bool false)∧Jx (pre++[x]) W'))
  (hJ:∀A B pre,J pre A->A.grownBy B none->J pre B) (a:Act) (w:zx) (hb:Bet Far (.func (.yield l) #[] #[]) L 0 a w) (hj0:J (prs L 0) w) :
  (sub [1] (bodyOf Tryz.f185)).wpIn xD n Tryz.prog (bodyPost Tryz.prog Tryz.f185 fun e W'=>(∃v,e=.returned v) ∧
   ((∃ys,ys=prs L 5∧J ys W')∨(∃pre,(∃k,k<=5∧pre=prs L k)∧Jx pre W'))) a w:=by
 refine wpIn_block (wpIn_loop (fun a w=>∃k,k<=5∧Bet Far (.func (.yield l) #[] #[]) L k a w∧J (prs L k) w) (fun a _=>5-(intOf (a.tmps.getD 11 qe)).toNat) ⟨0,by omega,hb,hj0⟩ ?_);rintro a w ⟨k,hk,⟨U,hr,hge⟩,hj⟩
 have hmu:(intOf (a.tmps.getD 11 qe)).toNat=k:=by
  rw[(hr.tm 11 _ rfl).2];simp[intOf]
 rw[hmu];refine yu (wpIn_wide.2 (xG (jjR hr (pc1 _ L k)) ?_));rintro e a1 w1 ⟨rfl,hg1,U1,hr1,hag1⟩;have hj1:=hJ _ _ _ hj hg1;have hc:a1.eval (.tmp 12)=.bool (decide ((k:Int)<5)):=(hr1.tm 12 _ rfl).2
 by_cases hlt:k<5
 ·refine yu (jK (by rw[hc,decide_eq_true (by omega)]) (wpIn_skip ?_));refine yu (wpIn_block (yu (wpIn_wide.2 (xG (jjR (js8 hr1 rfl (zo 0)) (pc2 _ L k (by omega))) ?_))));rintro e a2 w2 ⟨rfl,hg2,U2,hr2,hag2⟩;have hj2:=hJ _ _ _ hj1 hg2;obtain⟨fn,tmps,assign,body,hy,hR⟩:=hY (prs L k) (k,L.getD k 0) w2 hj2 (by rw[joX];exact hlt) (by rw[joX])
  have hr2L:Rel U2 (kd fun x=>x<w2.heap.size) 22 1 (stL (.func (.yield l) #[] #[]) L k) a2 w2:=by
   have:=js8 hr2 (c:=.ints .i64 L) rfl (zo 0);refine⟨fun t v hv=>this.tm t v ?_,this.size,this.defers,this.heap,this.le,this.n0⟩;have hne:t≠4∧t≠3:=⟨(fun e=>by subst e;rw[jd8 (by decide)]at hv;cases hv),(fun e=>by subst e;rw[jd8 (by decide)]at hv;cases hv)⟩
   show jaE ((4,_)::(3,_)::_) t=some v
   simp only[jaE];rw[if_neg (yG hne.1),if_neg (yG hne.2)];exact hv
  have e3:a2.tmps.getD 3 qe=.int .i64 k:=(hr2.tm 3 _ rfl).2;have e4:a2.tmps.getD 4 qe=.int .i64 (L.getD k 0):=(hr2.tm 4 _ rfl).2;have e0:a2.tmps.getD 0 qe=.func (.yield l) #[] #[]:=(hr2.tm 0 _ rfl).2;have hge2:∀ad n cap,U2 0=.slice (some ad) n cap->Far w2 ad.block:=fun ad n cap h=>hFg hg2 (hFg hg1 (hge ad n cap (by rw[<-hag1 0 (zo 0),<-hag2 0 (zo 0)];exact h)));refine yu (wpIn_region_list ?_);refine xu rfl fun K hK=>jls rfl (hK _ _ ?_);refine xu rfl fun K hK=>jls rfl (hK _ _ ?_);refine xu rfl fun K hK=>jls rfl (hK _ _ ?_);have hsz:a2.tmps.size=22:=hr2L.size;obtain⟨a3,ha3⟩:∃a3,a3=((a2.put (some 16) (a2.eval (.tmp 0))).put (some 17) ((a2.put (some 16) (a2.eval (.tmp 0))).eval (.tmp 3))).put (some 18) (((a2.put (some 16) (a2.eval (.tmp 0))).put (some 17) ((a2.put (some 16) (a2.eval (.tmp 0))).eval (.tmp 3))).eval (.tmp 4)):=⟨_,rfl⟩
  have hr3:Rel U2 (kd fun x=>x<w2.heap.size) 22 1 (stL (.func (.yield l) #[] #[]) L k) a3 w2:=by
   rw[ha3];exact jfT (jfT (jfT hr2L (jd8 (by decide)) (by decide)) (jd8 (by decide)) (by decide)) (jd8 (by decide)) (by decide)
  have g16:a3.eval (.tmp 16)=.func (.yield l) #[] #[]:=by
   rw[ha3]
   show(yW _ (some 18) _).tmps.getD 16 qe=_
   rw[jbQ (fun x hx=>by cases hx;simp[jbD,hsz]),if_neg (by decide),jbQ (fun x hx=>by cases hx;simp[jbD,hsz]),if_neg (by decide),jbQ (fun x hx=>by cases hx;simp[hsz]),if_pos rfl];exact e0
  have g17:a3.eval (.tmp 17)=.int .i64 k:=by
   rw[ha3]
   show(yW _ (some 18) _).tmps.getD 17 qe=_
   rw[jbQ (fun x hx=>by cases hx;simp[jbD,hsz]),if_neg (by decide),jbQ (fun x hx=>by cases hx;simp[jbD,hsz]),if_pos rfl]
   show(yW _ (some 16) _).tmps.getD 3 qe=_
   rw[jbQ (fun x hx=>by cases hx;simp[hsz]),if_neg (by decide)];exact e3
  have g18:a3.eval (.tmp 18)=.int .i64 (L.getD k 0):=by
   rw[ha3]
   show(yW _ (some 18) _).tmps.getD 18 qe=_
   rw[jbQ (fun x hx=>by cases hx;simp[jbD,hsz]),if_pos rfl]
   show(yW _ (some 17) _).tmps.getD 4 qe=_
   rw[jbQ (fun x hx=>by cases hx;simp[jbD,hsz]),if_neg (by decide),jbQ (fun x hx=>by cases hx;simp[hsz]),if_neg (by decide)];exact e4
  have hsz3:a3.tmps.size=22:=hr3.size;rw[<-ha3];clear ha3;refine xu rfl fun K hK=>⟨fun _ _=>trivial,?_⟩
  have hcall:∀o:Oper,o.op=.call { callee:=.value (.tmp 16),args:=#[.tmp 17,.tmp 18],argTypes:=#[3,3] }->((o.semAt xD.round a3.eval).run Tryz.prog w2)=.ok (.round l fn tmps assign body) w2:=by
   intro o ho;rw[jq,jz];unfold execOp;simp only[ho,resolve,g16,jX,Sem.run_bind,zp,Result.andThen_ok,invoke,List.map_toArray,zM,qR,g17,g18];exact hy
  rw[hcall _ rfl];refine⟨(fun h=>by cases h),hR.mono ?_⟩
  have hnot:∀(o:Oper) (b:Bool) (w3:zx),o.op=.unOp .not 4 (.tmp 19)->((o.semAt xD.round (a3.put (some 19) (.bool b)).eval).run Tryz.prog w3)=.ok (.value (.bool !b)) w3:=by
   intro o b w3 ho
   have h19:(a3.put (some 19) (.bool b)).eval (.tmp 19)=.bool b:=by
    show(yW _ (some 19) _).tmps.getD 19 qe=_
    rw[jbQ (fun x hx=>by cases hx;simp[hsz3]),if_pos rfl]
   rw[jq,jz];unfold execOp;simp only[ho,h19];rfl
  have h20:∀b,((a3.put (some 19) (.bool b)).put (some 20) (.bool !b)).eval (.tmp 20)=.bool !b:=fun b=>by
   show(yW _ (some 20) _).tmps.getD 20 qe=_
   rw[jbQ (fun x hx=>by cases hx;simp[jbD,hsz3]),if_pos rfl]
  have hr5:∀b,Rel U2 (kd fun x=>x<w2.heap.size) 22 1 (stL (.func (.yield l) #[] #[]) L k) ((a3.put (some 19) (.bool b)).put (some 20) (.bool !b)) w2:=fun b =>
   jfT (jfT hr3 (jd8 (by decide)) (by decide)) (jd8 (by decide)) (by decide)
  rintro e w3 (⟨rfl,hj3,hk3⟩|⟨rfl,hj3⟩)
  ·refine hK _ _ (xu rfl fun K hK=>⟨fun _ _=>trivial,?_⟩);rw[hnot _ true w3 rfl];refine hK _ _ (jL ?_);refine jA (h20 true) (wpIn_skip ?_);have h5:=hr5 true;obtain⟨B2,_,hh2⟩:=hr2L.heap;have hrow3:jaJ w3 (U2 0) (.ints .i64 L):=jwU (hh2.ok 0 _ rfl).2.2.1 (zo 0) fun ad n cap h=>(hKF hk3 (hge2 ad n cap h)).2
   have h6:Rel U2 (kd fun x=>x<w3.heap.size) 22 1 (stL (.func (.yield l) #[] #[]) L k) ((a3.put (some 19) (.bool true)).put (some 20) (.bool !true)) w3:=by
    refine⟨h5.tm,h5.size,h5.defers,⟨kd fun x=>x<w3.heap.size,Grow.refl _ _ _ _,⟨fun x o hf=>?_,fun x o x' o' b hf hf' hne hb=>?_,jfB⟩⟩,fun k hk=>jbe.1 hk,h5.n0⟩
    ·simp only[stL,find]at hf;split at hf
     ·rename_i e;subst e;cases hf;exact⟨zo 0,trivial,hrow3,hrow3.lt (zo 0)⟩
     ·cases hf
    ·simp only[stL,find]at hf;split at hf
     ·cases hf;cases hb
     ·cases hf
   refine wpIn_wide.2 (xG (jjR h6 (pc3 _ L k hlt)) ?_);rintro e a7 w7 ⟨rfl,hg7,U7,hr7,hag7⟩;refine⟨⟨k+1,by omega,⟨U7,js8 hr7 (c:=.ints .i64 L) rfl (zo 0),fun ad n cap h=>hFg hg7 (hKF hk3 (hge2 ad n cap (by rw[<-hag7 0 (zo 0)];exact h))).1⟩,?_⟩,?_⟩
   ·rw[js7];exact hJ _ _ _ hj3 hg7
   ·rw[(hr7.tm 11 _ rfl).2];simp[intOf];omega
  ·refine hK _ _ (xu rfl fun K hK=>⟨fun _ _=>trivial,?_⟩);rw[hnot _ false w3 rfl];refine hK _ _ (jL ?_);refine jK (h20 false) (wpIn_ret ?_);refine⟨(hr5 false).defers,.tuple #[],jM rfl _ _ _,⟨_,rfl⟩,.inr ⟨_,⟨k+1,by omega,rfl⟩,?_⟩⟩;rw[js7];exact hj3
 ·have hk5:k=5:=by omega
  subst hk5;refine yu (jA (by rw[hc,decide_eq_false (by omega)]) (wpIn_exit ?_));refine⟨hr1.defers,.tuple #[],?_,⟨_,rfl⟩,.inl ⟨_,rfl,hj1⟩⟩;exact jM rfl _ _ _
set_option maxHeartbeats 2000000 in
def jz6 (n l Bs:Nat) (Kp:zx->zx->Prop) (Far:zx->Nat->Prop)
  (hKF:∀{A C:zx} {k:Nat},Kp A C->Far A k->Far C k∧∀o,A.heap[k]?=some o->o.isCells=true->C.heap[k]?=some o)
  (hFg:∀{A B:zx} {k:Nat},A.grownBy B none->Far A k->Far B k) (b0 b1 b2 a0 a1:Int) (J Jx:List (Nat × Int)->zx->Prop)
  (hY:∀pre x W,J pre W->pre.length<5->x=(pre.length,[b0,b1,b2,a0,a1].getD pre.length 0)->YieldAt xD (n-1) Tryz.prog l #[.int .i64 (x.1:Int),.int .i64 x.2] W fun e W' =>
   (e=.returned (.bool true)∧J (pre++[x]) W'∧Kp W W')∨(e=.returned (.bool false)∧Jx (pre++[x]) W'))
  (W:zx) (hF0:∀B g,W.grownBy B none->W.heap.size<=g->g<B.heap.size->Far B g) (hJ:AbidesFrom W.heap.size J) (hBs:W.heap[Bs]?=some (.cells #[.int .i64 b0,.int .i64 b1,.int .i64 b2,.int .i64 a0,.int .i64 a1] 148 (0,0))) (h0:J [] W) :
  CallsIn xD n Tryz.prog 185 #[.func (.yield l) #[] #[],.pointer (some ⟨Bs,0,none⟩)] W fun e W'=>(∃v,e=.returned v) ∧
   ((∃ys,ys=prs [b0,b1,b2,a0,a1] 5∧J ys W')∨(∃pre,(∃k,k<=5∧pre=prs [b0,b1,b2,a0,a1] k)∧Jx pre W')):=by
 refine callsIn_of_wp Tryz.func185 rfl trivial ?_ rfl;refine yu (wpIn_wide.2 ?_);have hBlt:Bs<W.heap.size:=(zA.1 hBs).1
 let U:Env:=fun _=>.pointer (some ⟨Bs,0,none⟩)
 let y:zF:=.func (.yield l) #[] #[]
 have hsp:jac Tryz.prog (fun _=>none):=fun _ _ _ h=>by cases h
 refine jbG (N:=22) (n0:=1) (B:=kd fun k=>k<W.heap.size∧k≠Bs) (U0:=U) (w0:=W) (st:=⟨[(0,.w (.c (.d (.v y)))),(1,.w (.c (.p 0 0 1 0)))],[(0,.box 148 [.d (.i .i64 b0),.d (.i .i64 b1),.d (.i .i64 b2),.d (.i .i64 a0),.d (.i .i64 a1)])],1⟩)
  (k:=fun st=>Le 1 st (stB y b0 b1 b2 a0 a1)) (by kernel_rfl) hsp (ds:=[]) _ _ U _ _ _ ?vc ?rel (jae.refl _ _) (Bel.refl _ _) ?next
 case vc =>
  refine jJ (by kernel_rfl:(Ob True∧Ob True∧Ob (0<3∧0<2∧(3+2)*8<=140737488355328∧3+2<=9223372036854775807) ∧
   Le 1 ⟨[(11,vi .i64 0),(10,vi .i64 5),(9,.w (.c (.o 3))),(8,.w (.c (.o 2))),(7,.w (.c (.p 0 0 1 3))),(6,.w (.c (.o 1))),(5,.w (.c (.p 0 0 1 0))),(0,.w (.c (.d (.v y)))),(1,.w (.c (.p 0 0 1 0)))],
    [(3,.row 3 (.ints .i64 [b0,b1,b2,a0,a1])),(2,.view 0 (.ints .i64 [a0,a1]) true),(1,.view 0 (.ints .i64 [b0,b1,b2]) true),(0,.box 148 [.d (.i .i64 b0),.d (.i .i64 b1),.d (.i .i64 b2),.d (.i .i64 a0),.d (.i .i64 a1)])],4⟩ (stB y b0 b1 b2 a0 a1))=_) ?_
  refine⟨⟨trivial⟩,⟨trivial⟩,⟨by decide⟩,?_⟩;refine jJ (by kernel_rfl:((Ob ((0:Int)=0)∧Ob ((5:Int)=5)∧Ob (y=y)∧Ob ([b0,b1,b2,a0,a1]=[b0,b1,b2,a0,a1])∧Ob (b0=b0)∧Ob (b1=b1)∧Ob (b2=b2)∧Ob (a0=a0)∧Ob (a1=a1)∧True))=_) ?_;exact⟨⟨rfl⟩,⟨rfl⟩,⟨rfl⟩,⟨rfl⟩,⟨rfl⟩,⟨rfl⟩,⟨rfl⟩,⟨rfl⟩,⟨rfl⟩,trivial⟩
 case rel =>
  refine jep (N:=22) (n0:=1) (args:=[.w (.c (.d (.v y))),.w (.c (.p 0 0 1 0))]) (zj rfl) (fun x hx=>?_) (zu _) U W ⟨fun x o hf=>?_,fun x o x' o' b hf hf' hne hb=>?_,jfB⟩ (fun k hk=>(jbe.1 hk).1)
  ·simp only[qv,List.not_mem_nil,or_false]at hx;rcases hx with rfl|rfl
   ·trivial
   ·exact zo 0
  ·simp only[find]at hf;split at hf
   ·rename_i e;subst e;cases hf;exact⟨zo 0,(fun c hc=>by simp at hc;rcases hc with rfl|rfl|rfl|rfl|rfl<;>trivial),Bs,rfl,fun h=>(jbe.1 h).2 rfl,hBs⟩
   ·cases hf
  ·simp only[find]at hf hf';split at hf
   ·rename_i e;subst e;rw[if_neg hne]at hf';cases hf'
   ·cases hf
 case next =>
  rintro U1 st1 a1' w1 hr1 hag1 hbl1 hle;obtain⟨U2,hr2,hag2⟩:=hle.rel hr1;obtain⟨B',g',hh2⟩:=hr2.heap;have hbk:U2 0=.pointer (some ⟨Bs,0,none⟩):=(hag2 0 (zo 0)).trans (hag1 0 (zo 0))
  have hgr:W.grownBy w1 none:=by
   refine⟨hbl1.os,hbl1.tape,hbl1.output,hbl1.size,fun k hk _=>?_⟩
   by_cases e:k=Bs
   ·subst e;obtain⟨_,_,g,hg,_,hheap⟩:=hh2.ok 0 _ rfl;rw[hbk]at hg
    have e:g=k:=by
     have:some (⟨k,0,none⟩:Addr)=some ⟨g,0,none⟩:=kQ hg;cases this;rfl
    subst e;rw[hheap,hBs];rfl
   ·exact hbl1.block k ⟨hk,e⟩
  have hJ1:J (prs [b0,b1,b2,a0,a1] 0) w1:=hJ [] W w1 none h0 hgr (fun r e=>by cases e)
  have hge:∀g,(U2 1).ownBlock=some g->Far w1 g:=fun g hg=>by
   refine hF0 _ _ hgr ?_ (O.blk_lt (hh2.ok 1 _ rfl).2.2 hg).1;have h3:=(hh2.ok 1 _ rfl).2.2.2 g hg;have hne:g≠Bs:=fun e=>hh2.apart 1 _ 0 _ g rfl rfl (by decide) hg (by rw[hbk,e];rfl);have:¬g<W.heap.size:=fun hl=>h3 (.inl (g'.le.kp g ⟨hl,hne⟩));omega
  have hrow:jaJ w1 (U2 1) (.ints .i64 [b0,b1,b2,a0,a1]):=jaX (hh2.ok 1 _ rfl).2.2 rfl
  have hbet:Bet Far y [b0,b1,b2,a0,a1] 0 a1' w1:=by
   refine⟨fun _=>U2 1,⟨fun t v hv=>?_,hr2.size,hr2.defers,⟨kd fun x=>x<w1.heap.size,Grow.refl _ _ _ _,⟨fun x o hf=>?_,fun x o x' o' b hf hf' hne hb=>?_,jfB⟩⟩,fun k hk=>jbe.1 hk,zu _⟩,fun ad n cap hv=>hge _ (by have hv':U2 1=_:=hv;rw[hv'];rfl)⟩
   ·simp only[stL,jaE]at hv;split at hv
    ·rename_i e;subst e;cases hv;exact⟨trivial,(hr2.tm 11 _ rfl).2⟩
    ·split at hv
     ·rename_i e;subst e;cases hv;exact⟨trivial,(hr2.tm 10 _ rfl).2⟩
     ·split at hv
      ·rename_i e;subst e;cases hv;exact⟨zo 0,(hr2.tm 9 _ rfl).2⟩
      ·split at hv
       ·rename_i e;subst e;cases hv;exact⟨trivial,(hr2.tm 0 _ rfl).2⟩
       ·cases hv
   ·simp only[stL,find]at hf;split at hf
    ·rename_i e;subst e;cases hf;exact⟨zo 0,trivial,hrow,hrow.lt (zo 0)⟩
    ·cases hf
   ·simp only[stL,find]at hf;split at hf
    ·cases hf;cases hb
    ·cases hf
  clear hr2 hr1 hbk hge hrow;have hge1:1<=1:=zu 1;exact jyw n l Kp Far hKF hFg [b0,b1,b2,a0,a1] rfl J Jx hY (fun A B pre hj hg=>hJ pre A B none hj hg (fun r e=>by cases e)) a1' w1 hbet hJ1
end Go.Sx09
end

section
namespace Go.Sx09
open Go Go.Proofs Go.RowKit Go.Shelf Go.Sx Go.Sh
open Go.IntKind (wrap)
attribute [local go_sem] jy
def partB (n:Int):Bool:=decide (-32768<=n)&&decide (n<=32768)
def chkS (b0 b1 b2 a0 a1:Int):Int:=if[b0,b1,b2,a0,a1].all partB=true then 0 else 2
abbrev jd9 (b0 b1 b2 a0 a1:Int):Array zF:=#[.int .i64 b0,.int .i64 b1,.int .i64 b2,.int .i64 a0,.int .i64 a1]
set_option maxHeartbeats 2000000 in
def jz7 (n:Nat) (b0 b1 b2 a0 a1:Int) (w:zx) :
  CallsIn xD n Tryz.prog 182 #[.agg (jd9 b0 b1 b2 a0 a1)] w fun e w'=>e=.returned (.func (.func 185) #[] #[.pointer (some ⟨w.heap.size,0,none⟩)])∧w'=w.alloc (.cells (jd9 b0 b1 b2 a0 a1) 148):=by
 refine callsIn_of_wp Tryz.func182 rfl trivial ?_ rfl;simp only[Tryz.ntmps182,xE,z4,qD,gC,gD,jk,jl,jN,ju,qM,qm]
 gi_wp2
 go_ret
 exact⟨rfl,rfl⟩
def jqU (n:Int):jd7 n=some (partB n):=by
 have e:wrap xF ((0:Int)-32768)=-32768:=by decide
 unfold jd7 jgE jfd partB;simp only[e]
 by_cases h:-32768<=n
 ·simp[h]
 ·simp[h]
def js9 (n:Int) (w:zx):Calls Tryz.prog 183 #[.int .i64 n] w fun e w'=>e=.returned (.bool (partB n))∧xA w.heap.size w w':=by
 have h:=(ju0.sound Tryz.func183 (rfl:Tryz.f183.body=some (Tryz.f183.body.getD .skip)) (by kernel_rfl)).sound (fun _=>qe) (kd fun k=>k<w.heap.size) w [.w (.c (.d (.i .i64 n)))] [] 0 _ rfl (jgu (jqU n)) (fun x hx=>by
  simp only[zY]at hx;subst hx;trivial) ⟨(fun _ _ h=>by cases h),(fun _ _ _ _ _ h=>by cases h),jfB⟩ (fun _ h=>jbe.1 h)
 refine h.mono ?_;rintro e w' ⟨U',rfl,hl⟩;refine⟨?_,hl.mono rfl⟩
 show xO (.bool (val (jd7 n)))=_
 rw[jqU];rfl
def jyx (W:zx) (v:zF) (t:TypeId):(W.alloc (.cells #[v] t)).cell? ⟨W.heap.size,0,none⟩=some v∧(W.alloc (.cells #[v] t)).frozen? ⟨W.heap.size,0,none⟩=false:=by
 have h:(W.alloc (.cells #[v] t)).heap[W.heap.size]?=some (.cells #[v] t (0,0)):=World.alloc_heap_new W (.cells #[v] t);constructor
 ·unfold World.cell?;dsimp only;rw[h];rfl
 ·unfold World.frozen?;dsimp only;rw[h];rfl
def ju1 {W:zx} {a:Addr} {v:zF} (o:Obj) (h:W.cell? a=some v):(W.alloc o).cell? a=some v:=cell_kept h (fo W o none) (fun r e=>by cases e)
def jry {W:zx} {a:Addr} {v:zF} (o:Obj) (h:W.cell? a=some v) (hf:W.frozen? a=false):(W.alloc o).frozen? a=false:=(frozen_kept h (fo W o none) (fun r e=>by cases e)).trans hf
def kpc_t {n1:Nat} {A B C:zx} (h:KpC n1 A B) (k:KpC n1 B C):KpC n1 A C:=⟨qx h.size k.size,fun x o hx ho hc=>k.same x o hx (h.same x o hx ho hc) hc⟩
def kpc_b {n1:Nat} {w:zx} (W:zx) (l:Nat) (o o':Obj) (_:w.heap.size<=l) (h:W.heap[l]?=some o) (hc:o.isCells=false) (_:o.isWalk=false):KpC n1 W (W.putObj l o') :=
 ⟨by simp,fun k u _ hk hu=>by
  have hne:l≠k:=fun e=>by subst e;rw[h]at hk;cases hk;rw[hc]at hu;cases hu
  exact(World.putObj_heap_other (fun e=>hne e.symm)).trans hk⟩
def jyy {n1:Nat} {A B:zx} (h:xA A.heap.size A B):KpC n1 A B:=⟨h.size,fun k o _ hk _=>(h.block k (zA.1 hk).1).trans hk⟩
def jm0 {A B:zx} (h:xA A.heap.size A B):KeepsOthers A B:=⟨h.size,fun k o hk _=>(h.block k (zA.1 hk).1).trans hk⟩
def jvM {b0 b1 b2 a0 a1:Int}:(prs [b0,b1,b2,a0,a1] 5).map (·.2)=[b0,b1,b2,a0,a1]:=rfl
def jBH {b0 b1 b2 a0 a1:Int} {k:Nat} (hk:k<=5) {x:Nat × Int} (hx:x∈prs [b0,b1,b2,a0,a1] k):x.2∈[b0,b1,b2,a0,a1]:=by
 have h1:x∈prs [b0,b1,b2,a0,a1] 5:=by
  simp only[prs,qu,xw]at hx ⊢;obtain⟨j,hj,e⟩:=hx;exact⟨j,by omega,e⟩
 rw[<-jvM];exact List.mem_map_of_mem h1
set_option maxHeartbeats 4000000 in
def jCl (b0 b1 b2 a0 a1:Int) (w:zx) :
  CallsIn xD 9 Tryz.prog 179 #[.agg (jd9 b0 b1 b2 a0 a1)] w fun e w'=>e=.returned (.int .i64 (chkS b0 b1 b2 a0 a1))∧xA w.heap.size w w':=by
 have h1:1<=9:=by omega
 have hro:xD.round=none:=rfl;refine callsIn_of_wp_marks Tryz.func179 rfl trivial ?_ hro;simp only[Tryz.ntmps179,xE,z4,qD,gC,gD,jk,jl,jN,ju,qM,qm]
 gi_wp2_with (refine⟨trivial,?_⟩;gi_at_call 182;refine(jz7 _ b0 b1 b2 a0 a1 _).mono ?_;rintro e w' ⟨rfl,rfl⟩)
 have c0:(w.alloc (.cells (jd9 b0 b1 b2 a0 a1) 148)).heap.size=w.heap.size+1:=fQ _ _;have c1:=jyx (w.alloc (.cells (jd9 b0 b1 b2 a0 a1) 148)) (.int .i64 0) 27;rw[c0]at c1;have hB0:xA w.heap.size w (((w.alloc (.cells (jd9 b0 b1 b2 a0 a1) 148)).alloc (.cells #[.int .i64 0] 27)).alloc (.cells (jd9 b0 b1 b2 a0 a1) 148)):=(((qO _ w).alloc (zu _) _).alloc (by simp) _).alloc (by simp;omega) _;obtain⟨w2,hw2⟩:∃w2,((w.alloc (.cells (jd9 b0 b1 b2 a0 a1) 148)).alloc (.cells #[.int .i64 0] 27)).alloc (.cells (jd9 b0 b1 b2 a0 a1) 148)=w2:=⟨_,rfl⟩
 have hs2:w2.heap.size=w.heap.size+3:=by rw[<-hw2];simp
 have hc2:w2.cell? ⟨w.heap.size+1,0,none⟩=some (.int .i64 0):=by rw[<-hw2];exact ju1 _ c1.1
 have hf2:w2.frozen? ⟨w.heap.size+1,0,none⟩=false:=by rw[<-hw2];exact jry _ c1.1 c1.2
 have hh2:w2.heap[w.heap.size+1+1]?=some (.cells (jd9 b0 b1 b2 a0 a1) 148 (0,0)):=by
  rw[<-hw2];have:=World.alloc_heap_new ((w.alloc (.cells (jd9 b0 b1 b2 a0 a1) 148)).alloc (.cells #[.int .i64 0] 27)) (.cells (jd9 b0 b1 b2 a0 a1) 148);rw[fQ,c0]at this;exact this
 rw[hw2]at hB0 ⊢
 refine wpIn_rangeFunc_ownF hro h1 (gf:=185) (lb:=#[.pointer (some ⟨w.heap.size+1+1,0,none⟩)]) rfl trivial (enters_of Tryz.func185 (by kernel_rfl) rfl)
  (α:=Nat × Int) (encs:=fun x=>#[.int .i64 (x.1:Int),.int .i64 x.2]) (Kp:=KpC w2.heap.size) (S:=fun ys=>ys=prs [b0,b1,b2,a0,a1] 5) (Sp:=fun pre=>∃k,k<=5∧pre=prs [b0,b1,b2,a0,a1] k) (N:=5) (w0:=w2)
  (fun l J Jx W hW hJ hJx hY h0=>jz6 _ l (w.heap.size+1+1) (KpC w2.heap.size) (fun _ k=>w2.heap.size<=k) (fun h hk=>⟨hk,fun o ho hc=>h.same _ o hk ho hc⟩) (fun _ h=>h) b0 b1 b2 a0 a1 J Jx (fun pre x W hp hl _=>hY pre x W hp hl) W (fun _ g _ hg _=>qx hW.size hg) hJ ((hW.block _ (by omega)).trans hh2) h0) kpc_t kpc_b (qO _ _) (fun _=>rfl)
  (fun pre W=>((∀y∈pre,partB y.2=true)∧W.cell? ⟨w.heap.size+1,0,none⟩=some (.int .i64 0)∧W.frozen? ⟨w.heap.size+1,0,none⟩=false)∧xA w.heap.size w W)
  (fun c pre W=>(c=.ret∧(∃y∈pre,partB y.2=false)∧W.cell? ⟨w.heap.size+1,0,none⟩=some (.int .i64 2))∧xA w.heap.size w W)
  (OwnFrom.and (Own.from (fun s A B row hs hg hr=>⟨hs.1,cell_kept hs.2.1 hg hr,(frozen_kept hs.2.1 hg hr).trans hs.2.2⟩) _) (ownFrom_below (zu _) (by omega)))
  (fun c=>OwnFrom.and (Own.from (fun s A B row hs hg hr=>⟨hs.1,hs.2.1,cell_kept hs.2.2 hg hr⟩) _) (ownFrom_below (zu _) (by omega)))
  ⟨⟨by simp,hc2,hf2⟩,hB0⟩
  (fun x=>{ tmps:=#[kR (jd9 b0 b1 b2 a0 a1),xa (some { block:=w.heap.size,off:=0 }),xa (some { block:=w.heap.size+1,off:=0 }),qe,.int .i64 x.2,kR (jd9 b0 b1 b2 a0 a1),.func (.func 185) #[] #[.pointer (some ⟨w.heap.size+1+1,0,none⟩)],.int .i64 (x.1:Int),.int .i64 x.2,qe,qe,qe],defers:=[] }) ?assign ?body ?done ?stop
 case assign =>
  intro l x W K hK
  gi_wp2
  exact hK
 case body =>
  rintro l pre x W ⟨⟨hp,hcr,hfr⟩,hB⟩ _;have hlt:w.heap.size+1<W.heap.size:=qj W ⟨w.heap.size+1,0,none⟩ hcr
  gi_wp2_with (refine⟨trivial,?_⟩;gi_at_call 183;refine(CallsIn.inRound l (callsIn_wide.2 (js9 x.2 W))).mono ?_;rintro e w' ⟨rfl,hBw⟩;have hcw:=(hBw.cell (p:=⟨w.heap.size+1,0,none⟩) hlt).trans hcr;have hfw:=(hBw.frozen (p:=⟨w.heap.size+1,0,none⟩) hlt).trans hfr)
  ·rename_i hx;have hB':xA w.heap.size w w':=hB.trans (hBw.mono (by omega));exact⟨(jm0 hBw).trans (KeepsOthers.setCell _ _ _),⟨rfl,⟨x,qq.2 (.inr (by simp)),by simpa using hx⟩,yB _ _ _ (by rw[hcw];rfl)⟩,hB'.setCell (p:=⟨w.heap.size+1,0,none⟩) (by simp) _⟩
  ·rename_i hx;have hB':xA w.heap.size w w':=hB.trans (hBw.mono (by omega));exact⟨jm0 hBw,jyy hBw,⟨fun y hy=>(qq.1 hy).elim (hp y) (fun e=>by simp at e;subst e;simpa using hx),hcw,hfw⟩,hB'⟩
 case done =>
  rintro D ys W hD rfl ⟨⟨hne,hcr,hfr⟩,hB⟩ hK
  gi_wp2
  have hK':=(KeepsOthers.setCell W ⟨w.heap.size+1,0,none⟩ (.int .i64 0)).same D _ hK rfl;refine⟨by simp,.inl ⟨_,_,rfl,run_takeDeferred hK',?_⟩⟩;have hc5:=cell_kept (yB W ⟨w.heap.size+1,0,none⟩ (.int .i64 0) (by rw[hcr];rfl)) (grownBy_putObj' _ D (.deferred none)) (fun r e=>by cases e;exact⟨_,hK',rfl⟩)
  have hall:chkS b0 b1 b2 a0 a1=0:=by
   unfold chkS;rw[if_pos];rw[<-jvM,List.all_map];exact zq.2 fun y hy=>hne y hy
  refine⟨.int .i64 0,?_,by rw[hall],(hB.setCell (p:=⟨w.heap.size+1,0,none⟩) (by simp) _).trans (belowK_b (w:=w) (zu _) _ D _ _ (by omega) hK' rfl rfl)⟩;simp[results,Tryz.f179,go_sem,hc5]
 case stop =>
  rintro D c pre W hD ⟨k,hk,rfl⟩ ⟨⟨rfl,⟨y,hy,hpy⟩,hcr⟩,hB⟩ hK
  gi_wp2
  refine⟨by simp,.inl ⟨_,_,rfl,run_takeDeferred hK,?_⟩⟩;have hc5:=cell_kept hcr (grownBy_putObj' _ D (.deferred none)) (fun r e=>by cases e;exact⟨_,hK,rfl⟩)
  have hall:chkS b0 b1 b2 a0 a1=2:=by
   unfold chkS;rw[if_neg];intro h;have:=zq.1 h y.2 (jBH hk hy);rw[hpy]at this;cases this
  refine⟨.int .i64 2,?_,by rw[hall],hB.trans (belowK_b (w:=w) (zu _) W D _ _ (by omega) hK rfl rfl)⟩;simp[results,Tryz.f179,go_sem,hc5]
def toAs0 {U:Env} (w:zx) {args:List V} {as_:List A} (has:jhY [] args=some as_):(jdC 0 as_).map (V.val fun i=>(args[i]?.map (V.val U)).getD qe)=args.map (V.val U) :=
 (jqN (U:=U) (B:=kd fun _=>False) (nx:=0) (hp:=[]) (w:=w) ⟨(fun _ _ h=>by cases h),(fun _ _ _ _ _ h=>by cases h),jfB⟩ args _ 0 (fun i=>(args[i]?.map (V.val U)).getD qe) has (fun i v hv=>by simp[hv])).1
def gCheckSection:List A->Option (Prop × List RV)
 |[.s [.i .i64 b0,.i .i64 b1,.i .i64 b2,.i .i64 a0,.i .i64 a1]]=>some (True,[.d (.i .i64 (chkS b0 b1 b2 a0 a1))])
 |_=>none
def jrz {f:Nat} {fn:jQ} {body:yb} {g:List A->Option (Prop × List RV)} (hf:Tryz.prog.funcs[f]?=some fn) (hb:fn.body=some body) (hn:(fn.name == "runtime.NumGoroutine")=false)
  (h:∀(args:List V) (as_:List A) ob rs (U:Env) (w:zx),jhY [] args=some as_->g as_=some (ob,rs)->ob->Calls Tryz.prog f (args.map (V.val U)).toArray w fun e w'=>e=.returned ((ja0 (rvW 0 rs)).val U)∧xA w.heap.size w w')
  (hd:∀as_ ob rs,g as_=some (ob,rs)->(∀a∈as_,∀c,a≠.r c)∧∀r∈rs,∀t c,r≠.row t c):jaf Tryz.prog f true (jrQ g):=by
 refine .inl ⟨jcD hf hb hn,fun U B w args hp nx r hS hob hlt hh hB=>?_⟩;unfold jrQ at hS;split at hS
 ·rename_i as_ has;split at hS
  ·rename_i ob rs hg;cases hS;obtain⟨h1,h2⟩:=hd as_ ob rs hg
   have has':∀(args:List V) (as_:List A),jhY hp args=some as_->(∀a∈as_,∀c,a≠.r c)->jhY [] args=some as_:=by
    intro args
    induction args with
    |nil=>intro as_ h _;exact h
    |cons v vs ih =>
     intro as_ h hno;simp only[jhY]at h ⊢;split at h
     ·rename_i a r ha hr;cases h
      have e1:toA [] v=some a:=by
       unfold toA at ha ⊢;split at ha
       ·exact ha
       ·exact ha
       ·exact ha
       ·split at ha
        ·split at ha
         ·cases ha
         ·cases ha;exact absurd rfl (hno _ zV _)
        ·cases ha
       ·cases ha
      rw[e1,ih r hr (fun a ha=>hno a (zR _ ha))]
     ·cases h
   have hrv:∀(rs:List RV) (n m:Nat) (hp:Hp),(∀r∈rs,∀t c,r≠.row t c)->rvW n rs=rvW m rs∧jhZ n rs hp=hp∧jeB n rs=n∧∀x∈rvW n rs,W.lt n x:=by
    intro rs
    induction rs with
    |nil=>exact fun n m hp _=>⟨rfl,rfl,rfl,fun _ h=>by cases h⟩
    |cons r rs ih =>
     intro n m hp hno;have ih:=ih n m hp (fun r hr=>hno r (zR _ hr));cases r with
     |d x=>exact⟨by simp only[rvW,ih.1],ih.2.1,ih.2.2.1,fun u hu=>by
       rcases qv.1 hu with rfl|hu
       ·trivial
       ·exact ih.2.2.2 u hu⟩
     |s l=>exact⟨by simp only[rvW,ih.1],ih.2.1,ih.2.2.1,fun u hu=>by
       rcases qv.1 hu with rfl|hu
       ·intro y hy;obtain⟨z,_,rfl⟩:=qu.1 hy;trivial
       ·exact ih.2.2.2 u hu⟩
     |row t c=>exact absurd rfl (hno _ zV t c)
   refine(h args as_ ob rs U w (has' args as_ has h1) hg hob).mono ?_;rintro e w' ⟨rfl,hbl⟩;obtain⟨e1,e2,e3,e4⟩:=hrv rs nx 0 hp h2;refine⟨U,by rw[<-e1];rfl,jae.refl _ _,(?_:V.lt (jeB nx rs) (ja0 (rvW nx rs))),(?_:nx<=jeB nx rs),⟨B,Grow.refl _ _ _ _,(?_:HRel U B (jhZ nx rs hp) (jeB nx rs) w')⟩,jbV hbl hB,fun _=>hbl,fun _ h o k hle hf _=>?_⟩
   ·rw[e3];exact je2 e4
   ·rw[e3];exact zu _
   ·rw[e2,e3];exact hh.below hbl hB
   ·have hf:find (jhZ nx rs hp) h=some o:=hf;rw[e2]at hf;have:=(hh.ok h o hf).1;omega
  ·cases hS
 ·cases hS
def checkSection_ok:jaf Tryz.prog 179 true (jrQ gCheckSection):=by
 refine jrz (fn:=Tryz.f179) (body:=bodyOf Tryz.f179) Tryz.func179 (by kernel_rfl) (by kernel_rfl) ?_ ?_
 ·intro args as_ ob rs U w has hg ho;unfold gCheckSection at hg;split at hg
  ·rename_i b0 b1 b2 a0 a1;cases hg
   have e:(args.map (V.val U)).toArray=#[.agg (jd9 b0 b1 b2 a0 a1)]:=by
    have hto:=toAs0 (U:=U) w has;rw[<-hto];rfl
   rw[e];refine(callsIn_wide.1 (jCl b0 b1 b2 a0 a1 w)).mono ?_;rintro e w' ⟨rfl,h⟩;exact⟨rfl,h⟩
  ·cases hg
 ·intro as_ ob rs hg;unfold gCheckSection at hg;split at hg
  ·cases hg;refine⟨fun a ha c=>?_,fun r hr t c=>?_⟩
   ·simp only[zY]at ha;subst ha;exact fun h=>by cases h
   ·simp only[zY]at hr;subst hr;exact fun h=>by cases h
  ·cases hg
end Go.Sx09
namespace Go.Sh
open Go Go.Proofs Go.RowKit Go.Sx
abbrev sp_179:jaa->jaa:=jaG 179 true (jrQ Sx09.gCheckSection)
def sp_179_ok {sp:jaa} (h:jac Tryz.prog sp):jac Tryz.prog (sp_179 sp):=jap Sx09.checkSection_ok h
end Go.Sh
end

section
namespace Go.Sh
open Go Go.Proofs Go.RowKit Go.Sx
abbrev sp_123:jaa->jaa:=sp_123_124
def sp_123_ok {sp:jaa} (h:jac Tryz.prog sp):jac Tryz.prog (sp_123 sp):=sp_123_124_ok h
abbrev sp_125:jaa->jaa:=sp_125_126
def sp_125_ok {sp:jaa} (h:jac Tryz.prog sp):jac Tryz.prog (sp_125 sp):=sp_125_126_ok h
open Go.IntKind (wrap)
def jg4:List (Option Cont):=[some (.recs 5 [])]
def y38 (c:List (List Int)) (x0:Int):Option (Int ⊕ ((Int × Int) ⊕ Unit)) :=
 if x0<(↑c.length:Int)then
  if 0<=x0∧x0<(↑c.length:Int)then
  if zf x0<zg c then
   if(Sx09.chkS (za (za c x0.toNat []) 0 (0:Int)) (za (za c x0.toNat []) 1 (0:Int)) (za (za c x0.toNat []) 2 (0:Int)) (za (za c x0.toNat []) 3 (0:Int)) (za (za c x0.toNat []) 4 (0:Int))!=0)=true then
   some (.inr ((.inl ((x0,Sx09.chkS (za (za c x0.toNat []) 0 (0:Int)) (za (za c x0.toNat []) 1 (0:Int)) (za (za c x0.toNat []) 2 (0:Int)) (za (za c x0.toNat []) 3 (0:Int)) (za (za c x0.toNat []) 4 (0:Int)))))))
   else
   some (.inl (wrap .i64 (x0+1)))
  else none
  else none
 else
  some (.inr ((.inr ())))
def jkr (u5:Int × Int):Option (Int × Int) :=
 some (u5.1,u5.2)
def jks (u6:Unit):Option (Int × Int) :=
 some (((0:Int),0))
def jgj:((Int × Int) ⊕ Unit)->Option (Int × Int) :=
 (qZ (jkr) (jks))
def y47 (c:List (List Int)):Option (Int × Int) :=
 if(↑c.length:Int)>6 then
  some (((0:Int),8))
 else
  ze (jag (y38 c) big (0:Int)) (jgj)
def y124:List A->Option (Prop × List RV)
 |[.r (.recs 5 c)]=>some (ok (y47 c),[.d (.i .i64 ((val (y47 c)).1)),.d (.i .i64 ((val (y47 c)).2))])
 |_=>none
abbrev sp_174:jaa->jaa:=jaG 174 true (jaK jg4 y124)
abbrev jgk (c:List (List Int)) (r:Int × Int):Lp (Int × Nat) Int (((Int × Int) ⊕ Unit)) (Int × Int) (Int × Int) :=
 ⟨fun z=>z.1,fun z=>z.2,fun z x n=>(x,n),fun z=>y38 c,fun z=>jgj,fun z=>top r,fun z=>0,[.c fun _=>(↑c.length:Int),.c fun vv=>vv.1,.c fun _=>c]⟩
def jnB (c:List (List Int)) (r:Int × Int):Sk (top r) (y47 c) :=
 .br
 (.obT (.obT (.rc)))
 (.loop (jgk c r) (fun kk=>((0:Int),big)) fun z0 =>
 .br
 (.ob (.ob (.obT (.brB
 (.exit (.obT (.obT (.rc))))
 (.next)))))
 (.exit (.obT (.obT (.rc)))))
def jmr (c:List (List Int)) (r:Int × Int) (h:ze (y47 c) some=some r):jco Tryz.f174 ((sp_179 sp0)) (fun gs id _=>match id with
 |0=>some ⟨Int × Nat,fun z=>⟨[(10,.w (.c (.o 0))),(11,.w (.c (.d (.i .i64 ((↑c.length:Int)))))),(12,.w (.c (.d (.i .i64 z.1))))],[(0,.ext (.recs 5 c))],1⟩,fun z=>(jgk c r).inv z,fun z=>z.2⟩
 |_=>none) [.r (.recs 5 c)] [.d (.i .i64 r.1),.d (.i .i64 r.2)] :=
 Sk.vc (jnB c r) (by kernel_rfl) h
def jms:jaf Tryz.prog 174 true (jaK jg4 y124):=by
 refine jaU (sp:=(sp_179 sp0)) (fn:=Tryz.f174) (body:=bodyOf Tryz.f174) mixed (sp_179_ok jau) Tryz.func174 (by kernel_rfl) (by kernel_rfl) fun as_ ob rs h ho=>?_;unfold y124 at h;split at h
 ·rename_i c;cases h;exact⟨zj rfl,_,_,jmr c _ (jar ho)⟩
 ·cases h
def sp_174_ok {sp:jaa} (h:jac Tryz.prog sp):jac Tryz.prog (sp_174 sp):=jap jms h
def jiR:List (Option Cont):=[some (.recs 5 [])]
def y51 (c:List (List Int)):Option Int :=
 ze (y47 c) fun r0 =>
 some r0.2
def jfe:List A->Option (Prop × List RV)
 |[.r (.recs 5 c)]=>some (ok (y51 c),[.d (.i .i64 ((val (y51 c))))])
 |_=>none
abbrev sp_161:jaa->jaa:=jaG 161 true (jaK jiR jfe)
def jqg (c:List (List Int)) (r:Int):Sk (top r) (y51 c) :=
 .call (.obT (.rc))
def joY (c:List (List Int)) (r:Int) (h:ze (y51 c) some=some r):jco Tryz.f161 ((sp_174 sp0)) (fun _ _ _=>none) [.r (.recs 5 c)] [.d (.i .i64 r)] :=
 Sk.vc (jqg c r) (by kernel_rfl) h
def joZ:jaf Tryz.prog 161 true (jaK jiR jfe):=by
 refine jaU (sp:=(sp_174 sp0)) (fn:=Tryz.f161) (body:=bodyOf Tryz.f161) mixed (sp_174_ok jau) Tryz.func161 (by kernel_rfl) (by kernel_rfl) fun as_ ob rs h ho=>?_;unfold jfe at h;split at h
 ·rename_i c;cases h;exact⟨zj rfl,_,_,joY c _ (jar ho)⟩
 ·cases h
def sp_161_ok {sp:jaa} (h:jac Tryz.prog sp):jac Tryz.prog (sp_161 sp):=jap joZ h
def jlt:List (Option Cont):=[some (.recs 5 [])]
def y61 (c:List (List Int)):Option (List (List Int) × Int) :=
 ze (y51 c) fun r0 =>
 if(r0 != 0)=true then
  some ([],r0)
 else
  if 0<=(↑c.length:Int)∧(↑c.length:Int)=(↑c.length:Int)∧(↑(32:Nat):Int)*(↑c.length:Int)<=281474976710656∧(↑c.length:Int)<=9223372036854775807 then
  some ((List.replicate (zf (↑c.length:Int)) [(0:Int),0,0,0],0))
  else none
def jg5:List A->Option (Prop × List RV)
 |[.r (.recs 5 c)]=>some (ok (y61 c),[.row 174 (.recs 4 ((val (y61 c)).1)),.d (.i .i64 ((val (y61 c)).2))])
 |_=>none
abbrev sp_130:jaa->jaa:=jaG 130 true (jaK jlt jg5)
def jta (c:List (List Int)) (r:List (List Int) × Int):Sk (top r) (y61 c) :=
 .call (.brB
 (.obT (.obT (.ret (fun r=>(Ob (zg r.1=(0:Nat)) ∧
 (Ob (val (y51 c)=r.2) ∧
 True))) ⟨⟨rfl⟩,⟨⟨rfl⟩,trivial⟩⟩)))
 (.ob (.obT (.obT (.rc)))))
def jrA (c:List (List Int)) (r:List (List Int) × Int) (h:ze (y61 c) some=some r):jco Tryz.f130 ((sp_161 sp0)) (fun _ _ _=>none) [.r (.recs 5 c)] [.row 174 (.recs 4 r.1),.d (.i .i64 r.2)] :=
 Sk.vc (jta c r) (by kernel_rfl) h
def jrB:jaf Tryz.prog 130 true (jaK jlt jg5):=by
 refine jaU (sp:=(sp_161 sp0)) (fn:=Tryz.f130) (body:=bodyOf Tryz.f130) mixed (sp_161_ok jau) Tryz.func130 (by kernel_rfl) (by kernel_rfl) fun as_ ob rs h ho=>?_;unfold jg5 at h;split at h
 ·rename_i c;cases h;exact⟨zj rfl,_,_,jrA c _ (jar ho)⟩
 ·cases h
def sp_130_ok {sp:jaa} (h:jac Tryz.prog sp):jac Tryz.prog (sp_130 sp):=jap jrB h
def jie:List SV:=[.a [.d,.x (.st zS [])],.c (.d)]
def jdv (u4:ByteArray) (u1:List (List NC)) (i:Int):Option Int :=
 if 0<=i∧i<(↑u1.length:Int)then
  if zf i<zg u1 then
  ze (y50 (nI u1 i.toNat (7:Nat)) u4 u1) fun r0 =>
  if(!r0)=true then
   if(nI u1 i.toNat (7:Nat)!=(-1:Int))=true then
   ze (y67 (nS u1 i.toNat (0:Nat))) fun r1 =>
   if(!r1)=true then
    some (4:Int)
   else
    if(nS u1 i.toNat (0:Nat)==qi #[(115:UInt8),(116:UInt8),(97:UInt8),(110:UInt8),(100:UInt8)])=true then
    some (4:Int)
    else
    if 0<=qK none (0:Int)∧qK none 0<=qK (some i) (↑u1.length:Int)∧qK (some i) (↑u1.length:Int)<=(↑u1.length:Int)then
     ze (y1 (fi (zf (qK (some i) (↑u1.length:Int))-0) (fj (0:Nat) u1)) (nS u1 i.toNat (0:Nat)) (nI u1 i.toNat (1:Nat)) (nL u1 i.toNat (2:Nat)) (nL u1 i.toNat (3:Nat)) (nL u1 i.toNat (4:Nat)) (nI u1 i.toNat (5:Nat)) (nR u1 i.toNat (6:Nat)) (nI u1 i.toNat (7:Nat))) fun r2 =>
     if(r2)=true then
     some (5:Int)
     else
     ze (y30 (nI u1 i.toNat (1:Nat)) (0:Int) (4:Int)) fun r3 =>
     if(!r3)=true then
      some (15:Int)
     else
      ze (y89 (nS u1 i.toNat (0:Nat)) (nI u1 i.toNat (1:Nat)) (nL u1 i.toNat (2:Nat)) (nL u1 i.toNat (3:Nat)) (nL u1 i.toNat (4:Nat)) (nI u1 i.toNat (5:Nat)) (nR u1 i.toNat (6:Nat)) (nI u1 i.toNat (7:Nat))) fun r4 =>
      if(!r4)=true then
      some (10:Int)
      else
      some (6:Int)
    else none
   else
   ze (y4 (nL u1 i.toNat (2:Nat)) u4 u1) fun r5 =>
   ze (y67 (nS u1 i.toNat (0:Nat))) fun r1 =>
   if(!r1)=true then
    some (4:Int)
   else
    if(nS u1 i.toNat (0:Nat)==qi #[(115:UInt8),(116:UInt8),(97:UInt8),(110:UInt8),(100:UInt8)])=true then
    some (4:Int)
    else
    if 0<=qK none (0:Int)∧qK none 0<=qK (some i) (↑u1.length:Int)∧qK (some i) (↑u1.length:Int)<=(↑u1.length:Int)then
     ze (y1 (fi (zf (qK (some i) (↑u1.length:Int))-0) (fj (0:Nat) u1)) (nS u1 i.toNat (0:Nat)) (nI u1 i.toNat (1:Nat)) (nL u1 i.toNat (2:Nat)) (nL u1 i.toNat (3:Nat)) (nL u1 i.toNat (4:Nat)) (nI u1 i.toNat (5:Nat)) (nR u1 i.toNat (6:Nat)) (nI u1 i.toNat (7:Nat))) fun r2 =>
     if(r2)=true then
     some (5:Int)
     else
     ze (y30 (nI u1 i.toNat (1:Nat)) (0:Int) (4:Int)) fun r3 =>
     if(!r3)=true then
      some (15:Int)
     else
      ze (y89 (nS u1 i.toNat (0:Nat)) (nI u1 i.toNat (1:Nat)) (nL u1 i.toNat (2:Nat)) (nL u1 i.toNat (3:Nat)) (nL u1 i.toNat (4:Nat)) (nI u1 i.toNat (5:Nat)) (nR u1 i.toNat (6:Nat)) (nI u1 i.toNat (7:Nat))) fun r4 =>
      if(!r4)=true then
      some (10:Int)
      else
      if(r5)=true then
       some (6:Int)
      else
       ze (y84 (nL u1 i.toNat (2:Nat))) fun r6 =>
       if(r6)=true then
       some (26:Int)
       else
       ze (jdu (nS u1 i.toNat (0:Nat)) (nI u1 i.toNat (1:Nat)) (nL u1 i.toNat (2:Nat)) (nL u1 i.toNat (3:Nat)) (nL u1 i.toNat (4:Nat)) (nI u1 i.toNat (5:Nat)) (nR u1 i.toNat (6:Nat)) (nI u1 i.toNat (7:Nat))) fun r7 =>
       if(!r7)=true then
        some (2:Int)
       else
        if(nI u1 i.toNat (1:Nat)!=3)=true then
        ze (y71 ((↑(zg (nR u1 i.toNat (6:Nat))):Int)==0) (10:Int)) fun r8 =>
        some r8
        else
        ze (y61 (nR u1 i.toNat (6:Nat))) fun r9 =>
        some r9.2
    else none
  else
   ze (y4 (nL u1 i.toNat (2:Nat)) u4 u1) fun r5 =>
   ze (y67 (nS u1 i.toNat (0:Nat))) fun r1 =>
   if(!r1)=true then
   some (4:Int)
   else
   if(nS u1 i.toNat (0:Nat)==qi #[(115:UInt8),(116:UInt8),(97:UInt8),(110:UInt8),(100:UInt8)])=true then
    some (4:Int)
   else
    if 0<=qK none (0:Int)∧qK none 0<=qK (some i) (↑u1.length:Int)∧qK (some i) (↑u1.length:Int)<=(↑u1.length:Int)then
    ze (y1 (fi (zf (qK (some i) (↑u1.length:Int))-0) (fj (0:Nat) u1)) (nS u1 i.toNat (0:Nat)) (nI u1 i.toNat (1:Nat)) (nL u1 i.toNat (2:Nat)) (nL u1 i.toNat (3:Nat)) (nL u1 i.toNat (4:Nat)) (nI u1 i.toNat (5:Nat)) (nR u1 i.toNat (6:Nat)) (nI u1 i.toNat (7:Nat))) fun r2 =>
    if(r2)=true then
     some (5:Int)
    else
     ze (y30 (nI u1 i.toNat (1:Nat)) (0:Int) (4:Int)) fun r3 =>
     if(!r3)=true then
     some (15:Int)
     else
     ze (y89 (nS u1 i.toNat (0:Nat)) (nI u1 i.toNat (1:Nat)) (nL u1 i.toNat (2:Nat)) (nL u1 i.toNat (3:Nat)) (nL u1 i.toNat (4:Nat)) (nI u1 i.toNat (5:Nat)) (nR u1 i.toNat (6:Nat)) (nI u1 i.toNat (7:Nat))) fun r4 =>
     if(!r4)=true then
      some (10:Int)
     else
      if(r5)=true then
      some (6:Int)
      else
      ze (y84 (nL u1 i.toNat (2:Nat))) fun r6 =>
      if(r6)=true then
       some (26:Int)
      else
       ze (jdu (nS u1 i.toNat (0:Nat)) (nI u1 i.toNat (1:Nat)) (nL u1 i.toNat (2:Nat)) (nL u1 i.toNat (3:Nat)) (nL u1 i.toNat (4:Nat)) (nI u1 i.toNat (5:Nat)) (nR u1 i.toNat (6:Nat)) (nI u1 i.toNat (7:Nat))) fun r7 =>
       if(!r7)=true then
       some (2:Int)
       else
       if(nI u1 i.toNat (1:Nat)!=3)=true then
        ze (y71 ((↑(zg (nR u1 i.toNat (6:Nat))):Int)==0) (10:Int)) fun r8 =>
        some r8
       else
        ze (y61 (nR u1 i.toNat (6:Nat))) fun r9 =>
        some r9.2
    else none
  else none
 else none
def jif:List Lf->Option GT
 |[.d (.s u4),.x (.st [.s,.i .i64,.ints .i64,.ints .i64,.ints .i64,.i .i64,.recs 5,.i .i64] u1),.d (.i .i64 i)]=>some (.leaf (ok (jdv u4 u1 i)) [.c (.d (.i .i64 ((val (jdv u4 u1 i)))))])
 |_=>none
abbrev sp_79:jaa->jaa:=jaG 79 true (jai jie jif)
def ju2 (u4:ByteArray) (u1:List (List NC)) (i r:Int):Sk (top r) (jdv u4 u1 i) :=
 .ob (.ob (.call (.brB
 (.brB
 (.call (.brB
 (.obT (.rc))
 (.brB
 (.obT (.rc))
 (.ob (.call (.brB
 (.obT (.rc))
 (.call (.brB
 (.obT (.rc))
 (.call (.brB
 (.obT (.rc))
 (.obT (.rc))))))))))))
 (.call (.call (.brB
 (.obT (.rc))
 (.brB
 (.obT (.rc))
 (.ob (.call (.brB
 (.obT (.rc))
 (.call (.brB
 (.obT (.rc))
 (.call (.brB
 (.obT (.rc))
 (.brB
 (.obT (.rc))
 (.call (.brB
 (.obT (.rc))
 (.call (.brB
 (.obT (.rc))
 (.brB
 (.call (.obT (.rc)))
 (.call (.obT (.rc)))))))))))))))))))))
 (.call (.call (.brB
 (.obT (.rc))
 (.brB
 (.obT (.rc))
 (.ob (.call (.brB
 (.obT (.rc))
 (.call (.brB
 (.obT (.rc))
 (.call (.brB
 (.obT (.rc))
 (.brB
 (.obT (.rc))
 (.call (.brB
 (.obT (.rc))
 (.call (.brB
 (.obT (.rc))
 (.brB
 (.call (.obT (.rc)))
 (.call (.obT (.rc)))))))))))))))))))))))
def jtb (u4:ByteArray) (u1:List (List NC)) (i r:Int) (h:ze (jdv u4 u1 i) some=some r):jbl Tryz.f79 ((sp_122 (sp_124 (sp_123 (sp_78 (sp_126 (sp_125 (sp_84 (sp_127 (sp_128 (sp_129 (sp_77 (sp_130 sp0))))))))))))) (fun _ _ _=>none) (jbd jie [.d (.s u4),.x (.st zS u1),.d (.i .i64 i)]) [.c (.d (.i .i64 r))] :=
 Sk.vc (ju2 u4 u1 i r) (by kernel_rfl) h
def jtc:jaf Tryz.prog 79 true (jai jie jif):=by
 refine jaC (sp:=(sp_122 (sp_124 (sp_123 (sp_78 (sp_126 (sp_125 (sp_84 (sp_127 (sp_128 (sp_129 (sp_77 (sp_130 sp0))))))))))))) (fn:=Tryz.f79) (body:=bodyOf Tryz.f79) mixed (sp_122_ok (sp_124_ok (sp_123_ok (sp_78_ok (sp_126_ok (sp_125_ok (sp_84_ok (sp_127_ok (sp_128_ok (sp_129_ok (sp_77_ok (sp_130_ok jau)))))))))))) Tryz.func79 (by kernel_rfl) (by kernel_rfl) fun ls t h ho b hb=>?_;unfold jif at h;split at h
 ·rename_i u4 u1 i;cases h;obtain rfl:=jaN hb;exact⟨zj (by kernel_rfl),_,_,jtb u4 u1 i _ (jar ho)⟩
 ·cases h
def sp_79_ok {sp:jaa} (h:jac Tryz.prog sp):jac Tryz.prog (sp_79 sp):=jap jtc h
def jff:List SV:=[.a [.d,.x (.st zS [])]]
def y36 (u4:ByteArray) (u1:List (List NC)) (x0:Int):Option (Int ⊕ ((Int × Int) ⊕ Unit)) :=
 if x0<(↑u1.length:Int)then
  ze (jdv u4 u1 x0) fun r4 =>
  if(r4 != 0)=true then
  some (.inr ((.inl (x0,r4))))
  else
  some (.inl (wrap .i64 (x0+1)))
 else
  some (.inr ((.inr ())))
def jmt (u5:Int × Int):Option (Int × Int) :=
 some (u5.1,u5.2)
def jmu (u6:Unit):Option (Int × Int) :=
 some (((0:Int),0))
def y130:((Int × Int) ⊕ Unit)->Option (Int × Int) :=
 (qZ (jmt) (jmu))
def y28 (u4:ByteArray) (u1:List (List NC)):Option (Int × Int) :=
 ze (y67 u4) fun r0 =>
 ze (y71 r0 (4:Int)) fun r1 =>
 ze (y71 (decide ((↑u1.length:Int)<=24)) (8:Int)) fun r2 =>
 ze (jfc [r1,r2]) fun r3 =>
 if(r3 != 0)=true then
  some (((0:Int),r3))
 else
  ze (jag (y36 u4 u1) big (0:Int)) (y130)
def jfg:List Lf->Option GT
 |[.d (.s u4),.x (.st [.s,.i .i64,.ints .i64,.ints .i64,.ints .i64,.i .i64,.recs 5,.i .i64] u1)]=>some (.leaf (ok (y28 u4 u1)) [.c (.d (.i .i64 ((val (y28 u4 u1)).1))),.c (.d (.i .i64 ((val (y28 u4 u1)).2)))])
 |_=>none
abbrev sp_18:jaa->jaa:=jaG 18 true (jai jff jfg)
abbrev jhK (u4:ByteArray) (u1:List (List NC)) (r:Int × Int):Lp (Int × Nat) Int (((Int × Int) ⊕ Unit)) (Int × Int) (Int × Int) :=
 ⟨fun z=>z.1,fun z=>z.2,fun z x n=>(x,n),fun z=>y36 u4 u1,fun z=>y130,fun z=>top r,fun z=>0,[.c fun _=>0,.c fun _=>(↑u1.length:Int),.c fun vv=>vv.1,.c fun _=>u4,.c fun _=>u1]⟩
def jqh (u4:ByteArray) (u1:List (List NC)) (r:Int × Int):Sk (top r) (y28 u4 u1) :=
 .call (.call (.call (.call (.brB
 (.obT (.obT (.rc)))
 (.loop (jhK u4 u1 r) (fun kk=>((0:Int),big)) fun z0 =>
 .br
 (.call (.brB
 (.exit (.obT (.obT (.rc))))
 (.next)))
 (.exit (.obT (.obT (.rc)))))))))
def jo0 (u4:ByteArray) (u1:List (List NC)) (r:Int × Int) (h:ze (y28 u4 u1) some=some r):jbl Tryz.f18 ((sp_78 (sp_77 (sp_76 (sp_79 sp0))))) (fun gs id _=>match id with
 |0=>some ⟨Int × Nat,fun z=>⟨[(1,.w (.c (.p 1 0 1 0))),(23,.w (.c (.d (.i .i64 ((↑u1.length:Int)))))),(24,.w (.c (.d (.i .i64 z.1))))],[(1,.box 24 [.d (.s u4),.o 0]),(0,.xext (XC.st zS u1))],2⟩,fun z=>(jhK u4 u1 r).inv z,fun z=>z.2⟩
 |_=>none) (jbd jff [.d (.s u4),.x (.st zS u1)]) [.c (.d (.i .i64 r.1)),.c (.d (.i .i64 r.2))] :=
 Sk.vc (jqh u4 u1 r) (by kernel_rfl) h
def jo1:jaf Tryz.prog 18 true (jai jff jfg):=by
 refine jaC (sp:=(sp_78 (sp_77 (sp_76 (sp_79 sp0))))) (fn:=Tryz.f18) (body:=bodyOf Tryz.f18) mixed (sp_78_ok (sp_77_ok (sp_76_ok (sp_79_ok jau)))) Tryz.func18 (by kernel_rfl) (by kernel_rfl) fun ls t h ho b hb=>?_;unfold jfg at h;split at h
 ·rename_i u4 u1;cases h;obtain rfl:=jaN hb;exact⟨zj (by kernel_rfl),_,_,jo0 u4 u1 _ (jar ho)⟩
 ·cases h
def sp_18_ok {sp:jaa} (h:jac Tryz.prog sp):jac Tryz.prog (sp_18 sp):=jap jo1 h
end Go.Sh
end

section
namespace Go.Sh
open Go Go.Proofs Go.RowKit Go.Sx
open Go.IntKind (wrap)
def jAa {body:Int->Option (Int ⊕ (Unit ⊕ Unit))} (n:Nat) (hlen:n<9223372036854775807)
  (h:∀i,i<n->body (i:Int)=some (.inl ((i:Int)+1))∨body (i:Int)=some (.inr (.inl ()))) (h3:body (n:Int)=some (.inr (.inr ()))) :
  ∃b:Bool,jag body big 0=some (if b=true then .inl ()else .inr ()):=by
 classical
 refine⟨(zG n).any fun i=>decide (body (i:Int)=some (.inr (.inl ()))),?_⟩;exact jdD n (fun i=>decide (body (i:Int)=some (.inr (.inl ())))) (.inl ()) (.inr ()) hlen (fun i hi hp=>of_decide_eq_true hp) (fun i hi hp=>(h i hi).resolve_right (of_decide_eq_false hp)) h3
def inB (n lo hi:Int):Bool:=decide (lo<=n)&&decide (n<=hi)
def jbp (n lo hi:Int):y11 n lo hi=some (inB n lo hi):=by
 unfold y11 inB;split
 ·rename_i h;simp[h]
 ·rename_i h;simp[h]
def jda (n lo hi:Int):y30 n lo hi=some (inB n lo hi):=by
 unfold y30 inB;split
 ·rename_i h;simp[h]
 ·rename_i h;simp[h]
def jo2 (n:Int):je7 n 4000=some (inB n (-4000) 4000):=by
 unfold je7;rw[show wrap xF ((0:Int)-4000)=-4000 from by rw[jaF (by omega)];rfl,jda];rfl
def jm1 (b:Bool) (e:Int):y71 b e=some (if b=true then 0 else e):=by
 unfold y71;cases b<;>rfl
def jfh (l:List Int) (n:Int) (hl:l.length<9223372036854775807):jfz l n=some (l.any (·== n)):=by
 unfold jfz;rw[jcU l 0 (·== n) (.inl ()) (.inr ()) hl (fun i hi hp=>?_) (fun i hi hp=>?_) ?_]
 ·cases l.any (·== n)<;>rfl
 ·unfold jgY;simp only[zm];rw[if_neg (by omega)]
 ·unfold jgY;simp only[zm];rw[if_pos (by omega),if_pos (by omega),if_pos hi,if_pos hp]
 ·unfold jgY;simp only[zm];rw[if_pos (by omega),if_pos (by omega),if_pos hi,if_neg (by rw[hp];exact qH),jaF (by omega)]
def jga (l:List Int) (hl:l.length<=100):y58 l=some l:=by
 unfold y58;rw[if_pos (by omega)];rfl
def jlu (a:List Int) (hl:a.length<9223372036854775807):jc0 a a=some true:=by
 unfold jc0;rw[if_neg (by simp)];rw[jcU a 0 (fun _=>false) (.inl ()) (.inr ()) hl (fun i hi hp=>by cases hp) (fun i hi hp=>?_) ?_]
 ·have:a.any (fun _=>false)=false:=by simp
  rw[this];rfl
 ·unfold jhJ;simp only[zm];rw[if_neg (by omega)]
 ·unfold jhJ;simp only[zm];rw[if_pos (by omega),if_pos (by omega),if_pos hi,if_pos (by omega),if_pos hi,if_neg (by simp),jaF (by omega)]
def jBI:jh2=y74:=rfl
set_option maxHeartbeats 4000000 in
def jAb (s:ByteArray) (hs:s.size<1000):∃b:Bool,jag (y74 s) big 0=some (if b=true then .inl ()else .inr ()):=by
 refine jAa s.size (by omega) (fun i hi=>?_) ?_
 ·unfold y74;rw[if_pos (by omega),if_pos (by omega),jaF (by omega)]
  repeat' (first|exact .inl rfl|exact .inr rfl|split)
 ·unfold y74;rw[if_neg (by omega)]
def jvN (s:ByteArray) (hs:s.size<1000):∃b:Bool,y67 s=some b∧y72 s=some b:=by
 obtain⟨b,hb⟩:=jAb s hs;unfold y67 y72;rw[jBI,hb]
 have hne:(s != qi #[])=true<->1<=s.size:=by
  constructor
  ·intro h;refine Nat.pos_of_ne_zero fun h0=>?_
   have:s=qi #[]:=by
    cases s with
    |mk d =>
     have:d.size=0:=h0;rw[Array.eq_empty_of_size_eq_zero this]
   rw[this]at h;exact absurd h (by decide)
  ·intro h;cases hb:(s != qi #[])
   ·exfalso;have:(s==qi #[])=true:=by simpa [bne]using hb
    cases s with
    |mk d =>
     have h2:(d == #[])=true:=this;have e:d=#[]:=eq_of_beq h2;subst e;exact absurd h (by decide)
   ·rfl
 cases b with
 |true =>
  refine⟨false,rfl,?_⟩;split
  ·rfl
  ·split<;>rfl
 |false =>
  show ∃b,(if(s != qi #[])=true then some (decide ((s.size:Int)<=12))else some false)=some b∧_
  by_cases h1:1<=s.size
  ·rw[if_pos (hne.2 h1),if_neg (by omega)]
   by_cases h2:(s.size:Int)>12
   ·rw[if_pos h2];exact⟨false,by simp;omega,rfl⟩
   ·rw[if_neg h2];exact⟨true,by simp;omega,rfl⟩
  ·rw[if_neg (fun h=>h1 (hne.1 h)),if_pos (by omega)];exact⟨false,rfl,rfl⟩
end Go.Sh
end

section
namespace Go.Sh
open Go Go.Proofs Go.RowKit Go.Sx
def jdZ (n:Nat) (l:List Int):Bool:=l.any fun x=>!inB x 0 ((n:Int)-1)
def jg6 (l:List Int):Bool:=(zG l.length).any fun i=>(l.take i).any (·== l.getD i 0)
def jea (r:List Int):Bool:=[r.getD 0 0,r.getD 1 0,r.getD 2 0,r.getD 3 0,r.getD 4 0].all Sx09.partB
def jcV (c:List (List Int)):Int:=if(c.length:Int)>6 then 8 else if c.any (fun r=>!jea r)=true then 2 else 0
def exB (g:List (List NC)) (i:Nat):Bool:=(zG i).any fun k=>nS g k 0==nS g i 0
def jAc (l:List Int) (nm:ByteArray) (g:List (List NC)) (hl:l.length<1000) (hg:g.length<1000):y4 l nm g=some (jdZ g.length l):=by
 have hb:∀x:Int,y75 x nm g=some (!inB x 0 ((g.length:Int)-1)):=fun x=>by
  unfold y75 y50;rw[jaF (by omega),jda];rfl
 unfold y4 y13;rw[jbU l 0 (fun x=>!inB x 0 ((g.length:Int)-1)) (fun i=>.inl (i:Int)) (.inr ()) (by omega) (fun i hi hp=>?_) (fun i hi hp=>?_) ?_]
 ·unfold jdZ;cases hf:l.findIdx? (fun x=>!inB x 0 ((g.length:Int)-1))with
  |none =>
   have:l.any (fun x=>!inB x 0 ((g.length:Int)-1))=false:=by
    rw[xR]at hf;rw[xL];intro x hx;simp[hf x hx]
   rw[this];rfl
  |some i =>
   have:l.any (fun x=>!inB x 0 ((g.length:Int)-1))=true:=by
    rw[qW]at hf;obtain⟨h,hp,_⟩:=hf;exact yd.2 ⟨_,xC h,hp⟩
   rw[this]
   show some (decide ((i:Int)>=0))=some true
   simp
 ·unfold y14;simp only[zm];rw[if_neg (by omega)]
 ·unfold y14;simp only[zm];rw[if_pos (by omega),if_pos (by omega),if_pos hi,hb,jad,if_pos hp]
 ·unfold y14;simp only[zm];rw[if_pos (by omega),if_pos (by omega),if_pos hi,hb,jad,if_neg (by rw[hp];exact qH),jaF (by omega)]
def jvO (g:List (List NC)) {i k:Nat} (h:k<i) (j:Nat):nS (g.take i) k j=nS g k j:=by
 unfold nS;simp[za,List.getElem?_take,h]
def jwV (g:List (List NC)) (i:Nat) (hi0:i<g.length) (hg:g.length<1000) (a:Int) (b c d:List Int) (e:Int) (f:List (List Int)) (s:Int) :
  y1 (g.take i) (nS g i 0) a b c d e f s=some (exB g i):=by
 have hlen:(g.take i).length=i:=by simp;omega
 unfold y1 y7
 have key:=jbU (body:=y3 (g.take i) (nS g i 0) a b c d e f s) (zG i) 0 (fun k=>nS g k 0==nS g i 0) (fun i=>.inl (i:Int)) (.inr ()) (by simp;omega) (fun k hk hp=>by
   have hk:k<i:=by simpa using hk
   have hr:(zG i).getD k 0=k:=by simp[za,hk]
   rw[hr]at hp;unfold y3;simp only[zm];rw[hlen,if_pos (by omega),if_pos (by omega),if_pos hk];unfold y76;rw[jad,jvO g hk,if_pos hp]) (fun k hk hp=>by
   have hk:k<i:=by simpa using hk
   have hr:(zG i).getD k 0=k:=by simp[za,hk]
   rw[hr]at hp;unfold y3;simp only[zm];rw[hlen,if_pos (by omega),if_pos (by omega),if_pos hk];unfold y76;rw[jad,jvO g hk,if_neg (by rw[hp];exact qH),jaF (by omega)]) (by
   unfold y3;simp only[zm];rw[hlen,if_neg (by simp)])
 rw[key];unfold exB;cases hf:(zG i).findIdx? (fun k=>nS g k 0==nS g i 0)with
 |none =>
  have:(zG i).any (fun k=>nS g k 0==nS g i 0)=false:=by
   rw[xR]at hf;rw[xL];intro x hx;simp[hf x hx]
  rw[this];rfl
 |some m =>
  have:(zG i).any (fun k=>nS g k 0==nS g i 0)=true:=by
   rw[qW]at hf;obtain⟨h,hp,_⟩:=hf;exact yd.2 ⟨_,xC h,hp⟩
  rw[this]
  show some (decide ((m:Int)>=0))=some true
  simp
def jlv (l:List Int) (v:Int) (hl:l.length<1000):y16 l v=some (l.any (·== v)):=by
 unfold y16 y46;rw[jbU l 0 (fun x=>v==x) (fun i=>.inl (i:Int)) (.inr ()) (by omega) (fun i hi hp=>?_) (fun i hi hp=>?_) ?_]
 ·have hsym:l.any (·== v)=l.any (fun x=>v==x):=by
   congr 1
   funext x;exact Bool.beq_comm
  rw[hsym];cases hf:l.findIdx? (fun x=>v==x)with
  |none =>
   have:l.any (fun x=>v==x)=false:=by
    rw[xR]at hf;rw[xL];intro x hx;simp[hf x hx]
   rw[this];rfl
  |some i =>
   have:l.any (fun x=>v==x)=true:=by
    rw[qW]at hf;obtain⟨h,hp,_⟩:=hf;exact yd.2 ⟨_,xC h,hp⟩
   rw[this]
   show some (decide ((i:Int)>=0))=some true
   simp
 ·unfold y43;simp only[zm];rw[if_neg (by omega)]
 ·unfold y43;simp only[zm];rw[if_pos (by omega),if_pos (by omega),if_pos hi,if_pos hp]
 ·unfold y43;simp only[zm];rw[if_pos (by omega),if_pos (by omega),if_pos hi,if_neg (by rw[hp];exact qH),jaF (by omega)]
def ju3 (l:List Int) (hl:l.length<1000):y84 l=some (jg6 l):=by
 unfold y84
 have key:=jdD (body:=y81 l) l.length (fun i=>(l.take i).any (·== l.getD i 0)) (.inl ()) (.inr ()) (by omega) (fun i hi hp=>by
   unfold y81;simp only[zm];rw[if_pos (by omega),if_pos (by omega),if_pos hi,if_pos (by simp only[qK];omega)];simp only[zU,zm,jH,jO];rw[jlv _ _ (by simp;omega),jad,if_pos hp]) (fun i hi hp=>by
   unfold y81;simp only[zm];rw[if_pos (by omega),if_pos (by omega),if_pos hi,if_pos (by simp only[qK];omega)];simp only[zU,zm,jH,jO];rw[jlv _ _ (by simp;omega),jad,if_neg (by rw[hp];exact qH),jaF (by omega)]) (by
   unfold y81;simp only[zm];rw[if_neg (by omega)])
 rw[key];unfold jg6;cases (zG l.length).any (fun i=>(l.take i).any (·== l.getD i 0))<;>rfl
def jcj (kd:Int) (al ga:List Int) (de:Int):Bool:=!(al.any fun x=>!inB x 0 64) && !(ga.any fun x=>!inB x (-4000) 4000)&&inB de 0 64&&(kd==2||de==0)
def jwW (nm:ByteArray) (kd:Int) (fr al ga:List Int) (de:Int) (ca:List (List Int)) (sd:Int) (ha:al.length<1000) (hg:ga.length<1000):jdu nm kd fr al ga de ca sd=some (jcj kd al ga de):=by
 have hr1:∀x:Int,y60 x=some (inB x 0 64):=fun x=>by unfold y60;rw[jda];rfl
 have kg:=jcU (body:=y62 ga) ga 0 (fun x=>!inB x (-4000) 4000) (.inl ()) (.inr ()) (by omega) (fun i hi hp=>by
   unfold y62;simp only[zm];rw[if_pos (by omega),if_pos (by omega),if_pos hi,jo2,jad,if_pos hp]) (fun i hi hp=>by
   unfold y62;simp only[zm];rw[if_pos (by omega),if_pos (by omega),if_pos hi,jo2,jad,if_neg (by rw[hp];exact qH),jaF (by omega)]) (by
   unfold y62;simp only[zm];rw[if_neg (by omega)])
 have ka:=jcU (body:=y77 al) al 0 (fun x=>!inB x 0 64) (.inl ()) (.inr ()) (by omega) (fun i hi hp=>by
   unfold y77;simp only[zm];rw[if_pos (by omega),if_pos (by omega),if_pos hi,hr1,jad,if_pos hp]) (fun i hi hp=>by
   unfold y77;simp only[zm];rw[if_pos (by omega),if_pos (by omega),if_pos hi,hr1,jad,if_neg (by rw[hp];exact qH),jaF (by omega)]) (by
   unfold y77;simp only[zm];rw[if_neg (by omega)])
 unfold jdu jcj;rw[ka];cases al.any (fun x=>!inB x 0 64)with
 |true=>rfl
 |false =>
  show(jag (y62 ga) big 0).bind (jfA kd de)=_
  rw[kg];cases ga.any (fun x=>!inB x (-4000) 4000)with
  |true=>rfl
  |false =>
   show(y60 de).bind _=_
   rw[hr1,jad];cases inB de 0 64 with
   |false=>rfl
   |true=>cases hk:(kd==2)<;>simp
def jm2 {α:Type} (l:List α) (P:α->Bool):(l.findIdx? P).isSome=l.any P:=by
 induction l with
 |nil=>rfl
 |cons x r ih =>
  rw[ye,jb];cases P x with
  |true=>rfl
  |false=>simp[ih]
def jvP (r:List Int):y31 (r.getD 0 0) (r.getD 1 0) (r.getD 2 0) (r.getD 3 0) (r.getD 4 0)=some (if jea r=true then 0 else 2):=by
 unfold y31
 have key:=jcU (body:=y24 (r.getD 0 0) (r.getD 1 0) (r.getD 2 0) (r.getD 3 0) (r.getD 4 0)) [r.getD 0 0,r.getD 1 0,r.getD 2 0,r.getD 3 0,r.getD 4 0] 0 (fun x=>!inB x (-32768) 32768) (.inl ()) (.inr ()) (by simp) (fun i hi hp=>by
   unfold y24;simp only[zm];rw[if_pos (by omega),if_pos (by omega),if_pos hi,jbp,jad,if_pos hp]) (fun i hi hp=>by
   unfold y24;simp only[zm];have hi5:i<5:=hi;rw[if_pos (by omega),if_pos (by omega),if_pos hi,jbp,jad,if_neg (by rw[hp];exact qH),jaF (by omega)]) (by
   unfold y24;simp only[zm];rw[if_neg (by omega)])
 rw[key]
 have e:([r.getD 0 0,r.getD 1 0,r.getD 2 0,r.getD 3 0,r.getD 4 0].any fun x=>!inB x (-32768) 32768)=!jea r:=by
  unfold jea;rw[List.all_eq_not_any_not];simp only[Bool.not_not];rfl
 rw[e];cases jea r<;>rfl
def jAd (c:List (List Int)) (hc:c.length<1000):(y15 c).bind (fun r=>some r.2)=some (jcV c):=by
 unfold y15 jcV;split
 ·rfl
 ·have key:=jbU (body:=y25 c) c [] (fun r=>!jea r) (fun i=>.inl ((i:Int),2)) (.inr ()) (by omega) (fun i hi hp=>by
    unfold y25;simp only[zm];have hp:jea (c.getD i [])=false:=by simpa using hp
    rw[if_pos (by omega),if_pos (by omega),if_pos hi,jvP,hp,jad];rfl) (fun i hi hp=>by
    unfold y25;simp only[zm];have hp:jea (c.getD i [])=true:=by simpa using hp
    rw[if_pos (by omega),if_pos (by omega),if_pos hi,jvP,hp,jad,jaF (by omega)];rfl) (by
    unfold y25;simp only[zm];rw[if_neg (by omega)])
  rw[key,<-jm2];cases c.findIdx? (fun r=>!jea r)<;>rfl
def jAe (c:List (List Int)) (hc:c.length<1000):(y61 c).bind (fun r=>some r.2)=some (jcV c):=by
 have h1:y51 c=some (jcV c):=by
  unfold y51 y47 jcV;split
  ·rfl
  ·have key:=jbU (body:=y38 c) c [] (fun r=>!jea r) (fun i=>.inl ((i:Int),2)) (.inr ()) (by omega) (fun i hi hp=>by
     unfold y38;simp only[zm];have hp:jea (c.getD i [])=false:=by simpa using hp
     have hs:Sx09.chkS ((c.getD i []).getD 0 0) ((c.getD i []).getD 1 0) ((c.getD i []).getD 2 0) ((c.getD i []).getD 3 0) ((c.getD i []).getD 4 0)=2:=by
      unfold Sx09.chkS;unfold jea at hp;rw[if_neg (by rw[hp];exact qH)]
     rw[if_pos (by omega),if_pos (by omega),if_pos hi,hs];rfl) (fun i hi hp=>by
     unfold y38;simp only[zm];have hp:jea (c.getD i [])=true:=by simpa using hp
     have hs:Sx09.chkS ((c.getD i []).getD 0 0) ((c.getD i []).getD 1 0) ((c.getD i []).getD 2 0) ((c.getD i []).getD 3 0) ((c.getD i []).getD 4 0)=0:=by
      unfold Sx09.chkS;unfold jea at hp;rw[if_pos hp]
     rw[if_pos (by omega),if_pos (by omega),if_pos hi,hs,jaF (by omega)];rfl) (by
     unfold y38;simp only[zm];rw[if_neg (by omega)])
   rw[key,<-jm2];cases c.findIdx? (fun r=>!jea r)<;>rfl
 unfold y61;rw[h1,jad];cases hz:(jcV c != 0)with
 |true=>rfl
 |false =>
  have h0:jcV c=0:=by simpa using hz
  rw[if_neg (by simp),if_pos (by omega),h0];rfl
def jeH (s:ByteArray):Bool:=(y72 s).getD false
def jtd {s:ByteArray} (hs:s.size<1000):y72 s=some (jeH s):=by
 obtain⟨b,_,h2⟩:=jvN s hs;unfold jeH;rw[h2];rfl
def jte {s:ByteArray} (hs:s.size<1000):y67 s=some (jeH s):=by
 obtain⟨b,h1,h2⟩:=jvN s hs;unfold jeH;rw[h1,h2];rfl
def jfi (kd:Int) (f a g:Nat):Bool :=
 if(kd==0)=true then inB (f:Int) 0 0&&((a:Int)==(f:Int))&&((g:Int)==0)
 else if(kd==1)=true then inB (f:Int) 1 6&&((a:Int)==(f:Int))&&((g:Int)==(f:Int))
 else inB (f:Int) 1 1&&((a:Int)==(f:Int))&&((g:Int)==0)
def jwX (nm:ByteArray) (kd:Int) (fr al ga:List Int) (de:Int) (ca:List (List Int)) (sd:Int):y89 nm kd fr al ga de ca sd=some (jfi kd fr.length al.length ga.length):=by
 unfold y89 jfi;simp only[jda,jad]
 generalize (kd==0)=k0
 generalize (kd==1)=k1
 generalize inB (fr.length:Int) 0 0=c1
 generalize inB (fr.length:Int) 1 6=c2
 generalize inB (fr.length:Int) 1 1=c3
 generalize ((al.length:Int)==(fr.length:Int))=c4
 cases k0<;>cases k1<;>cases c1<;>cases c2<;>cases c3<;>cases c4<;>rfl
def jlw:ByteArray:=qi #[115,116,97,110,100]
def sdB (n:Nat) (s:Int):Bool:=s == -1||inB s 0 ((n:Int)-1)
def jbg (g:List (List NC)) (i:Nat):Int :=
 if(!jeH (nS g i 0))=true then 4
 else if(nS g i 0==jlw)=true then 4
 else if exB g i=true then 5
 else if(!inB (nI g i 1) 0 4)=true then 15
 else if(!jfi (nI g i 1) (nL g i 2).length (nL g i 3).length (nL g i 4).length)=true then 10
 else if jdZ g.length (nL g i 2)=true then 6
 else if(!sdB g.length (nI g i 7))=true then 6
 else if jg6 (nL g i 2)=true then 26
 else if(!jcj (nI g i 1) (nL g i 3) (nL g i 4) (nI g i 5))=true then 2
 else if(nI g i 1==3)=true then jcV (nR g i 6)
 else if(((nR g i 6).length:Int)==0)=true then 0 else 10
structure Fw (g:List (List NC)):Prop where
 n:g.length<1000
 nm:∀i,i<g.length->(nS g i 0).size<1000
 fr:∀i,i<g.length->(nL g i 2).length<100
 al:∀i,i<g.length->(nL g i 3).length<100
 ga:∀i,i<g.length->(nL g i 4).length<100
 ca:∀i,i<g.length->(nR g i 6).length<100
set_option maxHeartbeats 2000000 in
def jtf {g:List (List NC)} (hw:Fw g) (nm:ByteArray) {i:Nat} (hi:i<g.length):jdv nm g (i:Int)=some (jbg g i):=by
 have hn:=hw.n;have h1:=hw.nm i hi;have h2:=hw.fr i hi;have h3:=hw.al i hi;have h4:=hw.ga i hi;have h5:=hw.ca i hi
 have hst:y50 (nI g i 7) nm g=some (inB (nI g i 7) 0 ((g.length:Int)-1)):=by
  unfold y50;rw[jaF (by omega),jda];rfl
 unfold jdv;rw[if_pos (by omega),if_pos (by simpa using hi)];simp only[zm,zU,Option.getD_none,jH,jO];rw[hst,jAc _ nm g (by omega) hn,jte h1];simp only[jad,jda,jwX,jm1];rw[jwV g i hi hn,ju3 _ (by omega),jwW _ _ _ _ _ _ _ _ (by omega) (by omega),jAe _ (by omega)];simp only[jad];have hb:(0:Int)<=0∧(0:Int)<=(i:Int)∧(i:Int)<=(g.length:Int):=by omega
 simp only[if_pos hb];unfold jbg sdB;rw[show(qi #[115,116,97,110,100])=jlw from rfl];rw[show(nI g i 1 != 3)=!(nI g i 1==3)from rfl,show(nI g i 7 != -1)=!(nI g i 7 == -1)from rfl]
 generalize jeH (nS g i 0)=b1
 generalize (nS g i 0==jlw)=b2
 generalize exB g i=b3
 generalize inB (nI g i 1) 0 4=b4
 generalize jfi (nI g i 1) (nL g i 2).length (nL g i 3).length (nL g i 4).length=b5
 generalize jdZ g.length (nL g i 2)=b6
 generalize inB (nI g i 7) 0 ((g.length:Int)-1)=b7
 generalize (nI g i 7 == -1)=b8
 generalize jg6 (nL g i 2)=b9
 generalize jcj (nI g i 1) (nL g i 3) (nL g i 4) (nI g i 5)=b10
 generalize (nI g i 1==3)=b11
 generalize (((nR g i 6).length:Int)==0)=b12
 generalize jcV (nR g i 6)=ce
 cases b7<;>cases b8<;>(cases b1;rfl;cases b2<;>try rfl)<;>(cases b3<;>try rfl)<;>(cases b4;rfl;cases b5;rfl;cases b6<;>try rfl)<;>(cases b9<;>try rfl)<;>(cases b10;rfl;cases b11<;>cases b12<;>rfl)
def jwY (x y z:Bool) (r:Int):(if(!x)=true then some (10:Int)else if(!y)=true then some 10 else if(!z)=true then some 10 else some r)=some (if(!(x&&y&&z))=true then 10 else r):=by
 cases x<;>cases y<;>cases z<;>rfl
set_option maxHeartbeats 4000000 in
def jtg {g:List (List NC)} (hw:Fw g) (nm:ByteArray) {i:Nat} (hi:i<g.length):y73 nm g (i:Int)=some (jbg g i):=by
 have hn:=hw.n;have h1:=hw.nm i hi;have h2:=hw.fr i hi;have h3:=hw.al i hi;have h4:=hw.ga i hi;have h5:=hw.ca i hi
 have k0:=jdD (body:=y63 g (i:Int)) i (fun k=>nS g k 0==nS g i 0) (.inl ()) (.inr ()) (by omega) (fun k hk hp=>by
   unfold y63;simp only[zm];rw[if_pos (by omega),if_pos (by omega),if_pos (by omega),if_pos hp]) (fun k hk hp=>by
   unfold y63;simp only[zm];rw[if_pos (by omega),if_pos (by omega),if_pos (by omega),if_neg (by rw[hp];exact qH),jaF (by omega)]) (by
   unfold y63;simp only[zm];rw[if_neg (by omega)])
 have k1:=jcU (body:=y5 g (i:Int)) (nL g i 2) 0 (fun x=>!inB x 0 ((g.length:Int)-1)) (.inl ()) (.inr ()) (by omega) (fun k hk hp=>by
   unfold y5;simp only[zm];rw[if_pos (by omega),if_pos (by omega),if_pos hk,jaF (by omega),jbp,jad,if_pos hp]) (fun k hk hp=>by
   unfold y5;simp only[zm];rw[if_pos (by omega),if_pos (by omega),if_pos hk,jaF (x:=(g.length:Int)-1) (by omega),jbp,jad,if_neg (by rw[hp];exact qH),jaF (by omega)]) (by
   unfold y5;simp only[zm];rw[if_neg (by omega)])
 have k2:=jdD (body:=y44 g (i:Int)) (nL g i 2).length (fun k=>((nL g i 2).take k).any (·== (nL g i 2).getD k 0)) (.inl ()) (.inr ()) (by omega) (fun k hk hp=>by
   unfold y44;simp only[zm];rw[if_pos (by omega),if_pos (by simp only[qK];omega),if_pos (by omega),if_pos hk];simp only[zU,zm,jH,jO];rw[jfh _ _ (by simp;omega),jad,if_pos hp]) (fun k hk hp=>by
   unfold y44;simp only[zm];rw[if_pos (by omega),if_pos (by simp only[qK];omega),if_pos (by omega),if_pos hk];simp only[zU,zm,jH,jO];rw[jfh _ _ (by simp;omega),jad,if_neg (by rw[hp];exact qH),jaF (by omega)]) (by
   unfold y44;simp only[zm];rw[if_neg (by omega)])
 have k3:=jcU (body:=y64 g (i:Int)) (nL g i 3) 0 (fun x=>!inB x 0 64) (.inl ()) (.inr ()) (by omega) (fun k hk hp=>by
   unfold y64;simp only[zm];rw[if_pos (by omega),if_pos (by omega),if_pos hk,jbp,jad,if_pos hp]) (fun k hk hp=>by
   unfold y64;simp only[zm];rw[if_pos (by omega),if_pos (by omega),if_pos hk,jbp,jad,if_neg (by rw[hp];exact qH),jaF (by omega)]) (by
   unfold y64;simp only[zm];rw[if_neg (by omega)])
 have k4:=jcU (body:=y45 g (i:Int)) (nL g i 4) 0 (fun x=>!inB x (-4000) 4000) (.inl ()) (.inr ()) (by omega) (fun k hk hp=>by
   unfold y45;simp only[zm];rw[if_pos (by omega),if_pos (by omega),if_pos hk,jbp,jad,if_pos hp]) (fun k hk hp=>by
   unfold y45;simp only[zm];rw[if_pos (by omega),if_pos (by omega),if_pos hk,jbp,jad,if_neg (by rw[hp];exact qH),jaF (by omega)]) (by
   unfold y45;simp only[zm];rw[if_neg (by omega)])
 have t4:y118 g (i:Int) ()=some (if(!inB (nI g i 5) 0 64)=true then 2 else if(!(nI g i 1==2||nI g i 5==0))=true then 2 else if(nI g i 1==3)=true then jcV (nR g i 6)else if(((nR g i 6).length:Int)==0)=true then 0 else 10):=by
  unfold y118;simp only[zm];rw[jAd _ (by omega),jbp,jad,show(nI g i 1 != 3)=!(nI g i 1==3)from rfl,show(nI g i 1 != 2)=!(nI g i 1==2)from rfl,show(nI g i 5 != 0)=!(nI g i 5==0)from rfl]
  have hz:(if((nR g i 6).length:Int)>0 then some (10:Int)else some 0)=some (if(((nR g i 6).length:Int)==0)=true then 0 else 10):=by
   by_cases h:(nR g i 6).length=0
   ·rw[if_neg (by omega),if_pos (by simp[h])]
   ·rw[if_pos (by omega),if_neg (by simpa using h)]
  rw[hz]
  generalize inB (nI g i 5) 0 64=c1
  generalize (nI g i 1==2)=c2
  generalize (nI g i 5==0)=c3
  generalize (nI g i 1==3)=c4
  cases c1<;>cases c2<;>cases c3<;>cases c4<;>rfl
 have t3:y119 g (i:Int) ()=some (if((nL g i 4).any fun x=>!inB x (-4000) 4000)=true then 2 else if(!inB (nI g i 5) 0 64)=true then 2 else if(!(nI g i 1==2||nI g i 5==0))=true then 2 else if(nI g i 1==3)=true then jcV (nR g i 6)else if(((nR g i 6).length:Int)==0)=true then 0 else 10):=by
  unfold y119;rw[k4,jad];cases (nL g i 4).any (fun x=>!inB x (-4000) 4000)with
  |true=>rfl
  |false=>exact t4
 have t2:y120 g (i:Int) ()=some (if(!jcj (nI g i 1) (nL g i 3) (nL g i 4) (nI g i 5))=true then 2 else if(nI g i 1==3)=true then jcV (nR g i 6)else if(((nR g i 6).length:Int)==0)=true then 0 else 10):=by
  unfold y120 jcj;rw[k3,jad]
  generalize hA:(nL g i 3).any (fun x=>!inB x 0 64)=bA
  cases bA with
  |true=>rfl
  |false =>
   refine t3.trans ?_
   generalize (nL g i 4).any (fun x=>!inB x (-4000) 4000)=bG
   generalize inB (nI g i 5) 0 64=c1
   generalize (nI g i 1==2||nI g i 5==0)=c2
   cases bG<;>cases c1<;>cases c2<;>rfl
 have t1:y121 g (i:Int) ()=some (if(!inB (nI g i 7) (-1) ((g.length:Int)-1))=true then 6 else if jg6 (nL g i 2)=true then 26 else if(!jcj (nI g i 1) (nL g i 3) (nL g i 4) (nI g i 5))=true then 2 else if(nI g i 1==3)=true then jcV (nR g i 6)else if(((nR g i 6).length:Int)==0)=true then 0 else 10):=by
  unfold y121;simp only[zm];rw[jaF (by omega),jbp,jad,k2,jad];cases inB (nI g i 7) (-1) ((g.length:Int)-1)with
  |false=>rfl
  |true =>
   show y107 g (i:Int) (if jg6 (nL g i 2)=true then .inl ()else .inr ())=_
   cases jg6 (nL g i 2)with
   |true=>rfl
   |false=>exact t2
 have hsd:inB (nI g i 7) (-1) ((g.length:Int)-1)=sdB g.length (nI g i 7):=by
  unfold sdB inB;have:((nI g i 7)==(-1:Int))=decide (nI g i 7=-1):=rfl;rw[this]
  by_cases h:nI g i 7=-1
  ·simp[h];omega
  ·have e:decide ((-1:Int)<=nI g i 7)=decide ((0:Int)<=nI g i 7):=by
    congr 1
    exact propext ⟨fun _=>by omega,fun _=>by omega⟩
   rw[e];simp[h]
 rw[hsd]at t1
 have t1':((some (if jdZ g.length (nL g i 2)=true then Sum.inl ()else Sum.inr ()):Option (Unit ⊕ Unit)).bind (y12 g (i:Int)))=some (if jdZ g.length (nL g i 2)=true then 6 else if(!sdB g.length (nI g i 7))=true then 6 else if jg6 (nL g i 2)=true then 26 else if(!jcj (nI g i 1) (nL g i 3) (nL g i 4) (nI g i 5))=true then 2 else if(nI g i 1==3)=true then jcV (nR g i 6)else if(((nR g i 6).length:Int)==0)=true then 0 else 10):=by
  rw[jad];cases jdZ g.length (nL g i 2)with
  |true=>rfl
  |false=>exact t1
 have k1:jag (y5 g (i:Int)) big 0=some (if jdZ g.length (nL g i 2)=true then .inl ()else .inr ()):=k1
 have t0:y88 g (i:Int) ()=some (if(!inB (nI g i 1) 0 4)=true then 15 else if(!jfi (nI g i 1) (nL g i 2).length (nL g i 3).length (nL g i 4).length)=true then 10 else if jdZ g.length (nL g i 2)=true then 6 else if(!sdB g.length (nI g i 7))=true then 6 else if jg6 (nL g i 2)=true then 26 else if(!jcj (nI g i 1) (nL g i 3) (nL g i 4) (nI g i 5))=true then 2 else if(nI g i 1==3)=true then jcV (nR g i 6)else if(((nR g i 6).length:Int)==0)=true then 0 else 10):=by
  unfold y88;simp only[zm];rw[k1,t1'];simp only[jbp,jad]
  generalize (if jdZ g.length (nL g i 2)=true then(6:Int)else if(!sdB g.length (nI g i 7))=true then 6 else if jg6 (nL g i 2)=true then 26 else if(!jcj (nI g i 1) (nL g i 3) (nL g i 4) (nI g i 5))=true then 2 else if(nI g i 1==3)=true then jcV (nR g i 6)else if(((nR g i 6).length:Int)==0)=true then 0 else 10)=rest
  by_cases h0:(!inB (nI g i 1) 0 4)=true
  ·rw[if_pos h0,if_pos h0]
  ·rw[if_neg h0,if_neg h0]
   by_cases hk:nI g i 1=0
   ·have e0:(nI g i 1==0)=true:=by simp[hk]
    have e1:¬(nI g i 1==1)=true:=by simp[hk]
    rw[if_pos e0,if_neg e1,if_neg e1]
    have hs:jfi (nI g i 1) (nL g i 2).length (nL g i 3).length (nL g i 4).length=(inB ((nL g i 2).length:Int) 0 0&&(((nL g i 3).length:Int)==((nL g i 2).length:Int))&&(((nL g i 4).length:Int)==0)):=by
     unfold jfi;rw[if_pos e0]
    rw[hs];exact jwY _ _ _ _
   ·have e0:¬(nI g i 1==0)=true:=by simpa using hk
    rw[if_neg e0]
    by_cases hk1:(nI g i 1==1)=true
    ·rw[if_pos hk1,if_pos hk1]
     have hs:jfi (nI g i 1) (nL g i 2).length (nL g i 3).length (nL g i 4).length=(inB ((nL g i 2).length:Int) 1 6&&(((nL g i 3).length:Int)==((nL g i 2).length:Int))&&(((nL g i 4).length:Int)==((nL g i 2).length:Int))):=by
      unfold jfi;rw[if_neg e0,if_pos hk1]
     rw[hs];exact jwY _ _ _ _
    ·rw[if_neg hk1,if_neg hk1]
     have hs:jfi (nI g i 1) (nL g i 2).length (nL g i 3).length (nL g i 4).length=(inB ((nL g i 2).length:Int) 1 1&&(((nL g i 3).length:Int)==((nL g i 2).length:Int))&&(((nL g i 4).length:Int)==0)):=by
      unfold jfi;rw[if_neg e0,if_neg hk1]
     rw[hs];exact jwY _ _ _ _
 unfold y73;rw[if_pos (by omega),if_pos (by simpa using hi)];simp only[zm];rw[jtd h1,jad,k0,jad];unfold jbg;rw[show(qi #[115,116,97,110,100])=jlw from rfl];cases jeH (nS g i 0)with
 |false=>rfl
 |true =>
  have ht:¬((!true)=true):=by simp
  by_cases hs:(nS g i 0==jlw)=true
  ·rw[if_neg ht,if_pos hs,if_neg ht,if_pos hs]
  ·rw[if_neg ht,if_neg hs,if_neg ht,if_neg hs]
   show je9 g (i:Int) (if exB g i=true then .inl ()else .inr ())=_
   cases exB g i with
   |true=>rfl
   |false=>exact t0
def cg (nm:ByteArray) (g:List (List NC)):Int × Int :=
 if(!jeH nm)=true then(0,4)
 else if(g.length:Int)>24 then(0,8)
 else match(zG g.length).findIdx? (fun i=>jbg g i != 0)with
  |some i=>((i:Int),jbg g i)
  |none=>(0,0)
def jyz (a b:Int):jfc [a,b]=some (if(a != 0)=true then a else b):=by
 unfold jfc
 have key:=jbU (body:=jp7 [a,b]) [a,b] 0 (fun x=>x != 0) (fun i=>.inl ([a,b].getD i 0)) (.inr ()) (by simp) (fun i hi hp=>by
   unfold jp7;simp only[zm];rw[if_pos (by omega),if_pos (by omega),if_pos hi,if_pos hp]) (fun i hi hp=>by
   unfold jp7;simp only[zm];have hi2:i<2:=hi;rw[if_pos (by omega),if_pos (by omega),if_pos hi,if_neg (by rw[hp];exact qH),jaF (by omega)]) (by
   unfold jp7;simp only[zm];rw[if_neg (by omega)])
 rw[key];cases ha:(a != 0)with
 |true=>simp[ye,ha];rfl
 |false =>
  cases hb:(b != 0)with
  |true=>simp[ye,ha,hb];rfl
  |false =>
   have:b=0:=by simpa using hb
   simp[ye,ha,hb,this];rfl
def jo3 {n:Nat} {P:Nat->Bool} {i:Nat} (h:(zG n).findIdx? P=some i):i<n:=by
 rw[qW]at h;obtain⟨h,_⟩:=h;simpa using h
def jlx {g:List (List NC)} (hw:Fw g) {nm:ByteArray} (hs:nm.size<1000):y28 nm g=some (cg nm g):=by
 have hn:=hw.n;unfold y28 cg;rw[jte hs];simp only[jad,jm1];rw[jyz,jad];cases jeH nm with
 |false=>rfl
 |true =>
  by_cases h24:(g.length:Int)>24
  ·rw[if_neg (by simp:¬(!true)=true),if_pos h24];have e:decide ((g.length:Int)<=24)=false:=by simp;omega
   rw[e];rfl
  ·rw[if_neg (by simp:¬(!true)=true),if_neg h24];have e:decide ((g.length:Int)<=24)=true:=by simp;omega
   rw[e]
   show ze (jag (y36 nm g) big 0) y130=_
   have key:=jbU (body:=y36 nm g) (zG g.length) 0 (fun i=>jbg g i != 0) (fun i=>.inl ((i:Int),jbg g i)) (.inr ()) (by simp;omega) (fun i hi hp=>by
     have hi:i<g.length:=by simpa using hi
     have hr:(zG g.length).getD i 0=i:=by simp[za,hi]
     rw[hr]at hp;unfold y36;rw[if_pos (by omega),jtf hw nm hi,jad,if_pos hp]) (fun i hi hp=>by
     have hi:i<g.length:=by simpa using hi
     have hr:(zG g.length).getD i 0=i:=by simp[za,hi]
     rw[hr]at hp;unfold y36;rw[if_pos (by omega),jtf hw nm hi,jad,if_neg (by rw[hp];exact qH),jaF (by omega)]) (by
     unfold y36;rw[if_neg (by simp)])
   rw[key];cases (zG g.length).findIdx? (fun i=>jbg g i != 0)<;>rfl
def jyA {g:List (List NC)} (hw:Fw g) {nm:ByteArray} (hs:nm.size<1000):y33 nm g=some (cg nm g):=by
 have hn:=hw.n;unfold y33 cg;rw[jtd hs,jad];cases jeH nm with
 |false=>rfl
 |true =>
  have ht:¬((!true)=true):=by simp
  rw[if_neg ht,if_neg ht]
  by_cases h24:(g.length:Int)>24
  ·rw[if_pos h24,if_pos h24]
  ·rw[if_neg h24,if_neg h24]
   have key:=jbU (body:=y37 nm g) (zG g.length) 0 (fun i=>jbg g i != 0) (fun i=>.inl ((i:Int),jbg g i)) (.inr ()) (by simp;omega) (fun i hi hp=>by
     have hi:i<g.length:=by simpa using hi
     have hr:(zG g.length).getD i 0=i:=by simp[za,hi]
     rw[hr]at hp;unfold y37;rw[if_pos (by omega),jtg hw nm hi,jad,if_pos hp]) (fun i hi hp=>by
     have hi:i<g.length:=by simpa using hi
     have hr:(zG g.length).getD i 0=i:=by simp[za,hi]
     rw[hr]at hp;unfold y37;rw[if_pos (by omega),jtg hw nm hi,jad,if_neg (by rw[hp];exact qH),jaF (by omega)]) (by
     unfold y37;rw[if_neg (by simp)])
   rw[key];cases (zG g.length).findIdx? (fun i=>jbg g i != 0)<;>rfl
def jth (g:List (List NC)) (i:Nat):List NC:=[.d (.s (nS g i 0)),.d (.i .i64 (nI g i 1)),.r (.ints .i64 (nL g i 2)),.r (.ints .i64 (nL g i 3)),.r (.ints .i64 (nL g i 4)),.d (.i .i64 (nI g i 5)),.r (.recs 5 (nR g i 6)),.d (.i .i64 (nI g i 7))]
def cpU (g:List (List NC)):List (List NC):=(zG g.length).map (jth g)
def jqi {g:List (List NC)} (hw:Fw g) (nm:ByteArray):jaR nm g=some (nm,cpU g):=by
 have hn:=hw.n;unfold jaR
 have key:=jcO (body:=jc9 g) (fun k=>((k:Int),(zG k).map (jth g))) (y:=cpU g) (k:=g.length) (fun i hi=>by
   have h2:=hw.fr i hi;have h3:=hw.al i hi;have h4:=hw.ga i hi;have h5:=hw.ca i hi;unfold jc9;simp only[zm];rw[if_pos (by omega),if_pos (by omega),if_pos hi,jga _ (by omega),jga _ (by omega),jga _ (by omega)];simp only[jad];rw[if_pos (by omega),if_pos (by simp only[List.length_map,List.length_range,z4,qD];omega),jaF (by omega),kb,xb];rfl) (by
   unfold jc9;rw[if_neg (by simp)];rfl) (by omega)
 have key:jag (jc9 g) big ((0:Int),[])=some (cpU g):=key;rw[key];rfl
def jdP (g:List (List NC)):(cpU g).length=g.length:=by simp[cpU]
def jfU {g:List (List NC)} {i:Nat} (hi:i<g.length):(cpU g).getD i []=jth g i:=by simp[cpU,za,hi]
def cp_S {g:List (List NC)} {i:Nat} (hi:i<g.length):nS (cpU g) i 0=nS g i 0:=by
 show NC.toS (((cpU g).getD i []).getD 0 _)=_
 rw[jfU hi];rfl
def cp_I {g:List (List NC)} {i:Nat} (hi:i<g.length):nI (cpU g) i 1=nI g i 1∧nI (cpU g) i 5=nI g i 5∧nI (cpU g) i 7=nI g i 7:=by
 refine⟨?_,?_,?_⟩
 ·show NC.toI (((cpU g).getD i []).getD 1 _)=_
  rw[jfU hi];rfl
 ·show NC.toI (((cpU g).getD i []).getD 5 _)=_
  rw[jfU hi];rfl
 ·show NC.toI (((cpU g).getD i []).getD 7 _)=_
  rw[jfU hi];rfl
def jnC {g:List (List NC)} {i:Nat} (hi:i<g.length):nL (cpU g) i 2=nL g i 2∧nL (cpU g) i 3=nL g i 3∧nL (cpU g) i 4=nL g i 4:=by
 refine⟨?_,?_,?_⟩
 ·show NC.toInts (((cpU g).getD i []).getD 2 _)=_
  rw[jfU hi];rfl
 ·show NC.toInts (((cpU g).getD i []).getD 3 _)=_
  rw[jfU hi];rfl
 ·show NC.toInts (((cpU g).getD i []).getD 4 _)=_
  rw[jfU hi];rfl
def cp_R {g:List (List NC)} {i:Nat} (hi:i<g.length):nR (cpU g) i 6=nR g i 6:=by
 show NC.toRecs (((cpU g).getD i []).getD 6 _)=_
 rw[jfU hi];rfl
def jBe {g:List (List NC)} (hw:Fw g):Fw (cpU g):=by
 constructor
 ·rw[jdP];exact hw.n
 all_goals intro i hi;rw[jdP]at hi
 ·rw[cp_S hi];exact hw.nm i hi
 ·rw[(jnC hi).1];exact hw.fr i hi
 ·rw[(jnC hi).2.1];exact hw.al i hi
 ·rw[(jnC hi).2.2];exact hw.ga i hi
 ·rw[cp_R hi];exact hw.ca i hi
def jyB {g:List (List NC)} {i:Nat} (hi:i<g.length):jbg (cpU g) i=jbg g i:=by
 have hex:exB (cpU g) i=exB g i:=by
  unfold exB;rw[cp_S hi]
  have:∀l:List Nat,(∀k∈l,k<i)->(l.any fun k=>nS (cpU g) k 0==nS g i 0)=l.any fun k=>nS g k 0==nS g i 0:=by
   intro l
   induction l with
   |nil=>intro _;rfl
   |cons x r ih =>
    intro h;have hx:=h x zV;rw[jb,jb,cp_S (by omega),ih fun k hk=>h k (zR _ hk)]
  exact this _ fun k hk=>xw.1 hk
 unfold jbg;rw[cp_S hi,hex,(cp_I hi).1,(cp_I hi).2.1,(cp_I hi).2.2,(jnC hi).1,(jnC hi).2.1,(jnC hi).2.2,cp_R hi,jdP]
def cgM (e:Nat->Int) (o:Option Nat):Int × Int:=match o with
 |some i=>((i:Int),e i)
 |none=>(0,0)
def cgF (b:Bool) (n:Nat) (e:Nat->Int):Int × Int:=if(!b)=true then(0,4)else if(n:Int)>24 then(0,8)else cgM e ((zG n).findIdx? fun i=>e i != 0)
def jw1 (e e':Nat->Int) (n:Nat) (hn:∀i,i<n->e i=e' i) (l:List Nat):(∀i∈l,i<n)->l.findIdx? (fun i=>e i != 0)=l.findIdx? (fun i=>e' i != 0):=by
 induction l with
 |nil=>intro _;rfl
 |cons x r ih =>
  intro h;rw[ye,ye,hn x (h x zV),ih fun i hi=>h i (zR _ hi)]
def jqV (b:Bool) (n:Nat) (e e':Nat->Int) (hn:∀i,i<n->e i=e' i):cgF b n e=cgF b n e':=by
 unfold cgF;rw[jw1 e e' n hn _ fun i hi=>xw.1 hi]
 have hm:cgM e ((zG n).findIdx? fun i=>e' i != 0)=cgM e' ((zG n).findIdx? fun i=>e' i != 0):=by
  cases h:(zG n).findIdx? (fun i=>e' i != 0)with
  |none=>rfl
  |some i =>
   show((i:Int),e i)=((i:Int),e' i)
   rw[hn i (jo3 h)]
 rw[hm]
def jiS (nm:ByteArray) (g:List (List NC)):cg nm g=cgF (jeH nm) g.length (jbg g):=by
 unfold cg cgF cgM;rfl
def jrR (nm:ByteArray) (g:List (List NC)):cg nm (cpU g)=cg nm g:=by
 rw[jiS,jiS,jdP];exact jqV _ _ _ _ fun i hi=>jyB hi
def jyC (nm:ByteArray) (g:List (List NC)):jer nm g=some false∨(jer nm g=some true∧Fw g∧nm.size<1000):=by
 unfold jer
 by_cases h0:((nm.size:Nat):Int)>20
 ·rw[if_pos h0];exact .inl rfl
 rw[if_neg h0]
 have loop:g.length<=26->(ze (jag (y59 g) big 0) jeG=some false∨(ze (jag (y59 g) big 0) jeG=some true∧Fw g∧nm.size<1000)):=by
  intro h26
  let P:Nat->Bool:=fun i=>decide ((((nS g i 0).size:Nat):Int)>20)||decide (((nL g i 2).length:Int)>8)||decide (((nL g i 3).length:Int)>8)||decide (((nL g i 4).length:Int)>8)||decide (((nR g i 6).length:Int)>8)
  have key:=jdD (body:=y59 g) g.length P (.inl ()) (.inr ()) (by omega) (fun i hi hp=>by
    unfold y59;simp only[zm];rw[if_pos (by omega),if_pos (by omega),if_pos hi];simp only[P,Bool.or_eq_true,decide_eq_true_eq]at hp
    repeat' split
    all_goals first|rfl|(exfalso;omega)) (fun i hi hp=>by
    unfold y59;simp only[zm];rw[if_pos (by omega),if_pos (by omega),if_pos hi];simp only[P,yJ,decide_eq_false_iff_not]at hp;rw[if_neg hp.1.1.1.1,if_neg hp.1.1.1.2,if_neg hp.1.1.2,if_neg hp.1.2,if_neg hp.2,jaF (by omega)]) (by
    unfold y59;simp only[zm];rw[if_neg (by omega)])
  rw[key];cases hP:(zG g.length).any P with
  |true=>exact .inl rfl
  |false =>
   refine .inr ⟨rfl,?_,by omega⟩
   have hall:∀i,i<g.length->P i=false:=fun i hi=>by
    have:=xL.1 hP i (by simpa using hi);simpa using this
   have hq:∀i,i<g.length->(nS g i 0).size<=20∧(nL g i 2).length<=8∧(nL g i 3).length<=8∧(nL g i 4).length<=8∧(nR g i 6).length<=8:=fun i hi=>by
    have hp:=hall i hi;simp only[P,yJ,decide_eq_false_iff_not]at hp;omega
   exact⟨by omega,fun i hi=>by have:=hq i hi;omega,fun i hi=>by have:=hq i hi;omega,fun i hi=>by have:=hq i hi;omega,fun i hi=>by have:=hq i hi;omega,fun i hi=>by have:=hq i hi;omega⟩
 split
 ·split
  ·exact .inl rfl
  ·split
   ·exact .inl rfl
   ·exact loop (by omega)
 ·split
  ·exact .inl rfl
  ·exact loop (by omega)
end Go.Sh
end
