/- Part 3 of the proof of EngineBlocks: the executor, the mirrors of the functions, the plain facts. -/
import Derived.Test.YtigliehhpdpaoaaGreatPB
import Derived.IntWalk
import Derived.KernelRfl
import Derived.Test.YtigliehhpdpaoaaGreatProg
set_option maxRecDepth 100000
set_option linter.unusedSectionVars false
set_option linter.unusedSimpArgs false
set_option linter.unusedVariables false
set_option linter.defProp false
open Array renaming getD->qQ,getD_eq_getD_getElem?->xO,getElem?_eq_getElem->xm,getElem?_eq_some_iff->zM,replicate->xZ
open Bool renaming and_eq_true->zk,and_true->gM,eq_false_iff->xi,false_eq_true->z3,false_or->ky,not_eq_true'->xB,not_true->gP,or_eq_true->qU
open ByteArray renaming data->qi,mk->xd,size->yp
open Function renaming comp_def->xS
open Go renaming Code->jn,Deferred->yK,FloatKind->qd,Func->jL,Oper->qu,Operand->zZ,Program->zP,Value->zs,World->zr,mem_ready->kD,undef->zJ,yielded->fc
open Go.Ending renaming returned->yg
open Go.FloatKind renaming nearest->qw
open Go.Oper renaming wp->g7
open Go.Region renaming binds->yY,free->kR,noSelect->km,ready->jD,wanted->yP
open Go.Result renaming andThen_ok->zn
open Go.RowKit renaming Below->yn
open Go.Sem renaming run_bind->zq
open Go.Value renaming ownBlock->zU,slice->zx
open Go.World renaming ownsRow_nil->xU
open Int renaming toNat->zf
open List renaming all_cons->jp,all_eq_true->zy,all_nil->fa,append_assoc->qF,append_nil->yw,cons_append->qq,count_pos_iff->fM,findIdx?_eq_none_iff->qv,findIdx?_eq_some_iff_getElem->qm,getD->zb,getElem?_append_left->qf,getElem?_append_right->qj,getElem?_eq_getElem->zH,getElem?_eq_none->z7,getElem?_map->zR,getElem_mem->zW,length->za,length_append->qc,length_cons->zB,map_append->xa,map_congr_left->qx,map_cons->zL,map_nil->xp,mem_append->qR,mem_cons->qr,mem_cons_of_mem->zu,mem_cons_self->zw,mem_map->qn,mem_of_getElem?->yh,mem_singleton->z6,nil_append->qS,range->zm,set->qz,singleton_append->fj,take_succ_eq_append_getElem->yo
open List.cons renaming injEq->fd
open Nat renaming add_zero->xH,beq->zF,ble->qN,ble_eq->xt,ble_eq_true_of_le->x6,blt->xD,blt_eq->qL,eq_of_beq_eq_true->zi,le_of_ble_eq_true->zQ,le_of_lt->g9,le_of_not_lt->yi,le_refl->zp,le_succ->xu,le_trans->xb,lt_of_lt_of_le->zG,lt_or_ge->kH,lt_succ_self->zo,min_eq_left->yv,not_lt_of_le->yB,strongRecOn->jo,zero_add->qa
open Option renaming bind->ze,bind_eq_some_iff->zK,bind_some->zV,getD_some->z9,map_eq_some_iff->z4,map_some->qk
open Option.some renaming inj->yf,injEq->zj
open Prod.mk renaming injEq->qp
open Sum renaming elim->qy
open UInt8 renaming toNat->qG
section
open Go.RowKit
namespace Go.Sx
def jpD (n:Nat) (l:List Nat):List Nat:=match l.contains n with|true=>l|false=>n::l
def jeN (a b:List Nat):List Nat:=a.foldr jpD b
def jc7 (acc:List (List Nat)):List Edge->List Nat|[]=>[]|e::r=>match yY .any e with|true=>jpD e.on (jeN (acc.getD e.on []) (jc7 acc r))|false=>jc7 acc r
def jok:List qu->List (List Nat)->List (List Nat)|[],acc=>acc|o::r,acc=>jok r (acc++[jc7 acc o.after.toList])
def jpE {n m:Nat} {l:List Nat}:m∈jpD n l<->m=n∨m∈l:=by
 unfold jpD;split
 ·rename_i h;simp at h;constructor
  ·exact .inr
  ·rintro (rfl|h')
   ·exact h
   ·exact h'
 ·simp
def jk9 {m:Nat}:∀{a b:List Nat},m∈jeN a b<->m∈a∨m∈b
 |[],b=>by simp[jeN]
 |x::a,b=>by
  have:=jk9 (m:=m) (a:=a) (b:=b);simp only[jeN,List.foldr_cons]at *;rw[jpE,this];simp[or_assoc]
def jhS {acc:List (List Nat)} {k:Nat}:∀{es:List Edge},k∈jc7 acc es->∃e∈es,yY .any e=true∧(k=e.on∨k∈acc.getD e.on [])
 |[],h=>by cases h
 |e::r,h=>by
  unfold jc7 at h;split at h
  ·rename_i hb;rcases jpE.1 h with h|h
   ·exact⟨e,zw,hb,.inl h⟩
   ·rcases jk9.1 h with h|h
    ·exact⟨e,zw,hb,.inr h⟩
    ·obtain⟨e',he',h'⟩:=jhS h;exact⟨e',zu _ he',h'⟩
  ·obtain⟨e',he',h'⟩:=jhS h;exact⟨e',zu _ he',h'⟩
def jcT (L:List qu) (tab:List (List Nat)):Prop :=∀i k,k∈tab.getD i []->∃o,L[i]?=some o∧∃e∈o.after.toList,yY .any e=true∧(k=e.on∨(e.on<i∧k∈tab.getD e.on []))
def jw5 (L:List qu):∀(r:List qu) (acc:List (List Nat)),L=L.take acc.length++r->jcT L acc->jcT L (jok r acc)
 |[],acc,_,h=>h
 |o::r,acc,hL,h=>by
  unfold jok
  have hlen:acc.length<L.length:=by
   have:=congrArg za hL;simp at this;omega
  have ho:L[acc.length]?=some o:=by
   rw[hL,qj (by simp;omega)];simp[yv (g9 hlen)]
  refine jw5 L r (acc++[jc7 acc o.after.toList]) ?_ ?_
  ·have h1:L.take (acc.length+1)=L.take acc.length++[o]:=by
    rw[yo hlen]
    congr 2
    have:=zH hlen;rw[this]at ho;exact yf ho
   simp only[qc,List.length_singleton,h1,qF,fj];exact hL
  ·intro i k hk
   by_cases hi:i<acc.length
   ·have e1:(acc++[jc7 acc o.after.toList]).getD i []=acc.getD i []:=by simp[zb,qf hi]
    rw[e1]at hk;obtain⟨o',ho',e,he,hb,hor⟩:=h i k hk;refine⟨o',ho',e,he,hb,hor.imp id fun⟨h1,h2⟩=>⟨h1,?_⟩⟩;simpa [zb,qf (show e.on<acc.length by omega)]using h2
   ·by_cases hi2:i=acc.length
    ·subst hi2;have e1:(acc++[jc7 acc o.after.toList]).getD acc.length []=jc7 acc o.after.toList:=by simp[zb]
     rw[e1]at hk;obtain⟨e,he,hb,hor⟩:=jhS hk;refine⟨o,ho,e,he,hb,hor.imp id fun h2=>?_⟩
     have hlt:e.on<acc.length:=by
      rcases kH e.on acc.length with h|h
      ·exact h
      ·simp[zb,z7 h]at h2
     exact⟨hlt,by simpa [zb,qf hlt]using h2⟩
    ·have:(acc++[jc7 acc o.after.toList]).getD i []=[]:=by
      rw[zb,z7 (by simp;omega)];rfl
     rw[this]at hk;cases hk
def jcE (L:List qu) (D:Nat->Bool):Prop:=∀j o,L[j]?=some o->D j=true->∀e∈o.after.toList,yY .any e=true->D e.on=true
def jcU {L:List qu} {tab:List (List Nat)} {D:Nat->Bool} (ht:jcT L tab) (hc:jcE L D) :
  ∀(i:Nat) (k:Nat),(∀o,L[i]?=some o->∀e∈o.after.toList,yY .any e=true->D e.on=true)->k∈tab.getD i []->D k=true:=by
 intro i
 induction i using jo with
 |_ i ih =>
  intro k hd hk;obtain⟨o,ho,e,he,hb,hor⟩:=ht i k hk;have h1:=hd o ho e he hb;rcases hor with rfl|⟨hlt,hk'⟩
  ·exact h1
  ·exact ih e.on hlt k (fun o' ho' e' he' hb'=>hc e.on o' ho' h1 e' he' hb') hk'
structure Rec where
 v:V
 hp:Hp
 nx:Nat
 kd:Nat
 nw:Hp
 tg:Option Nat
def jaG:Op->Bool| .load _ _=>true| .binOp _ _ _ y _=>jy6 y| .indexAddr _ _ _=>true| .call c=>(match c.callee with| .builtin .len=>true|_=>false)|_=>false
def loadAt (op:Op) (rd:zZ->Option V):Option Nat :=match op with| .load _ x=>(match rd x with|some (.w (.c (.p h _ _ _)))=>some h|_=>none)| .binOp _ _ x _ _=>(match rd x with|some (.w (.c (.o h)))=>some h|_=>none)| .indexAddr _ x _=>(match rd x with|some (.w (.c (.o h)))=>some h|_=>none)| .call c=>(match c.args.toList with|[x]=>(match rd x with|some (.w (.c (.o h)))=>some h|_=>none)|_=>none)|_=>none
def storeAt (op:Op) (rd:zZ->Option V):Option Nat :=match op with| .store _ x _=>(match rd x with|some (.w (.c (.p h _ _ _)))=>some h|_=>none)| .call c=>(match c.callee,c.args.toList with| .builtin .append,[s,_]=>(match rd s with|some (.w (.c (.o h)))=>some h|some (.w (.c (.d (.v (.slice none 0 0)))))=>some 1000000007|_=>none)|_,_=>none)|_=>none
def jen:Option O->Bool|some (.box _ _)=>true|some (.row _ _)=>true|some (.ext _)=>true|some (.ebox _)=>true|some (.arr _ _ _)=>true|some (.xext _)=>true|some (.fext _)=>true|some (.xrow _ _)=>true|some (.mrow _ _ _ _)=>true|_=>false
def jcr (L:List qu) (j:Nat):Option Nat:=(L[j]?).bind (·.dst)
def jaw (st0:St):List Rec->Hp|[]=>st0.hp|r::_=>r.hp
def jac (st0:St):List Rec->Nat|[]=>st0.nx|r::_=>r.nx
def jcF (L:List qu) (bef:List Nat) (st0:St) (t:Nat):List Rec->Option V|[]=>jaP st0.tm t|r::tr=>match jcr L tr.length with|some d=>(if d=t then(match bef.contains tr.length with|true=>some r.v|false=>none)else jcF L bef st0 t tr)|none=>jcF L bef st0 t tr
def ja3 [Globs] (L:List qu) (nm:List Nat) (bef:List Nat) (st0:St) (tr:List Rec):zZ->Option V| .tmp t=>(match nm.contains t with|true=>jcF L bef st0 t tr|false=>none)|x=>jcv st0 x
def jas (q:Nat->Bool) (st0:St):List Rec->Nat->Bool|[],_=>true|_::tr,h=>match qN (jac st0 tr) h with|true=>q tr.length|false=>jas q st0 tr h
def jr1:Op->Bool| .build _ _=>true|_=>false
def jbU (st0:St):List Rec->Nat->Bool|[],h=>C.one st0.hp (.o h)|r::tr,h=>match qN (jac st0 tr) h with|true=>C.one r.hp (.o h)|false=>jbU st0 tr h
def jiw (bef:List Nat) (st0:St) (tr:List Rec):Hp:=((jaw st0 tr).filter fun x=>jas (fun j=>bef.contains j) st0 tr x.1&&jbU st0 tr x.1).map fun x=>(x.1,O.atom)
def C.allB (p:Nat->Bool):C->Bool| .d _=>true| .p h _ _ _=>p h| .o h=>p h| .fn _ hs=>hs.all p| .g _ _ _ _=>true
def W.allB (p:Nat->Bool):W->Bool| .c x=>x.allB p| .a l=>l.all (C.allB p)| .b _ _=>true
def V.allB (p:Nat->Bool):V->Bool| .w x=>x.allB p| .t l=>l.all (W.allB p)
def O.allB (p:Nat->Bool):O->Bool| .box _ cs=>cs.all (C.allB p)| .view r _ _=>p r| .sub r _ _ _ _ _=>p r| .ebox cs=>cs.all (C.allB p)|_=>true
def ja6 (bef:List Nat) (st0:St) (tr:List Rec) (v:V) (hp:Hp) (nx:Nat):Bool :=
 qN (jac st0 tr) nx&&v.allB (fun h=>xD h nx&&(qN (jac st0 tr) h||jas (fun j=>bef.contains j) st0 tr h)) &&
  hp.all (fun x=>xD x.1 nx&&x.2.allB fun h=>xD h nx&&(qN (jac st0 tr) h||jas (fun j=>bef.contains j) st0 tr h))
def jbf (n:Nat) (hp:Hp):Hp:=hp.filter fun x=>qN n x.1
def jaz:Op->Bool| .binOp _ _ _ y _=>!(jy6 y)| .move _ | .assign _ | .pick _ _ _ | .unOp _ _ _ | .extract _ _ | .field _ _ _ | .fieldAddr _ _ _ | .nilCheck _ | .convert _ _ _ | .build _ _=>true|_=>false
def jjA:Op->Bool| .makeSlice _ _ _ | .buildSlice _ _ _ | .alloc _ | .box _ _=>true|_=>false
def jbk (tab:List (List Nat)) (i:Nat) (lf mk:Bool):Nat->List qu->Bool|_,[]=>true|j,o::r=>(zF j i||jaz o.op||(tab.getD i []).contains j||(tab.getD j []).contains i||(lf&&jaG o.op)||(mk&&xD i j&&jjA o.op))&&jbk tab i lf mk (j+1) r
def jhc:Op->Bool| .makeSlice _ _ _ | .alloc _ | .box _ _=>true|_=>false
def jfR (tab:List (List Nat)) (i:Nat):Nat->List qu->Bool|_,[]=>true|k,o::r=>(qN k i||jaz o.op||jaG o.op||(tab.getD k []).contains i||jhc o.op)&&jfR tab i (k+1) r
def jol:O->Bool| .row _ _=>true| .box _ _=>true| .arr _ _ _=>true|_=>false
def jjB:O->Bool| .ext _=>true| .ebox _=>true| .xext _=>true| .trow _ _ _ _=>true|_=>false
def jqM (hp0:Hp) (nx:Nat) (tg:Option Nat) (hp:Hp):Bool :=match tg with|none=>false|some h=>hp.all fun x=>!(jjB x.2)||(!(zF x.1 h)&&xD x.1 nx&&match find hp0 x.1 with|some o=>(match o.isT with|true=>false|false=>jjB o)|none=>false)
def jax (L:List qu) (o:qu):List Nat :=o.dst.toList++(o.op.operands.toList.filterMap fun | .tmp t=>some t|_=>none)++(match o.guard with|some (g,_)=>(jcr L g).toList|none=>[])
def jfS (L:List qu) (tab:List (List Nat)) (j t:Nat):Nat->List qu->Bool|_,[]=>true|i,o::r=>(!(xD i j)||!((jax L o).contains t)||(tab.getD j []).contains i)&&jfS L tab j t (i+1) r
def jcG (L:List qu) (tab:List (List Nat)):Nat->List qu->Bool|_,[]=>true|j,o::r=>(match o.dst with|some t=>jfS L tab j t 0 L|none=>true)&&jcG L tab (j+1) r
def obT (t:Bool) (ob k:Prop):Prop:=match t with|true=>k|false=>Ob ob∧k
def jea [Globs] (L:List qu) (tab:List (List Nat)) (st0:St) (bef:List Nat) (h:Nat):List Rec->Bool|[]=>true|_::tr=>(match L[tr.length]? with|none=>false|some o=>match jaG o.op with|false=>true|true=>bef.contains tr.length||match loadAt o.op (ja3 L (jax L o) (tab.getD tr.length []) st0 tr)with|none=>false|some x=>!(zF x h)&&jen (find (jaw st0 tr) x))&&jea L tab st0 bef h tr
def jcV (st0:St) (bef:List Nat) (h:Nat):List Rec->Bool|[]=>true|r::tr=>(!(zF r.kd 2)||bef.contains tr.length||match r.tg with|none=>false|some t=>!(zF t h)&&jen (find (jaw st0 tr) h))&&jcV st0 bef h tr
def jeo (bef:List Nat):List Rec->Bool|[]=>true|r::tr=>(!(zF r.kd 2)||bef.contains tr.length)&&jeo bef tr
def jep (bef:List Nat) (st0:St) (tr:List Rec):Hp :=match jeo bef tr with|true=>(jaw st0 tr).filter fun x=>jas (fun j=>bef.contains j) st0 tr x.1|false=>(jaw st0 tr).filter fun x=>jas (fun j=>bef.contains j) st0 tr x.1&&jcV st0 bef x.1 tr
def jun (bef:List Nat) (tr:List Rec) (nw:Hp):Bool :=match jeo bef tr with|true=>true|false=>nw.all fun x=>jol x.2
def jgp (hp:Hp) (b:Bool) (v:Option V):Bool :=match v with|some (.w (.c (.o h)))=>(match find hp h with|some (.mrow _ _ _ _)=>false|some (.sub _ _ _ _ _ _)=>!b|_=>true)|_=>true
def jcl [Globs] (hp:Hp) (op:Op) (rd:zZ->Option V):Bool :=match op with| .store _ x y=>(match rd x,rd y with|some (.w (.c (.p h _ _ _))),some v=>(match find hp h with|some (.xrow _ _)=>v.allB fun _=>false|some (.mrow _ _ _ _)=>v.allB fun _=>false|some (.sub _ _ _ _ _ _)=>false|some (.trow _ _ _ _)=>false|some (.box _ _)=>!(jzc hp)|_=>true)|_,_=>true)| .call c=>(match c.callee,c.args.toList with| .builtin .append,[s,x]=>jgp hp true (rd s)&&jgp hp false (rd x)|_,_=>true)|_=>true
def jbO [Globs] (L:List qu) (tab:List (List Nat)) (st0:St) (o:qu) (tr:List Rec):Option Nat :=match storeAt o.op (ja3 L (jax L o) (tab.getD tr.length []) st0 tr)with|some h=>(match jea L tab st0 (tab.getD tr.length []) h tr&&jcl (jaw st0 tr) o.op (ja3 L (jax L o) (tab.getD tr.length []) st0 tr)with|true=>some h|false=>none)|none=>none
def mkOf [Globs] (L:List qu) (tab:List (List Nat)) (st0:St) (o:qu) (tr:List Rec):Option Bool :=
 match jbk tab tr.length ((jbO L tab st0 o tr).isSome) false 0 L with
 |true=>some false
 |false=>match(jbO L tab st0 o tr).isSome&&jbk tab tr.length ((jbO L tab st0 o tr).isSome) true 0 L with
  |true=>some true
  |false=>none
def jw6 [Globs] (L:List qu) (tab:List (List Nat)) (st0:St) (o:qu) (tr:List Rec) (mk:Bool) (hp:Hp):Bool :=match mk with|false=>true|true=>jqM (jaw st0 tr) (jac st0 tr) (jbO L tab st0 o tr) hp
def dop [Globs] (P:zP) (sp:jab) (N:Nat) (L:List qu) (tab:List (List Nat)) (st0:St) (o:qu) (tr:List Rec) (k:Rec->Prop):Prop :=
 match jcR N o.dst with
 |false=>False
 |true =>
  match jcj P o.op (ja3 L (jax L o) (tab.getD tr.length []) st0 tr) []with
  |some (ob,v)=>match ja6 (tab.getD tr.length []) st0 tr v [] (jac st0 tr)with|true=>obT (jbw o.op (ja3 L (jax L o) (tab.getD tr.length []) st0 tr) []) ob (k ⟨v,jaw st0 tr,jac st0 tr,0,[],none⟩)|false=>False
  |none =>
   match jaz o.op with
   |true=>match jr1 o.op with|true=>(match jcj P o.op (ja3 L (jax L o) (tab.getD tr.length []) st0 tr) (jiw (tab.getD tr.length []) st0 tr)with|some (ob,v)=>(match ja6 (tab.getD tr.length []) st0 tr v [] (jac st0 tr)with|true=>obT (jbw o.op (ja3 L (jax L o) (tab.getD tr.length []) st0 tr) (jiw (tab.getD tr.length []) st0 tr)) ob (k ⟨v,jaw st0 tr,jac st0 tr,0,[],none⟩)|false=>False)|none=>False)|false=>False
   |false =>
    match jaG o.op with
    |true=>match loadAt o.op (ja3 L (jax L o) (tab.getD tr.length []) st0 tr)with|none=>False|some h=>match find (jaw st0 tr) h with|none=>False|some x=>match jas (fun j=>(tab.getD tr.length []).contains j) st0 tr h&&jcV st0 (tab.getD tr.length []) h tr with|false=>False|true=>match jcj P o.op (ja3 L (jax L o) (tab.getD tr.length []) st0 tr) [(h,x)]with|none=>(match jfR tab tr.length 0 L&&jeo (tab.getD tr.length []) tr&&jau sp o.op (ja3 L (jax L o) (tab.getD tr.length []) st0 tr)with|false=>False|true=>match jda P sp o.op (ja3 L (jax L o) (tab.getD tr.length []) st0 tr) (jep (tab.getD tr.length []) st0 tr) (jac st0 tr)with|some res=>(match ja6 (tab.getD tr.length []) st0 tr res.v (jbf (jac st0 tr) res.hp) res.nx with|true=>obT (jbw o.op (ja3 L (jax L o) (tab.getD tr.length []) st0 tr) (jep (tab.getD tr.length []) st0 tr)) res.ob (k ⟨res.v,jbf (jac st0 tr) res.hp++jaw st0 tr,res.nx,1,jbf (jac st0 tr) res.hp,none⟩)|false=>False)|none=>False)|some (ob,v)=>match ja6 (tab.getD tr.length []) st0 tr v [] (jac st0 tr)with|true=>obT (jbw o.op (ja3 L (jax L o) (tab.getD tr.length []) st0 tr) [(h,x)]) ob (k ⟨v,jaw st0 tr,jac st0 tr,0,[],none⟩)|false=>False
    |false =>
    match jau sp o.op (ja3 L (jax L o) (tab.getD tr.length []) st0 tr)with|true=>(match jda P sp o.op (ja3 L (jax L o) (tab.getD tr.length []) st0 tr) (jep (tab.getD tr.length []) st0 tr) (jac st0 tr)with|some res=>(match ja6 (tab.getD tr.length []) st0 tr res.v (jbf (jac st0 tr) res.hp) res.nx&&jun (tab.getD tr.length []) tr (jbf (jac st0 tr) res.hp)with|true=>obT (jbw o.op (ja3 L (jax L o) (tab.getD tr.length []) st0 tr) (jep (tab.getD tr.length []) st0 tr)) res.ob (k ⟨res.v,jbf (jac st0 tr) res.hp++jaw st0 tr,res.nx,1,jbf (jac st0 tr) res.hp,none⟩)|false=>False)|none=>False)|false=>match mkOf L tab st0 o tr with|none=>False|some mk=>match jda P sp o.op (ja3 L (jax L o) (tab.getD tr.length []) st0 tr) (jaw st0 tr) (jac st0 tr)with|some res=>(match ja6 (tab.getD tr.length []) st0 tr res.v res.hp res.nx&&jw6 L tab st0 o tr mk res.hp with|true=>obT (jbw o.op (ja3 L (jax L o) (tab.getD tr.length []) st0 tr) (jaw st0 tr)) res.ob (k ⟨res.v,res.hp,res.nx,2,[],jbO L tab st0 o tr⟩)|false=>False)|none=>False
def jpF (N:Nat) (st0:St) (o:qu) (tr:List Rec) (k:Rec->Prop):Prop :=match jcR N o.dst with|false=>False|true=>k ⟨vu,jaw st0 tr,jac st0 tr,0,[],none⟩
def jdz (L:List qu) (t:Nat) (v:V):List Rec->List Rec|[]=>[]|r::tr=>match jcr L tr.length with|some d=>if d=t then { r with v:=v } :: tr else r::jdz L t v tr|none=>r::jdz L t v tr
def jhT [Globs] (P:zP) (sp:jab) (N:Nat) (L:List qu) (tab:List (List Nat)) (st0:St):List qu->List Rec->(List Rec->Prop)->Prop
 |[],tr,k=>k tr
 |o::rest,tr,k =>
  match o.guard with
  |none=>dop P sp N L tab st0 o tr fun r=>jhT P sp N L tab st0 rest (r::tr) k
  |some (g,want) =>
   match jcr L g with
   |none=>False
   |some t =>
    match jcF L (tab.getD tr.length []) st0 t tr with
    |some (.w (.c (.d (.b b)))) =>
     Br b
      (match want with|true=>dop P sp N L tab st0 o (jdz L t (vb true) tr) fun r=>jhT P sp N L tab st0 rest (r::jdz L t (vb true) tr) k|false=>jpF N st0 o (jdz L t (vb true) tr) fun r=>jhT P sp N L tab st0 rest (r::jdz L t (vb true) tr) k)
      (match want with|true=>jpF N st0 o (jdz L t (vb false) tr) fun r=>jhT P sp N L tab st0 rest (r::jdz L t (vb false) tr) k|false=>dop P sp N L tab st0 o (jdz L t (vb false) tr) fun r=>jhT P sp N L tab st0 rest (r::jdz L t (vb false) tr) k)
    |some (.w (.c (.d (.v (.tuple _)))))=>jpF N st0 o tr fun r=>jhT P sp N L tab st0 rest (r::tr) k
    |_=>False
def juo (L:List qu) (st0:St):List Rec->List (Nat × V)|[]=>st0.tm|r::tr=>match jcr L tr.length with|some d=>(d,r.v)::juo L st0 tr|none=>juo L st0 tr
def jCf (L:List qu) (st0:St) (tr:List Rec):St:=⟨juo L st0 tr,jaw st0 tr,jac st0 tr⟩
def jeb:Nat->List qu->Bool|_,[]=>true|i,o::r=>(o.after.toList.all fun e=>!(yY .any e)||xD e.on i)&&jeb (i+1) r
def jup [Globs] (P:zP) (sp:jab) (N:Nat) (ops:Array qu) (st:St) (k:St->Prop):Prop :=match jcG ops.toList (jok ops.toList []) 0 ops.toList&&jeb 0 ops.toList with|true=>jhT P sp N ops.toList (jok ops.toList []) st ops.toList [] fun tr=>k (jCf ops.toList st tr)|false=>False
end Go.Sx
end

section
open Go.RowKit
namespace Go.Sx
section
variable [Globs] {P:zP} {sp:jab} {B:Kd} {N n0:Nat} {L:List qu} {tab:List (List Nat)} {st0:St} {I0:Env} {w0:zr}
def ja4 (L:List qu) (tab:List (List Nat)) (st0:St) (o:qu) (tr:List Rec) (b:Bool):Prop :=match o.guard with|none=>b=true|some (g,want)=>∃t v,jcr L g=some t∧jcF L (tab.getD tr.length []) st0 t tr=some v∧((∃c,v=vb c∧(c==want)=b)∨((∃l,v=.w (.c (.d (.v (.tuple l)))))∧b=false))
inductive Kind [Globs] (P:zP) (sp:jab) (L:List qu) (tab:List (List Nat)) (st0:St) (o:qu) (tr:List Rec) (r:Rec):Prop where
 |skip (g:ja4 L tab st0 o tr false) (h:r=⟨vu,jaw st0 tr,jac st0 tr,0,[],none⟩)
 |pure (g:ja4 L tab st0 o tr true) (ob:Prop) (hs:jcj P o.op (ja3 L (jax L o) (tab.getD tr.length []) st0 tr) []=some (ob,r.v)) (ho:ob) (hk:ja6 (tab.getD tr.length []) st0 tr r.v [] (jac st0 tr)=true) (h:r=⟨r.v,jaw st0 tr,jac st0 tr,0,[],none⟩)
 |built (g:ja4 L tab st0 o tr true) (hb:jr1 o.op=true) (ob:Prop) (hs:jcj P o.op (ja3 L (jax L o) (tab.getD tr.length []) st0 tr) (jiw (tab.getD tr.length []) st0 tr)=some (ob,r.v)) (ho:ob) (hk:ja6 (tab.getD tr.length []) st0 tr r.v [] (jac st0 tr)=true) (h:r=⟨r.v,jaw st0 tr,jac st0 tr,0,[],none⟩)
 |load (g:ja4 L tab st0 o tr true) (hp:jaz o.op=false) (hl:jaG o.op=true) (x:Nat) (xo:O) (hx:loadAt o.op (ja3 L (jax L o) (tab.getD tr.length []) st0 tr)=some x) (hf:find (jaw st0 tr) x=some xo)
   (hb:jas (fun j=>(tab.getD tr.length []).contains j) st0 tr x=true) (hst:jcV st0 (tab.getD tr.length []) x tr=true) (ob:Prop)
   (hs:jcj P o.op (ja3 L (jax L o) (tab.getD tr.length []) st0 tr) [(x,xo)]=some (ob,r.v)) (ho:ob) (hk:ja6 (tab.getD tr.length []) st0 tr r.v [] (jac st0 tr)=true) (h:r=⟨r.v,jaw st0 tr,jac st0 tr,0,[],none⟩)
 |mono (g:ja4 L tab st0 o tr true) (hp:jaz o.op=false) (hl:jaG o.op=false) (hm:jau sp o.op (ja3 L (jax L o) (tab.getD tr.length []) st0 tr)=true) (res:Res)
   (hs:jda P sp o.op (ja3 L (jax L o) (tab.getD tr.length []) st0 tr) (jep (tab.getD tr.length []) st0 tr) (jac st0 tr)=some res) (ho:res.ob)
   (hk:ja6 (tab.getD tr.length []) st0 tr res.v (jbf (jac st0 tr) res.hp) res.nx=true) (hn:jun (tab.getD tr.length []) tr (jbf (jac st0 tr) res.hp)=true)
   (h:r=⟨res.v,jbf (jac st0 tr) res.hp++jaw st0 tr,res.nx,1,jbf (jac st0 tr) res.hp,none⟩)
 |mload (g:ja4 L tab st0 o tr true) (hp:jaz o.op=false) (hl:jaG o.op=true) (hmk:jfR tab tr.length 0 L=true) (hal:jeo (tab.getD tr.length []) tr=true) (hm:jau sp o.op (ja3 L (jax L o) (tab.getD tr.length []) st0 tr)=true) (res:Res)
   (hs:jda P sp o.op (ja3 L (jax L o) (tab.getD tr.length []) st0 tr) (jep (tab.getD tr.length []) st0 tr) (jac st0 tr)=some res) (ho:res.ob)
   (hk:ja6 (tab.getD tr.length []) st0 tr res.v (jbf (jac st0 tr) res.hp) res.nx=true)
   (h:r=⟨res.v,jbf (jac st0 tr) res.hp++jaw st0 tr,res.nx,1,jbf (jac st0 tr) res.hp,none⟩)
 |effect (g:ja4 L tab st0 o tr true) (hp:jaz o.op=false) (hl:jaG o.op=false) (hmo:jau sp o.op (ja3 L (jax L o) (tab.getD tr.length []) st0 tr)=false) (mk:Bool) (hf:jbk tab tr.length ((jbO L tab st0 o tr).isSome) mk 0 L=true) (res:Res)
   (hs:jda P sp o.op (ja3 L (jax L o) (tab.getD tr.length []) st0 tr) (jaw st0 tr) (jac st0 tr)=some res) (ho:res.ob)
   (hk:ja6 (tab.getD tr.length []) st0 tr res.v res.hp res.nx=true) (hm:jw6 L tab st0 o tr mk res.hp=true) (h:r=⟨res.v,res.hp,res.nx,2,[],jbO L tab st0 o tr⟩)
structure RecOK [Globs] (P:zP) (sp:jab) (N:Nat) (L:List qu) (tab:List (List Nat)) (st0:St) (tr:List Rec) (r:Rec) (o:qu):Prop where
 op:L[tr.length]?=some o
 dst:jcR N o.dst=true
 kind:Kind P sp L tab st0 o tr r
inductive GoodTr [Globs] (P:zP) (sp:jab) (N:Nat) (L:List qu) (tab:List (List Nat)) (st0:St):List Rec->Prop where
 |nil:GoodTr P sp N L tab st0 []
 |cons {tr:List Rec} {r:Rec} (h:GoodTr P sp N L tab st0 tr) (o:qu) (hr:RecOK P sp N L tab st0 tr r o):GoodTr P sp N L tab st0 (r::tr)
def jeO {t:Bool} {ob k:Prop} (h:obT t ob k) (ht:t=true->ob):ob∧k:=by
 cases t
 ·exact⟨h.1.h,h.2⟩
 ·exact⟨ht rfl,h⟩
def jom {op:Op} {rd:zZ->Option V} {hp:Hp} {ob:Prop} {v:V} (ht:jbw op rd hp=true) (h:jcj P op rd hp=some (ob,v)):ob :=jiv (sp:=fun _=>none) (nx:=0) (r:=⟨ob,v,hp,0⟩) (P:=P) ht (by unfold jda;rw[h])
def jjC {bef:List Nat} {t:Nat} {v:V}:∀{tr:List Rec},jcF L bef st0 t tr=some v->jdz L t v tr=tr
 |[],_=>rfl
 |r::tr,h=>by
  simp only[jcF]at h;simp only[jdz];cases hd:jcr L tr.length with
  |none =>
   simp only[hd]at h;rw[jjC h]
  |some d =>
   simp only[hd]at h ⊢;split at h
   ·rename_i e;rw[if_pos e];split at h
    ·cases h;rfl
    ·cases h
   ·rename_i e;rw[if_neg e,jjC h]
def jzo {o:qu} {tr:List Rec} {mk:Bool} (h:mkOf L tab st0 o tr=some mk):jbk tab tr.length ((jbO L tab st0 o tr).isSome) mk 0 L=true:=by
 unfold mkOf at h;split at h
 ·rename_i hf;cases h;exact hf
 ·split at h
  ·rename_i hf;cases h;simp only[zk]at hf;exact hf.2
  ·cases h
def jon {o:qu} {tr:List Rec} {k:Rec->Prop} (h:dop P sp N L tab st0 o tr k) (hg:ja4 L tab st0 o tr true) (hL:L[tr.length]?=some o):∃r,k r∧RecOK P sp N L tab st0 tr r o:=by
 unfold dop at h;split at h
 ·exact h.elim
 ·rename_i hd;split at h
  ·rename_i ob v hs;split at h
   ·rename_i hok;obtain⟨ho,hk⟩:=jeO h (fun ht=>jom ht hs);exact⟨_,hk,hL,hd,.pure hg ob hs ho hok rfl⟩
   ·exact h.elim
  ·split at h
   ·split at h
    ·rename_i hbo;split at h
     ·rename_i ob v hs;split at h
      ·rename_i hok;obtain⟨ho,hk⟩:=jeO h (fun ht=>jom ht hs);exact⟨_,hk,hL,hd,.built hg hbo ob hs ho hok rfl⟩
      ·exact h.elim
     ·exact h.elim
    ·exact h.elim
   ·rename_i hsp;split at h
    ·rename_i hl;split at h
     ·exact h.elim
     ·rename_i x hx;split at h
      ·exact h.elim
      ·rename_i xo hf;split at h
       ·exact h.elim
       ·rename_i hbs;split at h
        ·split at h
         ·exact h.elim
         ·rename_i hmk;split at h
          ·rename_i res hs;split at h
           ·rename_i hok;obtain⟨ho,hk⟩:=jeO h (fun ht=>jiv ht hs);simp only[zk]at hmk;exact⟨_,hk,hL,hd,.mload hg hsp hl hmk.1.1 hmk.1.2 hmk.2 res hs ho hok rfl⟩
           ·exact h.elim
          ·exact h.elim
        ·rename_i ob v hs;split at h
         ·rename_i hok;obtain⟨ho,hk⟩:=jeO h (fun ht=>jom ht hs);simp only[zk]at hbs;exact⟨_,hk,hL,hd,.load hg hsp hl x xo hx hf hbs.1 hbs.2 ob hs ho hok rfl⟩
         ·exact h.elim
    ·rename_i hl;split at h
     ·rename_i hm;split at h
      ·rename_i res hs;split at h
       ·rename_i hok;obtain⟨ho,hk⟩:=jeO h (fun ht=>jiv ht hs);simp only[zk]at hok;exact⟨_,hk,hL,hd,.mono hg hsp hl hm res hs ho hok.1 hok.2 rfl⟩
       ·exact h.elim
      ·exact h.elim
     ·rename_i hmo;split at h
      ·exact h.elim
      ·rename_i mk hf;split at h
       ·rename_i res hs;split at h
        ·rename_i hok;obtain⟨ho,hk⟩:=jeO h (fun ht=>jiv ht hs);simp only[zk]at hok;exact⟨_,hk,hL,hd,.effect hg hsp hl hmo mk (jzo hf) res hs ho hok.1 hok.2 rfl⟩
        ·exact h.elim
       ·exact h.elim
def jjD {o:qu} {tr:List Rec} {k:Rec->Prop} (h:jpF N st0 o tr k) (hg:ja4 L tab st0 o tr false) (hL:L[tr.length]?=some o):∃r,k r∧RecOK P sp N L tab st0 tr r o:=by
 unfold jpF at h;split at h
 ·exact h.elim
 ·rename_i hd;exact⟨_,h,hL,hd,.skip hg rfl⟩
def jr2:∀(rest:List qu) (tr:List Rec) (k:List Rec->Prop),jhT P sp N L tab st0 rest tr k->GoodTr P sp N L tab st0 tr->L=L.take tr.length++rest->tr.length+rest.length=L.length -> ∃T,k T∧GoodTr P sp N L tab st0 T∧T.length=L.length
 |[],tr,k,h,hg,_,hlen=>⟨tr,h,hg,by simpa using hlen⟩
 |o::rest,tr,k,h,hg,hL,hlen=>by
  have hlt:tr.length<L.length:=by simp at hlen;omega
  have ho:L[tr.length]?=some o:=by
   rw[hL,qj (by simp;omega)];simp[yv (g9 hlt)]
  have next:∀r,jhT P sp N L tab st0 rest (r::tr) k->RecOK P sp N L tab st0 tr r o->∃T,k T∧GoodTr P sp N L tab st0 T∧T.length=L.length:=by
   intro r hr hok;refine jr2 rest (r::tr) k hr (.cons hg o hok) ?_ (by simp at hlen ⊢;omega)
   have h1:L.take (tr.length+1)=L.take tr.length++[o]:=by
    rw[yo hlt]
    congr 2
    have:=zH hlt;rw[this]at ho;exact yf ho
   simp only[zB,h1,qF,fj];exact hL
  unfold jhT at h;split at h
  ·rename_i hgd;obtain⟨r,hk,hok⟩:=jon h (by unfold ja4;rw[hgd]) ho;exact next r hk hok
  ·rename_i g want hgd;split at h
   ·exact h.elim
   ·rename_i t hdt;split at h
    ·rename_i b hsl;have hset:∀c,b=c->jdz L t (vb c) tr=tr:=fun c e=>jjC (by rw[hsl,e];rfl)
     have says:∀c d,b=c->(c==want)=d->ja4 L tab st0 o tr d:=fun c d e e2=>by
      unfold ja4;rw[hgd];exact⟨t,_,hdt,hsl,.inl ⟨b,rfl,by rw[e];exact e2⟩⟩
     cases b<;>cases want<;>simp only[Br,hset _ rfl]at h
     ·obtain⟨r,hk,hok⟩:=jon h (says false true rfl rfl) ho;exact next r hk hok
     ·obtain⟨r,hk,hok⟩:=jjD (P:=P) (sp:=sp) h (says false false rfl rfl) ho;exact next r hk hok
     ·obtain⟨r,hk,hok⟩:=jjD (P:=P) (sp:=sp) h (says true false rfl rfl) ho;exact next r hk hok
     ·obtain⟨r,hk,hok⟩:=jon h (says true true rfl rfl) ho;exact next r hk hok
    ·rename_i l hsl;obtain⟨r,hk,hok⟩:=jjD (P:=P) (sp:=sp) h (by unfold ja4;rw[hgd];exact⟨t,_,hdt,hsl,.inr ⟨⟨l,rfl⟩,rfl⟩⟩) ho;exact next r hk hok
    ·exact h.elim
def jbp (L:List qu) (D:Nat->Bool) (st0:St) (t:Nat):List Rec->Option V|[]=>jaP st0.tm t|r::tr=>if jcr L tr.length=some t∧D tr.length=true then some r.v else jbp L D st0 t tr
def jao (D:Nat->Bool) (st0:St):List Rec->Hp|[]=>st0.hp|r::tr=>if D tr.length=true then(if r.kd=2 then r.hp else r.nw++jao D st0 tr)else jao D st0 tr
def jaq {a b:Hp} {h:Nat}:find (a++b) h=(find a h).or (find b h):=by
 induction a with
 |nil=>rfl
 |cons p r ih =>
  obtain⟨k,o⟩:=p;simp only[qq,find];split
  ·rfl
  ·exact ih
def jfb {hp:Hp} {p:Nat->Bool} {h:Nat}:find (hp.filter fun x=>p x.1) h=if p h=true then find hp h else none:=by
 induction hp with
 |nil=>simp[find]
 |cons x r ih =>
  obtain⟨k,o⟩:=x;simp only[List.filter_cons,find]
  by_cases hk:p k=true
  ·rw[if_pos hk];simp only[find]
   by_cases e:k=h
   ·subst e;simp[hk]
   ·rw[if_neg e,if_neg e];exact ih
  ·rw[if_neg hk]
   by_cases e:k=h
   ·subst e;rw[ih];simp[hk]
   ·rw[if_neg e];exact ih
end
end Go.Sx
end

section
open Go.RowKit
namespace Go.Sx
def C.val_eqB {p:Nat->Bool} {I I':Env} (hI:∀h,p h=true->I' h=I h):∀{x:C},x.allB p=true->x.val I'=x.val I
 | .d _,_=>rfl
 | .p h _ _ _,hx=>by have hx:p h=true:=hx;simp only[C.val,hI h hx]
 | .o h,hx=>hI h hx
 | .fn _ hs,hx=>by
  simp only[C.val]
  congr 2
  exact qx fun a ha=>hI a (zy.1 hx a ha)
 | .g _ _ _ _,_=>rfl
def W.val_eqB {p:Nat->Bool} {I I':Env} (hI:∀h,p h=true->I' h=I h):∀{x:W},x.allB p=true->x.val I'=x.val I
 | .c _,hx=>C.val_eqB hI hx
 | .a l,hx=>by
  simp only[W.val]
  congr 2
  exact qx fun a ha=>C.val_eqB hI (zy.1 hx a ha)
 | .b _ _,_=>rfl
def V.val_eqB {p:Nat->Bool} {I I':Env} (hI:∀h,p h=true->I' h=I h):∀{x:V},x.allB p=true->x.val I'=x.val I
 | .w _,hx=>W.val_eqB hI hx
 | .t l,hx=>by
  simp only[V.val]
  congr 2
  exact qx fun a ha=>W.val_eqB hI (zy.1 hx a ha)
def C.allB_mono {p q:Nat->Bool} (h:∀x,p x=true->q x=true):∀{x:C},x.allB p=true->x.allB q=true| .d _,_=>rfl| .p _ _ _ _,hx=>h _ hx| .o _,hx=>h _ hx| .fn _ _,hx=>zy.2 fun a ha=>h a (zy.1 hx a ha)| .g _ _ _ _,_=>rfl
def W.allB_mono {p q:Nat->Bool} (h:∀x,p x=true->q x=true):∀{x:W},x.allB p=true->x.allB q=true| .c _,hx=>C.allB_mono h hx| .a _,hx=>zy.2 fun a ha=>C.allB_mono h (zy.1 hx a ha)| .b _ _,_=>rfl
def V.allB_mono {p q:Nat->Bool} (h:∀x,p x=true->q x=true):∀{x:V},x.allB p=true->x.allB q=true| .w _,hx=>W.allB_mono h hx| .t _,hx=>zy.2 fun a ha=>W.allB_mono h (zy.1 hx a ha)
def O.allB_mono {p q:Nat->Bool} (h:∀x,p x=true->q x=true):∀{x:O},x.allB p=true->x.allB q=true| .box _ _,hx=>zy.2 fun a ha=>C.allB_mono h (zy.1 hx a ha)| .view _ _ _,hx=>h _ hx| .sub _ _ _ _ _ _,hx=>h _ hx| .row _ _,_=>rfl| .ext _,_=>rfl| .dead,_=>rfl| .nan _,_=>rfl| .err,_=>rfl| .atom,_=>rfl| .ebox _,hx=>zy.2 fun a ha=>C.allB_mono h (zy.1 hx a ha)| .arr _ _ _,_=>rfl| .xext _,_=>rfl| .fext _,_=>rfl| .xrow _ _,_=>rfl| .mrow _ _ _ _,_=>rfl| .trow _ _ _ _,_=>rfl
def C.lt_of_allB {n:Nat} {p:Nat->Bool} (h:∀x,p x=true->x<n):∀{x:C},x.allB p=true->x.lt n| .d _,_=>trivial| .p _ _ _ _,hx=>h _ hx| .o _,hx=>h _ hx| .fn _ _,hx=>fun a ha=>h a (zy.1 hx a ha)| .g _ _ _ _,_=>trivial
def W.lt_of_allB {n:Nat} {p:Nat->Bool} (h:∀x,p x=true->x<n):∀{x:W},x.allB p=true->x.lt n| .c _,hx=>C.lt_of_allB h hx| .a _,hx=>fun a ha=>C.lt_of_allB h (zy.1 hx a ha)| .b _ _,_=>trivial
def V.lt_of_allB {n:Nat} {p:Nat->Bool} (h:∀x,p x=true->x<n):∀{x:V},x.allB p=true->x.lt n| .w _,hx=>W.lt_of_allB h hx| .t _,hx=>fun a ha=>W.lt_of_allB h (zy.1 hx a ha)
def O.lt_of_allB {n:Nat} {p:Nat->Bool} (h:∀x,p x=true->x<n):∀{x:O},x.allB p=true->x.lt n| .box _ _,hx=>fun a ha=>C.lt_of_allB h (zy.1 hx a ha)| .view _ _ _,hx=>h _ hx| .sub _ _ _ _ _ _,hx=>h _ hx| .row _ _,_=>trivial| .ext _,_=>trivial| .dead,_=>trivial| .nan _,_=>trivial| .err,_=>trivial| .atom,_=>trivial| .ebox _,hx=>fun a ha=>C.lt_of_allB h (zy.1 hx a ha)| .arr _ _ _,_=>trivial| .xext _,_=>trivial| .fext _,_=>trivial| .xrow _ _,_=>trivial| .mrow _ _ _ _,_=>trivial| .trow _ _ _ _,_=>trivial
def C.allB_of_lt {n:Nat} {p:Nat->Bool} (h:∀x,x<n->p x=true):∀{x:C},x.lt n->x.allB p=true| .d _,_=>rfl| .p _ _ _ _,hx=>h _ hx| .o _,hx=>h _ hx| .fn _ _,hx=>zy.2 fun a ha=>h a (hx a ha)| .g _ _ _ _,_=>rfl
def W.allB_of_lt {n:Nat} {p:Nat->Bool} (h:∀x,x<n->p x=true):∀{x:W},x.lt n->x.allB p=true| .c _,hx=>C.allB_of_lt h hx| .a _,hx=>zy.2 fun a ha=>C.allB_of_lt h (hx a ha)| .b _ _,_=>rfl
def V.allB_of_lt {n:Nat} {p:Nat->Bool} (h:∀x,x<n->p x=true):∀{x:V},x.lt n->x.allB p=true| .w _,hx=>W.allB_of_lt h hx| .t _,hx=>zy.2 fun a ha=>W.allB_of_lt h (hx a ha)
def O.allB_of_lt {n:Nat} {p:Nat->Bool} (h:∀x,x<n->p x=true):∀{x:O},x.lt n->x.allB p=true| .box _ _,hx=>zy.2 fun a ha=>C.allB_of_lt h (hx a ha)| .view _ _ _,hx=>h _ hx| .sub _ _ _ _ _ _,hx=>h _ hx| .row _ _,_=>rfl| .ext _,_=>rfl| .dead,_=>rfl| .nan _,_=>rfl| .err,_=>rfl| .atom,_=>rfl| .ebox _,hx=>zy.2 fun a ha=>C.allB_of_lt h (hx a ha)| .arr _ _ _,_=>rfl| .xext _,_=>rfl| .fext _,_=>rfl| .xrow _ _,_=>rfl| .mrow _ _ _ _,_=>rfl| .trow _ _ _ _,_=>rfl
section
variable [Globs] {P:zP} {sp:jab} {B0 B:Kd} {N n0:Nat} {L:List qu} {tab:List (List Nat)} {st0:St} {I0:Env} {w0:zr} {ds:List yK}
def RecOK.nx_le {tr:List Rec} {r:Rec} {o:qu} (h:RecOK P sp N L tab st0 tr r o):jac st0 tr<=r.nx:=by
 cases h.kind with
 |skip g e=>rw[e];exact zp _
 |pure g ob hs ho hk e=>rw[e];exact zp _
 |built g hb ob hs ho hk e=>rw[e];exact zp _
 |load g hp hl x xo hx hf hb hst ob hs ho hk e=>rw[e];exact zp _
 |mono g hp hl hm res hs ho hk hnk e =>
  simp only[ja6,zk,xt]at hk;rw[e];exact hk.1.1
 |mload g hp hl hmk hal hm res hs ho hk e =>
  simp only[ja6,zk,xt]at hk;rw[e];exact hk.1.1
 |effect g hp hl hmo mk hf res hs ho hk hmk e =>
  simp only[ja6,zk,xt]at hk;rw[e];exact hk.1.1
def GoodTr.tail {later tr:List Rec} (h:GoodTr P sp N L tab st0 (later++tr)):GoodTr P sp N L tab st0 tr:=by
 induction later with
 |nil=>exact h
 |cons r l ih=>cases h with|cons h' o hr=>exact ih h'
def jdl {later tr:List Rec} (h:GoodTr P sp N L tab st0 (later++tr)):jac st0 tr<=jac st0 (later++tr):=by
 induction later with
 |nil=>exact zp _
 |cons r l ih=>cases h with|cons h' o hr=>exact xb (ih h') hr.nx_le
def jmM {tr:List Rec} (h:GoodTr P sp N L tab st0 tr):st0.nx<=jac st0 tr:=by
 have:=jdl (later:=tr) (tr:=[]) (by rw[yw];exact h);rw[yw]at this;exact this
def jCC {T:List Rec} (h:GoodTr P sp N L tab st0 T) {i:Nat} (hi:i<T.length):∃later r tr o,T=later++r::tr∧tr.length=i∧RecOK P sp N L tab st0 tr r o:=by
 induction h with
 |nil=>simp at hi
 | @cons tr r h o hr ih =>
  by_cases he:i=tr.length
  ·exact⟨[],r,tr,o,rfl,he.symm,hr⟩
  ·obtain⟨later,r',tr',o',h1,h2,h3⟩:=ih (by simp at hi;omega);exact⟨r::later,r',tr',o',by simp[h1],h2,h3⟩
def jjE {q:Nat->Bool} {later tr:List Rec} {h:Nat} (hg:GoodTr P sp N L tab st0 (later++tr)) (hh:h<jac st0 tr):jas q st0 (later++tr) h=jas q st0 tr h:=by
 induction later with
 |nil=>rfl
 |cons r l ih =>
  cases hg with
  |cons h' o hr =>
   have h1:=jdl h';simp only[qq,jas]
   have:qN (jac st0 (l++tr)) h=false:=by
    rw[xi];intro hc;rw[xt]at hc;omega
   rw[this];exact ih h'
def jw7 {q:Nat->Bool} {later tr:List Rec} {r:Rec} {h:Nat} (hg:GoodTr P sp N L tab st0 (later++r::tr)) (h1:jac st0 tr<=h) (h2:h<r.nx):jas q st0 (later++r::tr) h=q tr.length:=by
 rw[jjE hg (show h<jac st0 (r::tr)from h2)];simp only[jas];have:qN (jac st0 tr) h=true:=by rw[xt];exact h1
 rw[this]
def jka {later tr:List Rec} {h:Nat} (hg:GoodTr P sp N L tab st0 (later++tr)) (hh:h<jac st0 tr):jbU st0 (later++tr) h=jbU st0 tr h:=by
 induction later with
 |nil=>rfl
 |cons r l ih =>
  cases hg with
  |cons h' o hr =>
   have h1:=jdl h';simp only[qq,jbU]
   have:qN (jac st0 (l++tr)) h=false:=by
    rw[xi];intro hc;rw[xt]at hc;omega
   rw[this];exact ih h'
def jxU {later tr:List Rec} {r:Rec} {h:Nat} (hg:GoodTr P sp N L tab st0 (later++r::tr)) (h1:jac st0 tr<=h) (h2:h<r.nx):jbU st0 (later++r::tr) h=C.one r.hp (.o h):=by
 rw[jka hg (show h<jac st0 (r::tr)from h2)];simp only[jbU];have:qN (jac st0 tr) h=true:=by rw[xt];exact h1
 rw[this]
def jla {h:Nat} (hh:h<st0.nx):∀{tr:List Rec},GoodTr P sp N L tab st0 tr->jbU st0 tr h=C.one st0.hp (.o h)
 |[],_=>rfl
 |r::tr,hg=>by
  cases hg with
  |cons h' o hr =>
   have:=jmM h';simp only[jbU]
   have e:qN (jac st0 tr) h=false:=by
    rw[xi];intro hc;rw[xt]at hc;omega
   rw[e];exact jla hh h'
def jpG {q q':Nat->Bool} {x:Nat}:∀{tr:List Rec},(∀j,j<tr.length->q' j=q j)->jas q' st0 tr x=jas q st0 tr x
 |[],_=>rfl
 |r::tr,hq=>by
  simp only[jas];split
  ·exact hq _ (by simp)
  ·exact jpG fun j hj=>hq j (by simp;omega)
def jA1 {q q':Nat->Bool} {later tr:List Rec} {r:Rec} {x:Nat} (hq:∀j,j≠tr.length->q' j=q j) (hx:¬(jac st0 tr<=x∧x<r.nx)) (hg:GoodTr P sp N L tab st0 (later++r::tr)) (hlt:x<jac st0 (later++r::tr)) :
  jas q' st0 (later++r::tr) x=jas q st0 (later++r::tr) x:=by
 induction later with
 |nil =>
  have hlt:x<r.nx:=hlt;have h1:¬jac st0 tr<=x:=fun h=>hx ⟨h,hlt⟩
  have e:qN (jac st0 tr) x=false:=by
   rw[xi];intro hc;rw[xt]at hc;exact h1 hc
  simp only[qS,jas,e];exact jpG fun j hj=>hq j (by omega)
 |cons r' l ih =>
  cases hg with
  |cons h' o hr =>
   simp only[qq,jas];split
   ·exact hq _ (by simp;omega)
   ·rename_i hb;refine ih h' ?_;have:¬jac st0 (l++r::tr)<=x:=fun hc=>by rw[x6 hc]at hb;cases hb
    omega
def jfr {q q':Nat->Bool} (hq:∀j,q j=true->q' j=true):∀(tr:List Rec) (h:Nat),jas q st0 tr h=true->jas q' st0 tr h=true
 |[],_,_=>rfl
 |r::tr,h,hb=>by
  simp only[jas]at hb ⊢;split at hb
  ·exact hq _ hb
  ·exact jfr hq tr h hb
def jr3 {q:Nat->Bool} {h:Nat} (hh:h<st0.nx):∀{tr:List Rec},GoodTr P sp N L tab st0 tr->jas q st0 tr h=true
 |[],_=>rfl
 |r::tr,hg=>by
  cases hg with
  |cons h' o hr =>
   have:=jmM h';simp only[jas]
   have e:qN (jac st0 tr) h=false:=by
    rw[xi];intro hc;rw[xt]at hc;omega
   rw[e];exact jr3 hh h'
def jgq {bef:List Nat} {D:Nat->Bool} {t:Nat} (hb:∀j,j∈bef->D j=true):∀{tr:List Rec} {v:V},jcF L bef st0 t tr=some v->jbp L D st0 t tr=some v
 |[],_,h=>h
 |r::tr,v,h=>by
  simp only[jcF]at h;simp only[jbp];cases hd:jcr L tr.length with
  |none =>
   simp only[hd]at h;rw[if_neg (by simp)];exact jgq hb h
  |some d =>
   simp only[hd]at h;split at h
   ·rename_i e;subst e;split at h
    ·rename_i hc;rw[if_pos ⟨rfl,hb _ (by simpa using hc)⟩];exact h
    ·cases h
   ·rename_i e;rw[if_neg (by simp[e])];exact jgq hb h
def jhU {D:Nat->Bool} {t:Nat} {tr:List Rec}:∀{later:List Rec},(∀j,tr.length<=j->jcr L j=some t->D j=false)->jbp L D st0 t (later++tr)=jbp L D st0 t tr
 |[],_=>rfl
 |r::l,h=>by
  simp only[qq,jbp];rw[if_neg (fun⟨h1,h2⟩=>by rw[h _ (by simp) h1]at h2;cases h2)];exact jhU h
def jnA {D D':Nat->Bool} {t:Nat}:∀{tr:List Rec},(∀j,j<tr.length->D' j=D j)->jbp L D' st0 t tr=jbp L D st0 t tr
 |[],_=>rfl
 |r::tr,h=>by
  simp only[jbp];rw[h tr.length (by simp),jnA (fun j hj=>h j (by simp;omega))]
def jhV {D D':Nat->Bool}:∀{tr:List Rec},(∀j,j<tr.length->D' j=D j)->jao D' st0 tr=jao D st0 tr
 |[],_=>rfl
 |r::tr,h=>by
  simp only[jao];rw[h tr.length (by simp),jhV (fun j hj=>h j (by simp;omega))]
def jhd {j t:Nat}:∀{l:List qu} {i:Nat},jfS L tab j t i l=true->∀m o,l[m]?=some o->i+m<j->t∈jax L o->(i+m)∈tab.getD j []
 |[],_,_,_,_,h,_,_=>by simp at h
 |o' :: r,i,hs,m,o,h,hlt,ht=>by
  simp only[jfS,zk]at hs;cases m with
  |zero =>
   simp at h;subst h;have h1:=hs.1;have hb:xD i j=true:=by rw[qL];omega
   have hc:(jax L o').contains t=true:=by simpa using ht
   rw[hb,hc]at h1;simpa using h1
  |succ m =>
   have:=jhd hs.2 m o (by simpa using h) (by omega) ht;rw[show i+(m+1)=i+1+m by omega];exact this
def jlb:∀{l:List qu} {j:Nat},jcG L tab j l=true->∀m o t,l[m]?=some o->o.dst=some t->∀i o',L[i]?=some o'->i<j+m->t∈jax L o'->i∈tab.getD (j+m) []
 |[],_,_,_,_,_,h,_,_,_,_,_,_=>by simp at h
 |o0::r,j,hs,m,o,t,h,hd,i,o',ho',hlt,ht=>by
  simp only[jcG,zk]at hs;cases m with
  |zero =>
   simp at h;subst h;have h1:=hs.1;rw[hd]at h1;have:=jhd h1 i o' ho' (by simpa using hlt) ht;simpa using this
  |succ m =>
   have:=jlb hs.2 m o t (by simpa using h) hd i o' ho' (by omega) ht;rw[show j+(m+1)=j+1+m by omega];exact this
def jlc {D:Nat->Bool} {i t:Nat} {o:qu} (hs:jcG L tab 0 L=true) (ht:jcT L tab) (hc:jcE L D) (hi:D i=false) (ho:L[i]?=some o) (hn:t∈jax L o) :
  ∀j,i<j->jcr L j=some t->D j=false:=by
 intro j hij hd;rw[xi];intro hD;unfold jcr at hd;cases hj:L[j]? with
 |none=>simp[hj]at hd
 |some oj =>
  simp only[hj,zV]at hd;have h1:=jlb hs j oj t (by simpa using hj) hd i o ho (by omega) hn;rw[qa]at h1;have:=jcU ht hc j i (fun o' ho' e he hb=>hc j o' ho' hD e he hb) h1;rw[this]at hi;cases hi
def jr4 {D:Nat->Bool} {later tr:List Rec} {r:Rec} {o:qu} {t:Nat} {v:V} (hs:jcG L tab 0 L=true) (ht:jcT L tab) (hc:jcE L D) (hi:D tr.length=false) (ho:L[tr.length]?=some o) (hn:t∈jax L o)
  (hb:∀j,j∈tab.getD tr.length []->D j=true) (h:jcF L (tab.getD tr.length []) st0 t tr=some v):jbp L D st0 t (later++r::tr)=some v:=by
 rw[show later++r::tr=(later++[r])++tr by simp,jhU]
 ·exact jgq hb h
 ·intro j hj hd
  by_cases he:j=tr.length
  ·rw[he];exact hi
  ·exact jlc hs ht hc hi ho hn j (by omega) hd
def jaV (st0:St) (T:List Rec) (D:Nat->Bool) (h:Nat):Bool:=xD h (jac st0 T)&&jas D st0 T h
structure Inv [Globs] (ds:List yK) (L:List qu) (st0:St) (B0 B:Kd) (N n0:Nat) (I0:Env) (w0:zr) (T:List Rec) (D:Nat->Bool) (a:Act) (w:zr) (I:Env):Prop where
 tm:∀t v,jbp L D st0 t T=some v->v.allB (jaV st0 T D)=true∧a.tmps.getD t zJ=v.val I
 size:a.tmps.size=N
 defers:a.defers=ds
 heap:HRel I B (jao D st0 T) (jac st0 T) w
 hal:∀h o,find (jao D st0 T) h=some o->jaV st0 T D h=true∧o.allB (jaV st0 T D)=true
 le:Old B w
 agree:jah n0 I0 I
 below:Bel B0 w0 w
 one:∀h,jaV st0 T D h=true->jbU st0 T h=true->(I h).oneCell'=true
 gr:Grow B0 B false w w
 le0:Old B0 w
def jdm {D:Nat->Bool} {later tr:List Rec} {r:Rec} {o:qu} {a:Act} {w:zr} {I:Env} {b:Bool} (hs:jcG L tab 0 L=true) (ht:jcT L tab) (hc:jcE L D) (hi:D tr.length=false) (ho:L[tr.length]?=some o)
  (hb:∀j,j∈tab.getD tr.length []->D j=true) (hinv:Inv ds L st0 B0 B N n0 I0 w0 (later++r::tr) D a w I) (hg:ja4 L tab st0 o tr b):yP o (fc L.toArray a.tmps)=b:=by
 unfold ja4 at hg;unfold yP;cases hgd:o.guard with
 |none=>rw[hgd]at hg;exact hg.symm
 |some p =>
  obtain⟨g,want⟩:=p;rw[hgd]at hg;obtain⟨t,v,hdt,hsl,hor⟩:=hg;have hn:t∈jax L o:=by simp[jax,hgd,hdt]
  have hsd:=jr4 (later:=later) (r:=r) hs ht hc hi ho hn hb hsl;have h1:=(hinv.tm t v hsd).2
  have hy:fc L.toArray a.tmps g=(match v.val I with | .bool b=>some b|_=>none):=by
   unfold fc;have hd2:((L.toArray[g]?).bind (·.dst))=some t:=by simpa [jcr]using hdt
   rw[hd2];simp only[zV];rw[<-h1]
   by_cases hlt:t<a.tmps.size
   ·simp only[xO,xm hlt,z9];cases a.tmps[t]<;>rfl
   ·simp[hlt,zJ]
  dsimp only;rw[hy];rcases hor with ⟨c,rfl,hcw⟩|⟨⟨l,rfl⟩,rfl⟩
  ·simpa using hcw
  ·rfl
def jmN {D D':Nat->Bool} {later tr:List Rec} {r:Rec} {o:qu} {a:Act} {w:zr} {I I':Env} (hs:jcG L tab 0 L=true) (ht:jcT L tab) (hc:jcE L D) (hi:D tr.length=false) (ho:L[tr.length]?=some o)
  (hok:jcR N o.dst=true) (hD1:D' tr.length=true) (hD2:∀j,j≠tr.length->D' j=D j) (hinv:Inv ds L st0 B0 B N n0 I0 w0 (later++r::tr) D a w I)
  (hI:∀h,jaV st0 (later++r::tr) D h=true->I' h=I h) (hv:r.v.allB (jaV st0 (later++r::tr) D')=true) :
  ∀t v,jbp L D' st0 t (later++r::tr)=some v->v.allB (jaV st0 (later++r::tr) D')=true∧(a.put o.dst (r.v.val I')).tmps.getD t zJ=v.val I':=by
 intro t v hsl;have hdl:∀x,o.dst=some x->x<a.tmps.size:=fun x hx=>by rw[hinv.size];exact juj hok x hx
 rw[jbB hdl];have hdst:jcr L tr.length=o.dst:=by simp[jcr,ho]
 have hal:∀h,jaV st0 (later++r::tr) D h=true->jaV st0 (later++r::tr) D' h=true:=by
  intro h hh;simp only[jaV,zk]at hh ⊢;refine⟨hh.1,jfr (fun j hj=>?_) _ _ hh.2⟩
  by_cases he:j=tr.length
  ·rw[he];exact hD1
  ·rw[hD2 j he];exact hj
 by_cases hdt:o.dst=some t
 ·rw[if_pos hdt];have hn:t∈jax L o:=by simp[jax,hdt]
  have hlat:jbp L D' st0 t (later++r::tr)=jbp L D' st0 t (r::tr):=by
   apply jhU;intro j hj hd;simp at hj;rw[hD2 j (by omega)];exact jlc hs ht hc hi ho hn j (by omega) hd
  rw[hlat]at hsl;simp only[jbp]at hsl;rw[if_pos ⟨by rw[hdst];exact hdt,hD1⟩]at hsl;cases hsl;exact⟨hv,rfl⟩
 ·rw[if_neg hdt]
  have hsame:jbp L D' st0 t (later++r::tr)=jbp L D st0 t (later++r::tr):=by
   clear hsl hinv hI hv hal
   induction later with
   |nil =>
    simp only[qS,jbp];rw[if_neg (fun h=>hdt (by rw[<-hdst];exact h.1)),if_neg (fun h=>hdt (by rw[<-hdst];exact h.1))];exact jnA fun j hj=>hD2 j (by omega)
   |cons x l ih =>
    simp only[qq,jbp];rw[hD2 _ (by simp;omega),ih]
  rw[hsame]at hsl;have h1:=hinv.tm t v hsl;refine⟨V.allB_mono hal h1.1,?_⟩;rw[h1.2];exact(V.val_eqB hI h1.1).symm
def jA2 {D:Nat->Bool} {later tr:List Rec} {r:Rec} {o:qu} {a:Act} {w:zr} {I:Env} (hg:GoodTr P sp N L tab st0 (later++r::tr)) (hs:jcG L tab 0 L=true) (ht:jcT L tab) (hc:jcE L D) (hi:D tr.length=false) (ho:L[tr.length]?=some o)
  (hb:∀j,j∈tab.getD tr.length []->D j=true) (hbase:∀t v,jaP st0.tm t=some v->v.lt st0.nx) (hinv:Inv ds L st0 B0 B N n0 I0 w0 (later++r::tr) D a w I) :
  jaB I (jac st0 tr) (ja3 L (jax L o) (tab.getD tr.length []) st0 tr) a:=by
 have hgt:GoodTr P sp N L tab st0 tr:=GoodTr.tail (later:=later++[r]) (by simpa using hg)
 have slot_lt:∀(tr:List Rec),GoodTr P sp N L tab st0 tr->∀bef t v,jcF L bef st0 t tr=some v->v.lt (jac st0 tr):=by
  intro tr hg
  induction hg with
  |nil=>exact fun bef t v h=>hbase t v h
  | @cons tr r h o hr ih =>
   intro bef t v hsl;simp only[jcF]at hsl;have down:jcF L bef st0 t tr=some v->v.lt r.nx:=fun h'=>V.lt_mono hr.nx_le (ih bef t v h');cases hd:jcr L tr.length with
   |none=>simp only[hd]at hsl;exact down hsl
   |some d =>
    simp only[hd]at hsl;split at hsl
    ·split at hsl
     ·cases hsl
      show V.lt r.nx r.v
      cases hr.kind with
      |skip g e=>rw[e];trivial
      |pure g ob hs ho hk e =>
       simp only[ja6,zk]at hk;rw[e];exact V.lt_of_allB (fun x hx=>by simp only[zk,qL]at hx;exact hx.1) hk.1.2
      |built g hb ob hs ho hk e =>
       simp only[ja6,zk]at hk;rw[e];exact V.lt_of_allB (fun x hx=>by simp only[zk,qL]at hx;exact hx.1) hk.1.2
      |load g hp hl x xo hx hf hb hst ob hs ho hk e =>
       simp only[ja6,zk]at hk;rw[e];exact V.lt_of_allB (fun x hx=>by simp only[zk,qL]at hx;exact hx.1) hk.1.2
      |mono g hp hl hm res hs ho hk hnk e =>
       simp only[ja6,zk]at hk;rw[e];exact V.lt_of_allB (fun x hx=>by simp only[zk,qL]at hx;exact hx.1) hk.1.2
      |mload g hp hl hmk hal hm res hs ho hk e =>
       simp only[ja6,zk]at hk;rw[e];exact V.lt_of_allB (fun x hx=>by simp only[zk,qL]at hx;exact hx.1) hk.1.2
      |effect g hp hl hmo mk hf res hs ho hk hmk e =>
       simp only[ja6,zk]at hk;rw[e];exact V.lt_of_allB (fun x hx=>by simp only[zk,qL]at hx;exact hx.1) hk.1.2
     ·cases hsl
    ·exact down hsl
 intro x u hx;cases x with
 |tmp t =>
  simp only[ja3]at hx;split at hx
  ·rename_i hcn;have hn:t∈jax L o:=by simpa using hcn
   exact⟨slot_lt tr hgt _ t u hx,(hinv.tm t u (jr4 hs ht hc hi ho hn hb hx)).2⟩
  ·cases hx
 |const v =>
  simp only[ja3,jcv,zj]at hx;subst hx;exact⟨jo9 _ v,(jnn I v).symm⟩
 |global g =>
  simp only[ja3,jcv]at hx;split at hx
  ·cases hx;exact⟨trivial,by simp[V.val,W.val,C.val,Act.eval]⟩
  ·cases hx;exact⟨trivial,rfl⟩
 |func f =>
  simp only[ja3,jcv,zj]at hx;subst hx;exact⟨(fun _ hh=>by cases hh),by simp[V.val,W.val,C.val,Act.eval]⟩
end
end Go.Sx
end

section
open Go.RowKit
namespace Go.Sx
section
variable [Globs] {P:zP} {sp:jab} {B0 B:Kd} {N n0:Nat} {L:List qu} {tab:List (List Nat)} {st0:St} {I0:Env} {w0:zr} {ds:List yK}
def jc8 {i:Nat} {lf mk:Bool}:∀{l:List qu} {k:Nat},jbk tab i lf mk k l=true->∀m o,l[m]?=some o->k+m=i∨jaz o.op=true∨(k+m)∈tab.getD i []∨i∈tab.getD (k+m) []∨(lf=true∧jaG o.op=true)∨(mk=true∧i<k+m∧jjA o.op=true)
 |[],_,_,_,_,h=>by simp at h
 |o' :: r,k,hs,m,o,h=>by
  simp only[jbk,zk,qU]at hs;cases m with
  |zero =>
   simp at h;subst h;rcases hs.1 with ((((h1|h1)|h1)|h1)|h1)|h1
   ·exact .inl (by simpa using zi h1)
   ·exact .inr (.inl h1)
   ·exact .inr (.inr (.inl (by simpa using h1)))
   ·exact .inr (.inr (.inr (.inl (by simpa using h1))))
   ·exact .inr (.inr (.inr (.inr (.inl h1))))
   ·exact .inr (.inr (.inr (.inr (.inr ⟨h1.1.1,by simpa [qL]using h1.1.2,h1.2⟩))))
  |succ m =>
   have:=jc8 hs.2 m o (by simpa using h);rw[show k+(m+1)=k+1+m by omega];exact this
def jjF:∀{l:List qu} {k:Nat},jeb k l=true->∀m o,l[m]?=some o->∀e∈o.after.toList,yY .any e=true->e.on<k+m
 |[],_,_,_,_,h=>by simp at h
 |o' :: r,k,hs,m,o,h=>by
  simp only[jeb,zk]at hs;cases m with
  |zero =>
   simp at h;subst h;intro e he hb;have:=zy.1 hs.1 e he;rw[hb]at this;simpa using this
  |succ m =>
   have:=jjF hs.2 m o (by simpa using h);rw[show k+(m+1)=k+1+m by omega];exact this
def jzp (he:jeb 0 L=true) (ht:jcT L tab):∀(i k:Nat),k∈tab.getD i []->k<i:=by
 intro i
 induction i using jo with
 |_ i ih =>
  intro k hk;obtain⟨o,ho,e,hem,hb,hor⟩:=ht i k hk;have h1:=jjF he i o ho e hem hb;rw[qa]at h1;rcases hor with rfl|⟨hlt,hk'⟩
  ·exact h1
  ·exact Nat.lt_trans (ih e.on hlt k hk') hlt
def jld (st0:St):Prop:=∀h o,find st0.hp h=some o->h<st0.nx∧o.lt st0.nx
def jfT {bef:List Nat} {tr:List Rec} {v:V} {hp:Hp} {nx:Nat} (hk:ja6 bef st0 tr v hp nx=true) {h:Nat} {o:O} (hf:find hp h=some o) :
  h<nx∧o.allB (fun h=>xD h nx&&(qN (jac st0 tr) h||jas (fun j=>bef.contains j) st0 tr h))=true:=by
 simp only[ja6,zk]at hk;have:=zy.1 hk.2 (h,o) (jum hf);simp only[zk,qL]at this;exact this
def joo {bef:List Nat} {tr:List Rec} {v:V} {hp:Hp} {nx:Nat} (hk:ja6 bef st0 tr v hp nx=true) :
  v.allB (fun h=>xD h nx&&(qN (jac st0 tr) h||jas (fun j=>bef.contains j) st0 tr h))=true:=by
 simp only[ja6,zk]at hk;exact hk.1.2
def jhe {n:Nat} {hp:Hp} {h:Nat}:find (jbf n hp) h=if qN n h=true then find hp h else none:=jfb (p:=fun k=>qN n k)
def keys {tr:List Rec} (hg:GoodTr P sp N L tab st0 tr) (hb:jld st0):∀h o,find (jaw st0 tr) h=some o->h<jac st0 tr∧o.lt (jac st0 tr):=by
 induction hg with
 |nil=>exact hb
 | @cons tr r hgt o hr ih =>
  intro h ob hf
  show h<r.nx∧ob.lt r.nx
  have hf:find r.hp h=some ob:=hf;cases hr.kind with
  |skip g e=>rw[e]at hf ⊢;exact ih h ob hf
  |pure g ob' hs ho hk e=>rw[e]at hf ⊢;exact ih h ob hf
  |built g hb0 ob' hs ho hk e=>rw[e]at hf ⊢;exact ih h ob hf
  |load g hp hl x xo hx hf0 hb0 hst ob' hs ho hk e=>rw[e]at hf ⊢;exact ih h ob hf
  |mono g hp hl hm res hs ho hk hnk e =>
   rw[e]at hf ⊢;have hle:jac st0 tr<=res.nx:=by simp only[ja6,zk,xt]at hk;exact hk.1.1
   simp only[jaq]at hf;cases hn:find (jbf (jac st0 tr) res.hp) h with
   |some x =>
    rw[hn]at hf;cases hf;have:=jfT hk hn;exact⟨this.1,O.lt_of_allB (p:=fun h=>xD h res.nx&&(qN (jac st0 tr) h||jas (fun j=>(tab.getD tr.length []).contains j) st0 tr h)) (fun x hx=>by simp only[zk,qL]at hx;exact hx.1) this.2⟩
   |none =>
    rw[hn]at hf;have:=ih h ob hf;exact⟨zG this.1 hle,O.lt_mono hle this.2⟩
  |mload g hp hl hmk hal hm res hs ho hk e =>
   rw[e]at hf ⊢;have hle:jac st0 tr<=res.nx:=by simp only[ja6,zk,xt]at hk;exact hk.1.1
   simp only[jaq]at hf;cases hn:find (jbf (jac st0 tr) res.hp) h with
   |some x =>
    rw[hn]at hf;cases hf;have:=jfT hk hn;exact⟨this.1,O.lt_of_allB (p:=fun h=>xD h res.nx&&(qN (jac st0 tr) h||jas (fun j=>(tab.getD tr.length []).contains j) st0 tr h)) (fun x hx=>by simp only[zk,qL]at hx;exact hx.1) this.2⟩
   |none =>
    rw[hn]at hf;have:=ih h ob hf;exact⟨zG this.1 hle,O.lt_mono hle this.2⟩
  |effect g hp hl hmo mk hf' res hs ho hk hmk e =>
   rw[e]at hf ⊢;have:=jfT hk hf;exact⟨this.1,O.lt_of_allB (p:=fun h=>xD h res.nx&&(qN (jac st0 tr) h||jas (fun j=>(tab.getD tr.length []).contains j) st0 tr h)) (fun x hx=>by simp only[zk,qL]at hx;exact hx.1) this.2⟩
def GoodTr.inv {tr:List Rec} {r:Rec} (h:GoodTr P sp N L tab st0 (r::tr)):GoodTr P sp N L tab st0 tr∧∃o,RecOK P sp N L tab st0 tr r o:=by
 cases h with|cons h o hr=>exact⟨h,o,hr⟩
def jbv {tr:List Rec} {r:Rec} {o:qu} (hr:RecOK P sp N L tab st0 tr r o) (h:r.kd=2):(∃mk,jbk tab tr.length (r.tg.isSome) mk 0 L=true)∧jaz o.op=false∧jaG o.op=false∧jhc o.op=false:=by
 cases hr.kind with
 |skip g e=>rw[e]at h;cases h
 |pure g ob hs ho hk e=>rw[e]at h;cases h
 |built g hb0 ob hs ho hk e=>rw[e]at h;cases h
 |load g hp hl x xo hx hf hb hst ob hs ho hk e=>rw[e]at h;cases h
 |mono g hp hl hm res hs ho hk hnk e=>rw[e]at h;cases h
 |mload g hp hl hmk hal hm res hs ho hk e=>rw[e]at h;cases h
 |effect g hp hl hmo mk hf res hs ho hk hmk e=>exact⟨⟨mk,by rw[e];exact hf⟩,hp,hl,by cases ho':o.op<;>first|rfl|(rw[ho']at hmo;cases hmo)⟩
def jnB {k:NK} {c:C} {x:NC} {g:Option Nat} {hp:Hp} (h:jir hp k c=some (x,g)) (hc:c.allB (fun _=>false)=true):g=none:=by
 unfold jir at h;split at h
 ·split at h<;>cases h;rfl
 ·split at h<;>cases h;rfl
 ·cases hc
 ·cases h
def jle {hp:Hp}:∀{sh:List NK} {cs:List C} {r:List NC} {hs:List Nat},jbA hp sh cs=some (r,hs)->(cs.all (C.allB fun _=>false))=true->hs=[]
 |[],[],r,hs,h,_=>by simp only[jbA,zj,qp]at h;exact h.2.symm
 |[],c::cs,r,hs,h,_=>by simp[jbA]at h
 |k::sh,[],r,hs,h,_=>by simp[jbA]at h
 |k::sh,c::cs,r,hs,h,hc=>by
  simp only[jbA]at h;simp only[jp,zk]at hc;split at h
  ·rename_i x g l gs hx hl;simp only[zj,qp]at h;obtain⟨_,rfl⟩:=h;rw[jnB hx hc.1,jle hl hc.2]
  ·cases h
def W.cells_allB {p:Nat->Bool} {u:W} (h:u.allB p=true):(u.cells.all (C.allB p))=true:=by
 cases u with
 |c x=>simpa [W.cells,W.allB]using h
 |a l=>exact h
 |b e r=>simp[W.cells,C.allB]
def jzq {t x y:_} {rd:zZ->Option V} {hp:Hp} {nx h i e j:Nat} {res:Res} (hs:jg7 P (.store t x y) rd hp nx=some res) (hx:rd x=some (.w (.c (.p h i e j)))) (hz:jcl hp (.store t x y) rd=true):∃o',res.hp=(h,o')::jaj hp:=by
 unfold jg7 at hs;dsimp only at hs;rw[hx]at hs;split at hs
 ·rename_i h2 i2 e2 j2 u h3 hy;cases h3;split at hs
  ·rename_i ty X sz hf hsz
   have hu:(u.cells.all (C.allB fun _=>false))=true:=by
    unfold jcl at hz;simp only[hx,hy,hf]at hz;exact W.cells_allB hz
   split at hs
   ·split at hs
    ·split at hs
     ·rename_i hcs;cases hs;rw[jle hcs hu];exact⟨_,rfl⟩
     ·cases hs
    ·split at hs
     ·rename_i c0 k huc hk;split at hs
      ·rename_i hc;cases hs;rw[huc]at hu;simp only[jp,fa,gM]at hu;rw[jnB hc hu];exact⟨_,rfl⟩
      ·cases hs
     ·cases hs
   ·cases hs
  ·cases hs
 ·cases hs
def jlf {k:NK} {t:Nat} {c:C} {x:NC} {g:Option Nat} {hp:Hp} (h:jcg hp k t c=some (x,g)) (hc:c.allB (fun _=>false)=true):g=none:=by
 unfold jcg at h;split at h
 ·split at h<;>cases h;rfl
 ·split at h<;>cases h;rfl
 ·cases hc
 ·cases h
def jkb {hp:Hp}:∀{sh:List NK} {ts:List Nat} {cs:List C} {r:List NC} {hs:List Nat},jaO hp sh ts cs=some (r,hs)->(cs.all (C.allB fun _=>false))=true->hs=[]
 |[],_,[],r,hs,h,_=>by simp only[jaO,zj,qp]at h;exact h.2.symm
 |[],_,c::cs,r,hs,h,_=>by simp[jaO]at h
 |k::sh,_,[],r,hs,h,_=>by simp[jaO]at h
 |k::sh,ts,c::cs,r,hs,h,hc=>by
  simp only[jaO]at h;simp only[jp,zk]at hc;split at h
  ·rename_i x g l gs hx hl;simp only[zj,qp]at h;obtain⟨_,rfl⟩:=h;rw[jlf hx hc.1,jkb hl hc.2]
  ·cases h
def jzr {t x y:_} {rd:zZ->Option V} {hp:Hp} {nx h i e j:Nat} {res:Res} (hs:jg9 P (.store t x y) rd hp nx=some res) (hx:rd x=some (.w (.c (.p h i e j)))) (hz:jcl hp (.store t x y) rd=true):∃o',res.hp=(h,o')::jaj hp:=by
 unfold jg9 at hs;dsimp only at hs;rw[hx]at hs;split at hs
 ·rename_i h' i' e' j' u h3 hy;cases h3;split at hs
  ·rename_i ty ts X m sz hf hss;unfold jcl at hz;dsimp only at hz;rw[hx,hy]at hz;dsimp only at hz;rw[hf]at hz;cases hz
  ·rename_i ty cs sz hf hss;split at hs
   ·rename_i hsub _ _ _ _ _;unfold jcl at hz;dsimp only at hz;rw[hx,hy]at hz;dsimp only at hz;rw[hf]at hz;simp[hsub]at hz
   ·cases hs
  ·cases hs
 ·cases hs
def jzs {t x y:_} {rd:zZ->Option V} {hp:Hp} {nx h i e j:Nat} {res:Res} (hs:jg8 P (.store t x y) rd hp nx=some res) (hx:rd x=some (.w (.c (.p h i e j)))) (hz:jcl hp (.store t x y) rd=true):∃o',res.hp=(h,o')::jaj hp:=by
 unfold jg8 at hs;dsimp only at hs;rw[hx]at hs;split at hs
 ·rename_i h2 i2 e2 j2 u h3 hy;cases h3;split at hs
  ·rename_i ty ts X ho sz hf hsz
   have hu:(u.cells.all (C.allB fun _=>false))=true:=by
    unfold jcl at hz;simp only[hx,hy,hf]at hz;exact W.cells_allB hz
   split at hs
   ·have one:∀(c0:C) (k:NK) (x0:NC) (g0:Option Nat),u.cells=[c0]->jcg hp k (ts.getD j 0) c0=some (x0,g0)->g0=none:=fun c0 k x0 g0 huc hc=>by
     rw[huc]at hu;simp only[jp,fa,gM]at hu;exact jlf hc hu
    split at hs
    ·split at hs
     ·rename_i hcs;split at hs
      ·cases hs;rw[jkb hcs hu];exact⟨_,rfl⟩
      ·cases hs
     ·cases hs
    ·split at hs
     ·rename_i c0 k huc hk;split at hs
      ·rename_i hc;have:=one _ _ _ _ huc hc;subst this;split at hs
       ·cases hs;exact⟨_,rfl⟩
       ·split at hs
        ·cases hs;exact⟨_,rfl⟩
        ·cases hs
      ·cases hs
     ·cases hs
   ·cases hs
  ·rename_i hf _;unfold jcl at hz;simp only[hx,hy,hf]at hz;cases hz
  ·cases hs
 ·cases hs
def jv8 {t x y:_} {rd:zZ->Option V} {hp:Hp} {nx h:Nat} {res:Res} (hs:jda P sp (.store t x y) rd hp nx=some res) (hz:jcl hp (.store t x y) rd=true) (ht:storeAt (.store t x y) rd=some h):∃o',res.hp=(h,o')::jaj hp:=by
 unfold storeAt at ht;dsimp only at ht;split at ht
 ·rename_i h' i e j hx;cases ht;unfold jda at hs;have hv:jcj P (.store t x y) rd hp=none:=by simp[jcj,jio,jjl]
  simp only[hv]at hs;split at hs
  ·rename_i r0 hX;cases hs;unfold jg6 at hX;dsimp only at hX;rw[hx]at hX;split at hX
   ·rename_i h3 _;cases h3;split at hX
    ·split at hX
     ·cases hX;exact⟨_,rfl⟩
     ·cases hX
    ·split at hX
     ·cases hX;exact⟨_,rfl⟩
     ·cases hX
    ·cases hX
   ·rename_i h3 _;cases h3;split at hX
    ·split at hX
     ·cases hX;exact⟨_,rfl⟩
     ·cases hX
    ·split at hX
     ·cases hX;exact⟨_,rfl⟩
     ·cases hX
    ·cases hX
   ·rename_i h3 _;cases h3;split at hX
    ·split at hX
     ·split at hX
      ·cases hX;exact⟨_,rfl⟩
      ·cases hX
     ·cases hX
    ·cases hX
   ·cases hX
  split at hs
  ·rename_i r0 hX;cases hs;exact jzs hX hx hz
  split at hs
  ·rename_i r0 hX;cases hs;exact jzr hX hx hz
  split at hs
  ·rename_i r0 hX;cases hs;exact jzq hX hx hz
  unfold jpm at hs;dsimp only at hs;rw[hx]at hs;split at hs
  ·rename_i h2 i2 e2 j2 u h3 hy;cases h3;split at hs
   ·split at hs
    ·split at hs
     ·cases hs;exact⟨_,rfl⟩
     ·cases hs
    ·split at hs
     ·split at hs
      ·split at hs
       ·cases hs;exact⟨_,rfl⟩
       ·cases hs
      ·cases hs
     ·cases hs
    ·cases hs
   ·cases hs
  ·cases hs
 ·cases ht
def jbW {hp:Hp} {x:Nat} {ob:O} (hpl:jen (some ob)=true):find (jaj hp) x=some ob<->find hp x=some ob:=by
 rw[jay];cases hf:find hp x with
 |none=>simp
 |some o =>
  simp only[qk,zj];cases o<;>cases ob<;>simp_all [jen]
def jv9 {op:Op} {rd:zZ->Option V} {hp:Hp} {nx h:Nat} {res:Res} (hs:jda P sp op rd hp nx=some res) (hz:jcl hp op rd=true) (ht:storeAt op rd=some h) {x:Nat} {ob:O} (hx:x≠h) (hn:x<nx) (hp1:jen (some ob)=true) (hf:find hp x=some ob):find res.hp x=some ob:=by
 cases op with
 |store t a b =>
  obtain⟨o',ho'⟩:=jv8 hs hz ht;rw[ho'];simp only[find];rw[if_neg (fun e=>hx e.symm)];exact(jbW hp1).2 hf
 |call c =>
  have hna:c.callee=.builtin .append∧∃s y,c.args.toList=[s,y]∧∀k,rd s=some (.w (.c (.o k)))->k=h:=by
   unfold storeAt at ht;dsimp only at ht;split at ht
   ·rename_i s y hc ha;refine⟨hc,s,y,ha,fun k hk=>?_⟩;rw[hk]at ht;cases ht;rfl
   ·cases ht
  obtain⟨hcal,s,y,hargs,hk⟩:=hna;unfold jda at hs;have h1:jcj P (.call c) rd hp=none:=by simp[jcj,jio,jjl,hcal]
  have h2:jg6 P (.call c) rd hp nx=none:=by simp[jg6]
  simp only[h1,h2]at hs;split at hs
  ·rename_i r0 hX;cases hs;unfold jcl at hz;simp only[hcal,hargs,zk]at hz;unfold jg8 at hX;dsimp only at hX;rw[hcal,hargs]at hX;split at hX
   ·rename_i s' y' t t' _ e _;simp only[fd,and_true]at e;obtain⟨rfl,rfl⟩:=e;split at hX
    ·rename_i elem _ _
     have outer:jis P t elem (rd s) (rd y) hp nx=some res->find res.hp x=some ob:=by
      intro hX;unfold jis at hX;split at hX
      ·split at hX
       ·rename_i hs0 ty t1 X1 hx0 ty' t2 X2 g1 g2;split at hX
        ·cases hX
         have e1:hs0=none:=by
          obtain⟨us,hus,hus'⟩:=zK.1 g1;unfold mOf at hus';split at hus'
          ·split at hus'
           ·rename_i hf' ;unfold jgp at hz;simp only[hus,hf']at hz;cases hz.1
           ·cases hus'
          ·cases hus';rfl
          ·cases hus'
         have e2:hx0=none:=by
          obtain⟨us,hus,hus'⟩:=zK.1 g2;unfold mOf at hus';split at hus'
          ·split at hus'
           ·rename_i hf' ;have h9:=hz.2;unfold jgp at h9;simp only[hus,hf']at h9;cases h9
           ·cases hus'
          ·cases hus';rfl
          ·cases hus'
         subst e1;subst e2;simp only[jcz,find];rw[if_neg (by omega)];exact(jbW hp1).2 hf
        ·cases hX
       ·cases hX
      ·cases hX
     split at hX
     ·rename_i hs0 hob0;split at hX
      ·rename_i r0 i0 e0 j0 t0 c1 hf';obtain⟨us,hus,hus'⟩:=zK.1 hob0
       have hus2:rd s=some (.w (.c (.o hs0))):=by
        unfold V.obj? at hus';split at hus'
        ·cases hus';exact hus
        ·cases hus'
       have h9:=hz.1;unfold jgp at h9;simp only[hus2,hf']at h9;cases h9
      ·exact outer hX
     ·exact outer hX
    ·cases hX
   ·cases hX
  split at hs
  ·rename_i r0 hX;simp[jg9]at hX
  split at hs
  ·rename_i r0 hX;cases hs;unfold jg7 at hX;dsimp only at hX;rw[hcal,hargs]at hX;split at hX
   ·rename_i s' y' t t' _ e _;simp only[fd,and_true]at e;obtain⟨rfl,rfl⟩:=e;split at hX
    ·split at hX
     ·split at hX
      ·rename_i hs' ty X1 hx' ty' X2 hss hsx;split at hX
       ·cases hX;cases hs' with
        |none =>
         simp only[find];rw[if_neg (by omega)];exact(jbW hp1).2 hf
        |some k =>
         have hkh:k=h:=by
          cases hrs:rd s with
          |none=>simp[hrs]at hss
          |some us =>
           simp only[hrs,zV]at hss;unfold xOf at hss;split at hss
           ·split at hss
            ·cases hss;exact hk _ hrs
            ·cases hss
           ·cases hss
           ·cases hss
         subst hkh;simp only[find];rw[if_neg (by omega),if_neg (fun e=>hx e.symm)];exact(jbW hp1).2 hf
       ·cases hX
      ·cases hX
     ·cases hX
    ·cases hX
   ·cases hX
  unfold jpm at hs;dsimp only at hs;rw[hcal,hargs]at hs;split at hs
  ·rename_i s' y' t t' _ e _;simp only[fd,and_true]at e;obtain⟨rfl,rfl⟩:=e;split at hs
   ·split at hs
    ·unfold jhO at hs;split at hs
     ·split at hs
      ·split at hs
       ·split at hs
        ·split at hs
         ·cases hs;simp only[find];rw[if_neg (by omega)];exact hf
         ·cases hs
        ·cases hs
       ·cases hs
      ·cases hs
     ·cases hs
    ·split at hs
     ·rename_i elem hs' cs hx' cx hu hss hsx;split at hs
      ·split at hs
       ·split at hs
        ·split at hs
         ·cases hs;cases hs' with
          |none =>
           simp only[find];rw[if_neg (by omega)];exact(jbW hp1).2 hf
          |some k =>
           have hkh:k=h:=by
            cases hrs:rd s with
            |none=>simp[hrs]at hss
            |some us =>
             simp only[hrs,zV]at hss;unfold jbT at hss;split at hss
             ·split at hss
              ·cases hss;exact hk _ hrs
              ·cases hss
             ·cases hss
             ·cases hss
           subst hkh;simp only[find];rw[if_neg (by omega),if_neg (fun e=>hx e.symm)];exact(jbW hp1).2 hf
         ·cases hs
        ·cases hs
       ·cases hs
      ·cases hs
     ·cases hs
   ·unfold joa at hs;split at hs
    ·rename_i elem ik k c1 kx m hu hti hss hxm;split at hs
     ·split at hs
      ·split at hs
       ·split at hs
        ·cases hs
         have hkh:k=h:=by
          cases hrs:rd s with
          |none=>simp[hrs]at hss
          |some us =>
           simp only[hrs,zV]at hss;unfold jbT at hss;split at hss
           ·split at hss
            ·cases hss;exact hk _ hrs
            ·cases hss
           ·cases hss
           ·cases hss
         subst hkh;simp only[find];rw[if_neg (by omega),if_neg (fun e=>hx e.symm)];exact(jbW hp1).2 hf
        ·cases hs
       ·cases hs
      ·cases hs
     ·cases hs
    ·cases hs
  ·rename_i hc2;cases hc2
  ·cases hs
 |_=>simp[storeAt]at ht
def jop {tr:List Rec} {r:Rec} {o:qu} {t:Nat} (hr:RecOK P sp N L tab st0 tr r o) (h:r.kd=2) (ht:r.tg=some t) :
  (∀x ob,x≠t->x<jac st0 tr->jen (some ob)=true->find (jaw st0 tr) x=some ob->find r.hp x=some ob)∧jea L tab st0 (tab.getD tr.length []) t tr=true:=by
 cases hr.kind with
 |skip g e=>rw[e]at h;cases h
 |pure g ob hs ho hk e=>rw[e]at h;cases h
 |built g hb0 ob hs ho hk e=>rw[e]at h;cases h
 |load g hp hl x xo hx hf hb hst ob hs ho hk e=>rw[e]at h;cases h
 |mono g hp hl hm res hs ho hk hnk e=>rw[e]at h;cases h
 |mload g hp hl hmk hal hm res hs ho hk e=>rw[e]at h;cases h
 |effect g hp hl hmo mk hf res hs ho hk hmk e =>
  have ht2:jbO L tab st0 o tr=some t:=by rw[e]at ht;exact ht
  unfold jbO at ht2;split at ht2
  ·rename_i h' hst;split at ht2
   ·rename_i hlf;cases ht2;simp only[zk]at hlf;refine⟨fun x ob hx hn hpl hfx=>?_,hlf.1⟩;rw[e];exact jv9 hs hlf.2 hst hx hn hpl hfx
   ·cases ht2
  ·cases ht2
def jbX {tr:List Rec} {r:Rec} {o:qu} (hr:RecOK P sp N L tab st0 tr r o) (h:r.kd≠2):r.hp=r.nw++jaw st0 tr∧(∀k ob,find r.nw k=some ob->jac st0 tr<=k∧k<r.nx)∧((r.nw=[]∧r.nx=jac st0 tr)∨(jaz o.op||jaG o.op)=false∨(jfR tab tr.length 0 L=true∧jeo (tab.getD tr.length []) tr=true)):=by
 cases hr.kind with
 |skip g e=>rw[e];exact⟨rfl,(fun k ob h=>by cases h),.inl ⟨rfl,rfl⟩⟩
 |pure g ob hs ho hk e=>rw[e];exact⟨rfl,(fun k ob h=>by cases h),.inl ⟨rfl,rfl⟩⟩
 |built g hb0 ob hs ho hk e=>rw[e];exact⟨rfl,(fun k ob h=>by cases h),.inl ⟨rfl,rfl⟩⟩
 |load g hp hl x xo hx hf hb hst ob hs ho hk e=>rw[e];exact⟨rfl,(fun k ob h=>by cases h),.inl ⟨rfl,rfl⟩⟩
 |mono g hp hl hm res hs ho hk hnk e =>
  rw[e];refine⟨rfl,fun k ob hf=>?_,.inr (.inl (by rw[hp,hl];rfl))⟩;have h1:=(jfT hk hf).1;have hf:find (jbf (jac st0 tr) res.hp) k=some ob:=hf;rw[jhe]at hf;split at hf
  ·rename_i hle;exact⟨by simpa [xt]using hle,h1⟩
  ·cases hf
 |mload g hp hl hmk hal hm res hs ho hk e =>
  rw[e];refine⟨rfl,fun k ob hf=>?_,.inr (.inr ⟨hmk,hal⟩)⟩;have h1:=(jfT hk hf).1;have hf:find (jbf (jac st0 tr) res.hp) k=some ob:=hf;rw[jhe]at hf;split at hf
  ·rename_i hle;exact⟨by simpa [xt]using hle,h1⟩
  ·cases hf
 |effect g hp hl hmo mk hf res hs ho hk hmk e=>rw[e]at h;exact absurd rfl h
def jjG {i:Nat}:∀{l:List qu} {k:Nat},jfR tab i k l=true->∀m o,l[m]?=some o->k+m<=i∨(jaz o.op||jaG o.op)=true∨i∈tab.getD (k+m) []∨jhc o.op=true
 |[],_,_,_,_,h=>by simp at h
 |o' :: r,k,hs,m,o,h=>by
  simp only[jfR,zk,qU]at hs;cases m with
  |zero =>
   simp at h;subst h;rcases hs.1 with (((h1|h1)|h1)|h1)|h1
   ·exact .inl (by simpa [xt]using h1)
   ·exact .inr (.inl (by rw[h1];rfl))
   ·exact .inr (.inl (by rw[h1,Bool.or_true]))
   ·exact .inr (.inr (.inl (by simpa using h1)))
   ·exact .inr (.inr (.inr h1))
  |succ m =>
   have:=jjG hs.2 m o (by simpa using h);rw[show k+(m+1)=k+1+m by omega];exact this
def jlg {x:Nat} {o:O}:∀{hp:Hp},find hp x=some o->(x,o)∈hp
 |[],h=>by cases h
 |(k,o')::r,h=>by
  simp only[find]at h;split at h
  ·rename_i e;subst e;cases h;exact zw ..
  ·exact zu _ (jlg h)
def jCD {D:Nat->Bool} {i:Nat} (hbase:jld st0) (hb:∀j,j∈tab.getD i []->D j=true) {tr:List Rec} (hg:GoodTr P sp N L tab st0 tr) :
  jeo (tab.getD i []) tr=true->tr.length<=i->∀h ob,find (jaw st0 tr) h=some ob->jas (fun j=>(tab.getD i []).contains j) st0 tr h=true->find (jao D st0 tr) h=some ob:=by
 induction hg with
 |nil=>exact fun _ _ h ob hf _=>hf
 | @cons tr r hgt o' hr ih =>
  intro hal hl h ob hf hbn;simp only[jeo,zk]at hal;have hl:tr.length+1<=i:=hl;have hf:find r.hp h=some ob:=hf;simp only[jao]
  by_cases hk:r.kd=2
  ·have hD:D tr.length=true:=by
    have h1:=hal.1;rw[hk]at h1;exact hb _ (by simpa using h1)
   rw[if_pos hD,if_pos hk];exact hf
  ·have ho:=jbX hr hk;rw[ho.1,jaq]at hf;rw[if_neg hk];cases hn:find r.nw h with
   |some x =>
    rw[hn]at hf;cases hf;have h1:=(ho.2.1 h ob hn).1
    have hD:D tr.length=true:=by
     simp only[jas]at hbn;rw[show qN (jac st0 tr) h=true from x6 h1]at hbn;exact hb _ (by simpa using hbn)
    rw[if_pos hD,jaq,hn];rfl
   |none =>
    rw[hn]at hf;have hf:find (jaw st0 tr) h=some ob:=hf;have h1:=(keys hgt hbase h ob hf).1
    have hbn':jas (fun j=>(tab.getD i []).contains j) st0 tr h=true:=by
     simp only[jas]at hbn
     have e:qN (jac st0 tr) h=false:=by
      rw[xi];intro hc;rw[xt]at hc;omega
     rw[e]at hbn;exact hbn
    have:=ih hal.2 (by omega) h ob hf hbn';split
    ·rw[jaq,hn];exact this
    ·exact this
def jzt {D:Nat->Bool} (hbase:jld st0) {tr:List Rec} (hg:GoodTr P sp N L tab st0 tr):∀h ob,find (jao D st0 tr) h=some ob->h<jac st0 tr:=by
 induction hg with
 |nil=>exact fun h ob hf=>(hbase h ob hf).1
 | @cons tr r hgt o hr ih =>
  intro h ob hf;have hle:=hr.nx_le;simp only[jao]at hf;split at hf
  ·split at hf
   ·exact(keys (.cons hgt o hr) hbase h ob hf).1
   ·rename_i hk;rw[jaq]at hf;cases hn:find r.nw h with
    |some x=>exact((jbX hr hk).2.1 h x hn).2
    |none=>rw[hn]at hf;exact zG (ih h ob hf) hle
  ·exact zG (ih h ob hf) hle
def jzu {D:Nat->Bool} {i k:Nat} {o:qu} {lf mk:Bool} (hns:jaz o.op=false) (hnl:jaG o.op=false) (ho:L[i]?=some o) (hlow:∀i k,k∈tab.getD i []->k<i) (ht:jcT L tab) (hc:jcE L D) (hi:D i=false) (hik:i<k)
  (hf:jbk tab k lf mk 0 L=true):D k=false:=by
 have hor:i∈tab.getD k []:=by
  rcases jc8 hf i o ho with h1|h1|h1|h1|h1|h1
  ·omega
  ·rw[hns]at h1;cases h1
  ·rw[qa]at h1;exact h1
  ·rw[qa]at h1;have:=hlow _ _ h1;omega
  ·rw[hnl]at h1;cases h1.2
  ·have:=h1.2.1;omega
 rw[xi];intro hD;have:=jcU ht hc k i (fun o' ho' e he hb=>hc k o' ho' hD e he hb) hor;rw[this]at hi;cases hi
def jxV {D:Nat->Bool} {i k:Nat} {ok:qu} {lf mk:Bool} (hok:L[k]?=some ok) (hnk:jaz ok.op=false) (hlk:jaG ok.op=false) (hlow:∀i k,k∈tab.getD i []->k<i) (ht:jcT L tab) (hc:jcE L D) (hi:D i=false) (hik:i<k)
  (hf:jbk tab i lf mk 0 L=true) (hD:D k=true):mk=true∧jjA ok.op=true∧i∉tab.getD k []:=by
 have hni:i∉tab.getD k []:=fun hor=>by
  have:=jcU ht hc k i (fun o' ho' e he hb=>hc k o' ho' hD e he hb) hor;rw[this]at hi;cases hi
 rcases jc8 hf k ok hok with h1|h1|h1|h1|h1|h1
 ·omega
 ·rw[hnk]at h1;cases h1
 ·rw[qa]at h1;have:=hlow _ _ h1;omega
 ·rw[qa]at h1;exact absurd h1 hni
 ·rw[hlk]at h1;cases h1.2
 ·exact⟨h1.1,h1.2.2,hni⟩
def jw8 {D:Nat->Bool} {i:Nat} (hlow:∀i k,k∈tab.getD i []->k<i) (hbase:jld st0) (hb:∀j,j∈tab.getD i []->D j=true) {h:Nat} {ob:O} {tr:List Rec} (hg:GoodTr P sp N L tab st0 tr) :
  find (jaw st0 tr) h=some ob->jas (fun j=>(tab.getD i []).contains j) st0 tr h=true->jcV st0 (tab.getD i []) h tr=true->find (jao D st0 tr) h=some ob:=by
 induction hg with
 |nil=>exact fun hf _ _=>hf
 | @cons tr r hgt o' hr ih =>
  intro hf hbn hst;simp only[jcV,zk]at hst;have hf:find r.hp h=some ob:=hf;simp only[jao]
  by_cases hk:r.kd=2
  ·rw[if_pos hk]
   by_cases hD:D tr.length=true
   ·rw[if_pos hD];exact hf
   ·rw[if_neg hD];have h1:=hst.1
    have hc:(tab.getD i []).contains tr.length=false:=by
     cases hcc:(tab.getD i []).contains tr.length with
     |false=>rfl
     |true=>exact absurd (hb _ (by simpa using hcc)) hD
    have hkb:zF r.kd 2=true:=by rw[hk];rfl
    rw[hc,hkb]at h1;simp only[gP,ky]at h1;split at h1
    ·cases h1
    ·rename_i t htg;simp only[zk,xB]at h1
     have hne:h≠t:=fun e=>by
      have h2:=h1.1;subst e;have:zF h h=true:=by simp
      rw[this]at h2;cases h2
     have hs:=jop hr hk htg
     have hpl:∃o1,find (jaw st0 tr) h=some o1∧jen (some o1)=true:=by
      cases hq:find (jaw st0 tr) h with
      |none=>rw[hq]at h1;cases h1.2
      |some o1=>rw[hq]at h1;exact⟨o1,rfl,h1.2⟩
     obtain⟨o1,hq,hp1⟩:=hpl;have hlt:=(keys hgt hbase h o1 hq).1;have:=hs.1 h o1 hne hlt hp1 hq;rw[this]at hf;cases hf;refine ih hq ?_ hst.2
     have e:qN (jac st0 tr) h=false:=by
      rw[xi];intro hcc;rw[xt]at hcc;omega
     simp only[jas]at hbn;rw[e]at hbn;exact hbn
  ·have ho:=jbX hr hk;rw[ho.1,jaq]at hf;rw[if_neg hk];cases hn:find r.nw h with
   |some x =>
    rw[hn]at hf;cases hf;have h1:=(ho.2.1 h ob hn).1
    have hD:D tr.length=true:=by
     simp only[jas]at hbn;rw[show qN (jac st0 tr) h=true from x6 h1]at hbn;exact hb _ (by simpa using hbn)
    rw[if_pos hD,jaq,hn];rfl
   |none =>
    rw[hn]at hf;have hf:find (jaw st0 tr) h=some ob:=hf;have h1:=(keys hgt hbase h ob hf).1
    have hbn':jas (fun j=>(tab.getD i []).contains j) st0 tr h=true:=by
     simp only[jas]at hbn
     have e:qN (jac st0 tr) h=false:=by
      rw[xi];intro hc;rw[xt]at hc;omega
     rw[e]at hbn;exact hbn
    have:=ih hf hbn' hst.2;split
    ·rw[jaq,hn];exact this
    ·exact this
def jpH {bef:List Nat} {t:Nat} {r0:Rec} {tr:List Rec} {o:qu} (ho:L[tr.length]?=some o) (hl:jaG o.op=true):∀{l:List Rec},jea L tab st0 bef t (l++r0::tr)=true -> bef.contains tr.length=true∨∃x,loadAt o.op (ja3 L (jax L o) (tab.getD tr.length []) st0 tr)=some x∧x≠t∧jen (find (jaw st0 tr) x)=true
 |[],h=>by
  simp only[qS,jea,ho,hl,zk,qU]at h;rcases h.1 with h1|h1
  ·exact .inl h1
  ·split at h1
   ·cases h1
   ·rename_i x hx;simp only[zk,xB]at h1;refine .inr ⟨x,hx,fun e=>?_,h1.2⟩;have h2:=h1.1;rw[e]at h2;have:zF t t=true:=by simp
    rw[this]at h2;cases h2
 |r::l,h=>by
  simp only[qq,jea,zk]at h;exact jpH ho hl h.2
def jr5 {D:Nat->Bool} {tr:List Rec} {r0:Rec} {o:qu} {x:Nat} {xo:O} (ho:L[tr.length]?=some o) (hlo:jaG o.op=true) (hns:jaz o.op=false) (hx:loadAt o.op (ja3 L (jax L o) (tab.getD tr.length []) st0 tr)=some x) (hf:find (jaw st0 tr) x=some xo) (hr0:r0.hp=jaw st0 tr)
  (hlow:∀i k,k∈tab.getD i []->k<i) (ht:jcT L tab) (hc:jcE L D) (hi:D tr.length=false) (hxl:x<jac st0 tr) (hin:find (jao D st0 tr) x=some xo) :
  ∀{later:List Rec},GoodTr P sp N L tab st0 (later++r0::tr)->find (jao D st0 (later++r0::tr)) x=some xo ∧ ((∀k,tr.length<k->k<(later++r0::tr).length->∀ok,L[k]?=some ok->jaz ok.op=false->jaG ok.op=false->tr.length∈tab.getD k []->False)->True) ∧ (find (jaw st0 (later++r0::tr)) x=some xo∨∃l1 rk trk,later++r0::tr=l1++rk::trk∧tr.length<trk.length∧rk.kd=2∧tr.length∈tab.getD trk.length [])
 |[],_=>by
  refine⟨?_,fun _=>trivial,.inl ?_⟩
  ·simp only[qS,jao,hi,z3,if_false];exact hin
  ·show find r0.hp x=_
   rw[hr0];exact hf
 |r::l,hg=>by
  obtain⟨hgt,o',hr⟩:=GoodTr.inv (tr:=l++r0::tr) hg;obtain⟨ih1,_,ih3⟩:=jr5 ho hlo hns hx hf hr0 hlow ht hc hi hxl hin hgt;have hlen:tr.length<(l++r0::tr).length:=by simp;omega
  by_cases hk:r.kd=2
  ·have hfo:=jbv hr hk
   by_cases hw:tr.length∈tab.getD (l++r0::tr).length []
   ·have hDk:D (l++r0::tr).length=false:=by
     rw[xi];intro hD;have:=jcU ht hc (l++r0::tr).length tr.length (fun o' ho' e he hb=>hc _ o' ho' hD e he hb) hw;rw[this]at hi;cases hi
    refine⟨?_,fun _=>trivial,.inr ⟨[],r,l++r0::tr,rfl,hlen,hk,hw⟩⟩;simp only[qq,jao,hDk,z3,if_false];exact ih1
   ·have htg:r.tg.isSome=true:=by
     obtain⟨mk,hfm⟩:=hfo.1;rcases jc8 hfm tr.length o ho with h1|h1|h1|h1|h1|h1
     ·omega
     ·rw[hns]at h1;cases h1
     ·rw[qa]at h1;exact absurd h1 hw
     ·rw[qa]at h1;have:=hlow _ _ h1;omega
     ·exact h1.1
     ·have:=h1.2.1;omega
    cases htt:r.tg with
    |none=>rw[htt]at htg;cases htg
    |some t =>
     have hst:=jop hr hk htt;have hsp:=jpH ho hlo hst.2;rcases hsp with hsp|⟨x',hx',hne,hpl⟩
     ·exact absurd (by simpa using hsp) hw
     ·rw[hx]at hx';cases hx';have hplx:jen (some xo)=true:=by rw[hf]at hpl;exact hpl
      rcases ih3 with h3|⟨l1,rk,trk,e1,e2,e3,e4⟩
      ·have hr':find r.hp x=some xo:=by
        refine hst.1 x xo hne ?_ hplx h3;have h2:=jdl (later:=l++[r0]) (tr:=tr) (by simpa using hgt);have h4:jac st0 tr<=jac st0 (l++r0::tr):=by simpa using h2
        omega
       refine⟨?_,fun _=>trivial,.inl hr'⟩;simp only[qq,jao];split
       ·first|exact hr' | (rw[if_pos hk];exact hr')
       ·exact ih1
      ·-- an earlier store waits for the load;this one waits for that one
       have hgk:GoodTr P sp N L tab st0 (rk::trk):=GoodTr.tail (later:=l1) (by rw[<-e1];exact hgt);obtain⟨_,ok,hrk⟩:=hgk.inv;have hkk:=jbv hrk e3;have hlt:trk.length<(l++r0::tr).length:=by rw[e1];simp;omega
       have hDk:D (l++r0::tr).length=false:=by
        rw[xi];intro hD
        have hdk:D trk.length=true:=by
         obtain⟨mk,hfm⟩:=hfo.1;rcases jc8 hfm trk.length ok hrk.op with h1|h1|h1|h1|h1|h1
         ·omega
         ·rw[hkk.2.1]at h1;cases h1
         ·rw[qa]at h1;exact jcU ht hc _ trk.length (fun o' ho' e he hb=>hc _ o' ho' hD e he hb) h1
         ·rw[qa]at h1;have:=hlow _ _ h1;omega
         ·rw[hkk.2.2.1]at h1;cases h1.2
         ·have:=h1.2.1;omega
        have:=jcU ht hc trk.length tr.length (fun o' ho' e he hb=>hc _ o' ho' hdk e he hb) e4;rw[this]at hi;cases hi
       refine⟨?_,fun _=>trivial,.inr ⟨r::l1,rk,trk,by rw[qq,e1];rfl,e2,e3,e4⟩⟩;simp only[qq,jao,hDk,z3,if_false];exact ih1
  ·have hoth:=jbX hr hk
   have hnone:find r.nw x=none:=by
    cases hn:find r.nw x with
    |none=>rfl
    |some y =>
     have h1:=(hoth.2.1 x y hn).1;have h2:=jdl (later:=l++[r0]) (tr:=tr) (by simpa using hgt);have h3:jac st0 tr<=jac st0 (l++r0::tr):=by simpa using h2
     omega
   refine⟨?_,fun _=>trivial,?_⟩
   ·simp only[qq,jao];split
    ·first|(rw[jaq,hnone];exact ih1)|(rw[if_neg hk,jaq,hnone];exact ih1)
    ·exact ih1
   ·rcases ih3 with h3|⟨l1,rk,trk,e1,e2,e3,e4⟩
    ·left
     show find r.hp x=_
     rw[hoth.1,jaq,hnone];exact h3
    ·right;exact⟨r::l1,rk,trk,by rw[qq,e1];rfl,e2,e3,e4⟩
def jeq [Globs] (P:zP) (sp:jab) (N:Nat) (L:List qu) (tab:List (List Nat)) (st0:St) (D:Nat->Bool) (later tr:List Rec):Prop :=∀l1 rk l2 ok,later=l1++rk::l2->RecOK P sp N L tab st0 (l2++tr) rk ok->rk.kd=2->D (l2++tr).length=false
def jeq.tail {D:Nat->Bool} {r:Rec} {l tr:List Rec} (h:jeq P sp N L tab st0 D (r::l) tr):jeq P sp N L tab st0 D l tr:=fun l1 rk l2 ok e=>h (r::l1) rk l2 ok (by rw[e];rfl)
def jr6 {D:Nat->Bool} {tr:List Rec} {h:Nat} (hh:h<jac st0 tr) :
  ∀{later:List Rec},jeq P sp N L tab st0 D later tr->GoodTr P sp N L tab st0 (later++tr)->find (jao D st0 (later++tr)) h=find (jao D st0 tr) h
 |[],_,_=>rfl
 |r::l,hno,hg=>by
   obtain⟨hgt,o',hr⟩:=GoodTr.inv (tr:=l++tr) hg;have ih:=jr6 hh hno.tail hgt;simp only[qq,jao];split
   ·rename_i hD;split
    ·rename_i hk;rw[hno [] r l o' rfl hr hk]at hD;cases hD
    ·rename_i hk;rw[jaq]
     have:find r.nw h=none:=by
      cases hn:find r.nw h with
      |none=>rfl
      |some x =>
       have h1:=((jbX hr hk).2.1 h x hn).1;have h2:=jdl hgt;omega
     rw[this];exact ih
   ·exact ih
def jnC {D D':Nat->Bool} {tr:List Rec} {r:Rec} (hi:D tr.length=false) (hbase:jld st0)
  (hD1:D' tr.length=true) (hD2:∀j,j≠tr.length->D' j=D j) (hk:r.kd≠2) {h:Nat} :
  ∀{later:List Rec},jeq P sp N L tab st0 D later (r::tr)->GoodTr P sp N L tab st0 (later++r::tr)->find (jao D' st0 (later++r::tr)) h=(find (jao D st0 (later++r::tr)) h).or (find r.nw h)
 |[],_,hg=>by
  cases hg with
  |cons hgt o' hr =>
   simp only[qS,jao,hD1,hi,if_true,if_neg hk,jaq,z3,if_false];rw[jhV (D:=D) (D':=D') (fun j hj=>hD2 j (by omega))];cases hn:find r.nw h with
   |none=>simp
   |some x =>
    have h1:=((jbX hr hk).2.1 h x hn).1;cases hd:find (jao D st0 tr) h with
    |none=>rfl
    |some y =>
     have:=jzt hbase hgt h y hd;omega
 |r' :: l,hno,hg=>by
   obtain⟨hgt,o',hr⟩:=GoodTr.inv (tr:=l++r::tr) hg;have ih:=jnC hi hbase hD1 hD2 hk (h:=h) hno.tail hgt;simp only[qq,jao];rw[hD2 _ (by simp;omega)];split
   ·rename_i hD;split
    ·rename_i hk';rw[hno [] r' l o' rfl hr hk']at hD;cases hD
    ·simp only[jaq,ih,Option.or_assoc]
   ·exact ih
def jr7 {D D':Nat->Bool} {tr:List Rec} {r:Rec} (hi:D tr.length=false)
  (hD1:D' tr.length=true) (hD2:∀j,j≠tr.length->D' j=D j) (hk:r.kd≠2) (hn:r.nw=[]) :
  ∀{later:List Rec},jao D' st0 (later++r::tr)=jao D st0 (later++r::tr)
 |[]=>by
  simp only[qS,jao,hD1,hi,if_true,if_neg hk,hn,z3,if_false];exact jhV (fun j hj=>hD2 j (by omega))
 |r' :: l=>by
  have ih:=jr7 hi hD1 hD2 hk hn (later:=l);simp only[qq,jao];rw[hD2 _ (by simp;omega),ih]
def jfc {D:Nat->Bool} {i:Nat} (hall:∀j oj,j<i->L[j]?=some oj->(jaz oj.op||jaG oj.op)=false->D j=true) (hmk:∀j,j<i->jfR tab j 0 L=true->D j=true) {tr:List Rec} (hg:GoodTr P sp N L tab st0 tr) :
  tr.length<=i->jao D st0 tr=jaw st0 tr∧∀h,h<jac st0 tr->jas D st0 tr h=true:=by
 induction hg with
 |nil=>exact fun _=>⟨rfl,fun _ _=>rfl⟩
 | @cons tr r hgt o hr ih =>
  intro hl;have hl:tr.length+1<=i:=hl;have ih:=ih (by omega)
  have key:r.kd≠2->D tr.length=true∨(r.nw=[]∧r.nx=jac st0 tr):=fun hk=>by
   rcases(jbX hr hk).2.2 with h1|h1|h1
   ·exact .inr h1
   ·exact .inl (hall _ o (by omega) hr.op h1)
   ·exact .inl (hmk _ (by omega) h1.1)
  constructor
  ·simp only[jao]
   show _=r.hp
   by_cases hk:r.kd=2
   ·rw[if_pos (hall _ o (by omega) hr.op (by rw[(jbv hr hk).2.1,(jbv hr hk).2.2.1];rfl)),if_pos hk]
   ·have h1:=jbX hr hk;rw[h1.1,if_neg hk,ih.1];split
    ·rfl
    ·rename_i hD;rcases key hk with h2|h2
     ·exact absurd h2 hD
     ·rw[h2.1];rfl
  ·intro h hh;have hh:h<r.nx:=hh;simp only[jas];split
   ·rename_i e;rw[xt]at e
    by_cases hk:r.kd=2
    ·exact hall _ o (by omega) hr.op (by rw[(jbv hr hk).2.1,(jbv hr hk).2.2.1];rfl)
    ·rcases key hk with h2|h2
     ·exact h2
     ·omega
   ·rename_i e;apply ih.2;rw[xi]at e;have:¬(jac st0 tr<=h):=fun hc=>e (x6 hc);omega
def jjH {D:Nat->Bool} {tr:List Rec}:∀{later:List Rec},(∀l1 rk l2 ok,later=l1++rk::l2->RecOK P sp N L tab st0 (l2++tr) rk ok->D (l2++tr).length=true->rk.kd≠2∧rk.nw=[])->GoodTr P sp N L tab st0 (later++tr)->jao D st0 (later++tr)=jao D st0 tr
 |[],_,_=>rfl
 |r::l,hall,hg=>by
   obtain⟨hgt,o,hr⟩:=GoodTr.inv (tr:=l++tr) hg;have ih:=jjH (fun l1 rk l2 ok e=>hall (r::l1) rk l2 ok (by rw[e];rfl)) hgt;simp only[qq,jao];split
   ·rename_i hD;have h1:=hall [] r l o rfl hr hD;rw[if_neg h1.1,h1.2,ih];rfl
   ·exact ih
def jjI {bef:List Nat} {r:Rec} {tr:List Rec} (hk:r.kd=2):∀{l:List Rec},jeo bef (l++r::tr)=true->tr.length∈bef
 |[],h=>by
  simp only[qS,jeo,hk,zk]at h;simpa using h.1
 |r' :: l,h=>by
  simp only[qq,jeo,zk]at h;exact jjI hk h.2
def jnD {D:Nat->Bool} {tr:List Rec}:∀{later:List Rec},(∀l1 rk l2 ok,later=l1++rk::l2->RecOK P sp N L tab st0 (l2++tr) rk ok->D (l2++tr).length=true->rk.kd≠2∧rk.nw.all (fun x=>jol x.2)=true)->GoodTr P sp N L tab st0 (later++tr) ->
  ∀x,(x<jac st0 tr->find (jao D st0 (later++tr)) x=find (jao D st0 tr) x)∧(∀ob,find (jao D st0 (later++tr)) x=some ob->jac st0 tr<=x->(∀ob,find (jao D st0 tr) x=some ob->x<jac st0 tr)->jol ob=true) ∧ (∀D',(∀j,tr.length<=j->D' j=D j)->jac st0 tr<=x->(∀ob,find (jao D st0 tr) x=some ob->x<jac st0 tr)->(∀ob,find (jao D' st0 tr) x=some ob->x<jac st0 tr)->find (jao D' st0 (later++tr)) x=find (jao D st0 (later++tr)) x) ∧ (x<jac st0 tr->∀D',(∀j,tr.length<=j->D' j=D j)->find (jao D' st0 (later++tr)) x=find (jao D' st0 tr) x)
 |[],_,_,x=>⟨fun _=>rfl,fun ob hf hx hk=>absurd (hk ob hf) (by omega),fun D' hD hx h1 h2=>by
   cases hf:find (jao D' st0 tr) x with
   |some ob=>exact absurd (h2 ob hf) (by omega)
   |none=>cases hg:find (jao D st0 tr) x with
    |some ob=>exact absurd (h1 ob hg) (by omega)
    |none=>simp[hf,hg],fun _ _ _=>rfl⟩
 |r::l,hall,hg,x=>by
   obtain⟨hgt,o,hr⟩:=GoodTr.inv (tr:=l++tr) hg;have ih:=jnD (later:=l) (fun l1 rk l2 ok e=>hall (r::l1) rk l2 ok (by rw[e];rfl)) hgt x;have hnx:jac st0 tr<=jac st0 (l++tr):=jdl hgt;simp only[qq,jao]
   by_cases hD:D (l++tr).length=true
   ·have hk2:r.kd≠2∧r.nw.all (fun x=>jol x.2)=true:=hall [] r l o rfl hr hD;have hoth:=jbX hr hk2.1
    have hnone:x<jac st0 tr->find r.nw x=none:=fun hx=>by
     cases hn:find r.nw x with
     |none=>rfl
     |some y=>have:=(hoth.2.1 x y hn).1;omega
    rw[if_pos hD,if_neg hk2.1];refine⟨fun hx=>by rw[jaq,hnone hx];exact ih.1 hx,fun ob hf hx hkey=>?_,fun D' hD' hx h1 h2=>?_,fun hx D' hD'=>?_⟩
    ·rw[jaq]at hf;cases hn:find r.nw x with
     |some y =>
      rw[hn]at hf;cases hf;exact zy.1 hk2.2 _ (jlg hn)
     |none=>rw[hn]at hf;exact ih.2.1 ob hf hx hkey
    ·rw[if_pos (by rw[hD' _ (by simp)];exact hD),if_neg hk2.1,jaq,jaq,ih.2.2.1 D' hD' hx h1 h2]
    ·rw[if_pos (by rw[hD' _ (by simp)];exact hD),if_neg hk2.1,jaq,hnone hx];exact ih.2.2.2 hx D' hD'
   ·rw[if_neg hD];refine⟨ih.1,ih.2.1,fun D' hD' hx h1 h2=>?_,fun hx D' hD'=>?_⟩
    ·rw[if_neg (by rw[hD' _ (by simp)];exact hD)];exact ih.2.2.1 D' hD' hx h1 h2
    ·rw[if_neg (by rw[hD' _ (by simp)];exact hD)];exact ih.2.2.2 hx D' hD'
end
end Go.Sx
end

section
open Go.RowKit
namespace Go.Sx
def O.ok_eqB {p:Nat->Bool} {I I':Env} {B:Kd} {h:Nat} {w:zr} (ha:∀x,p x=true->I' x=I x) (hh:I' h=I h):∀{o:O},o.allB p=true->o.ok I B w h->o.ok I' B w h
 | .box ty cs,hl,⟨k,h1,h2,h3⟩=>⟨k,hh.trans h1,h2,by
   rw[h3];congr 3;exact qx fun a ha'=>(C.val_eqB ha (zy.1 hl a ha')).symm⟩
 | .row ty c,_,hr=>by unfold O.ok at *;rw[hh];exact hr
 | .ext c,_,hr=>by unfold O.ok at *;rw[hh];exact hr
 | .view r c _,hl,hr=>by
  have hl':p r=true:=hl;unfold O.ok at *;rw[hh];simp only;exact hr
 | .dead,_,_=>trivial
 | .nan _,_,hr=>by unfold O.ok at *;rw[hh];exact hr
 | .err,_,hr=>by unfold O.ok at *;rw[hh];exact hr
 | .atom,_,hr=>by unfold O.ok at *;rw[hh];exact hr
 | .ebox cs,hl,⟨k,o,h1,h2,h3⟩=>⟨k,o,hh.trans h1,h2,fun j c hj=>by rw[C.val_eqB ha (zy.1 hl c (yh hj))];exact h3 j c hj⟩
 | .arr _ _ _,_,hr=>by unfold O.ok at *;rw[hh];exact hr
 | .xext _,_,hr=>by unfold O.ok at *;rw[hh];exact hr
 | .fext _,_,hr=>by unfold O.ok at *;rw[hh];exact hr
 | .xrow _ _,_,hr=>by unfold O.ok at *;rw[hh];exact hr
 | .mrow _ _ _ _,_,hr=>by unfold O.ok at *;rw[hh];exact hr
 | .trow _ _ _ _,_,hr=>by unfold O.ok at *;rw[hh];exact hr
 | .sub r i e j ty c,hl,hr=>by
  have hl':p r=true:=hl;unfold O.ok at *;simp only;rw[hh,ha r hl'];exact hr
def jbY (I I':Env) (lo hi:Nat):Env:=fun h=>match qN lo h&&xD h hi with|true=>I' h|false=>I h
section
variable [Globs] {P:zP} {sp:jab} {B0 B B2:Kd} {N n0:Nat} {L:List qu} {tab:List (List Nat)} {st0:St} {I0:Env} {w0:zr} {ds:List yK}
structure At [Globs] (P:zP) (sp:jab) (N:Nat) (L:List qu) (tab:List (List Nat)) (st0:St) (D D':Nat->Bool) (later:List Rec) (r:Rec) (tr:List Rec) (o:qu):Prop where
 good:GoodTr P sp N L tab st0 (later++r::tr)
 len:(later++r::tr).length=L.length
 ok:RecOK P sp N L tab st0 tr r o
 slots:jcG L tab 0 L=true
 edges:jeb 0 L=true
 tabok:jcT L tab
 closed:jcE L D
 out:D tr.length=false
 bef:∀j,j∈tab.getD tr.length []->D j=true
 D1:D' tr.length=true
 D2:∀j,j≠tr.length->D' j=D j
 base:jld st0
 baseTm:∀t v,jaP st0.tm t=some v->v.lt st0.nx
 n0:n0<=st0.nx
variable {D D':Nat->Bool} {later tr:List Rec} {r:Rec} {o:qu} {a:Act} {w w':zr} {I I':Env}
def At.low (h:At (n0:=n0) P sp N L tab st0 D D' later r tr o):∀i k,k∈tab.getD i []->k<i:=jzp h.edges h.tabok
def At.gr (h:At (n0:=n0) P sp N L tab st0 D D' later r tr o):GoodTr P sp N L tab st0 (r::tr):=GoodTr.tail h.good
def At.gt (h:At (n0:=n0) P sp N L tab st0 D D' later r tr o):GoodTr P sp N L tab st0 tr:=h.gr.inv.1
def At.mono (h:At (n0:=n0) P sp N L tab st0 D D' later r tr o):∀j,D j=true->D' j=true:=fun j hj=>by
 by_cases e:j=tr.length
 ·rw[e];exact h.D1
 ·rw[h.D2 j e];exact hj
def At.nx (h:At (n0:=n0) P sp N L tab st0 D D' later r tr o):r.nx<=jac st0 (later++r::tr):=jdl (tr:=r::tr) h.good
def At.alive_mono (h:At (n0:=n0) P sp N L tab st0 D D' later r tr o) {x:Nat} (hx:jaV st0 (later++r::tr) D x=true):jaV st0 (later++r::tr) D' x=true:=by
 simp only[jaV,zk]at hx ⊢;exact⟨hx.1,jfr h.mono _ _ hx.2⟩
def At.alive_out (h:At (n0:=n0) P sp N L tab st0 D D' later r tr o) {x:Nat} (hx:jaV st0 (later++r::tr) D x=true):¬(jac st0 tr<=x∧x<r.nx):=by
 rintro ⟨h1,h2⟩;simp only[jaV,zk]at hx;rw[jw7 h.good h1 h2,h.out]at hx;cases hx.2
def At.alive_new (h:At (n0:=n0) P sp N L tab st0 D D' later r tr o) {q:Nat->Bool} (hq:∀j,q j=true->D' j=true) {x:Nat}
  (hx:(xD x r.nx&&(qN (jac st0 tr) x||jas q st0 tr x))=true):jaV st0 (later++r::tr) D' x=true:=by
 simp only[zk,qL,qU]at hx;simp only[jaV,zk,qL];refine⟨zG hx.1 h.nx,?_⟩
 by_cases hle:jac st0 tr<=x
 ·rw[jw7 h.good hle hx.1];exact h.D1
 ·have h1:jas q st0 tr x=true:=by
   rcases hx.2 with h1|h1
   ·rw[xt]at h1;exact absurd h1 hle
   ·exact h1
  have:later++r::tr=(later++[r])++tr:=by simp
  rw[this,jjE (by rw[<-this];exact h.good) (by omega)];exact jfr hq _ _ h1
def jjJ (h:At (n0:=n0) P sp N L tab st0 D D' later r tr o) {x:Nat} (hx:jaV st0 (later++r::tr) D x=true):jbY I I' (jac st0 tr) r.nx x=I x:=by
 have:=h.alive_out hx;unfold jbY;split
 ·rename_i e;simp only[zk,xt,qL]at e;exact absurd e this
 ·rfl
def jdR {lo hi:Nat} (ha:jah lo I I'):jah hi I' (jbY I I' lo hi):=by
 intro x hx;unfold jbY;split
 ·rfl
 ·rename_i e
  have:¬lo<=x:=fun hc=>by
   rw[xi]at e;exact e (by simp only[zk,xt,qL];exact⟨hc,hx⟩)
  exact(ha x (by omega)).symm
def jlh {lo hi:Nat} {m:Nat} (hm:m<=lo) (ha:jah m I0 I):jah m I0 (jbY I I' lo hi):=by
 intro x hx;unfold jbY;split
 ·rename_i e;simp only[zk,xt,qL]at e;omega
 ·exact ha x hx
def At.n0le (h:At (n0:=n0) P sp N L tab st0 D D' later r tr o):n0<=jac st0 tr:=xb h.n0 (jmM h.gt)
def jpI:∀{hp:Hp} {x:Nat},find (hp.map fun y=>(y.1,O.atom)) x=(find hp x).map fun _=>O.atom
 |[],_=>rfl
 |(k,o)::hp,x=>by
  simp only[zL,find];split
  ·rfl
  ·exact jpI
def jjK (h:At (n0:=n0) P sp N L tab st0 D D' later r tr o) (hinv:Inv ds L st0 B0 B N n0 I0 w0 (later++r::tr) D a w I) {I2:Env} (hE:∀x,jaV st0 (later++r::tr) D x=true->I2 x=I x)
  (hnew:∀x,jac st0 tr<=x->x<r.nx->C.one r.hp (.o x)=true->(I2 x).oneCell'=true):∀x,jaV st0 (later++r::tr) D' x=true->jbU st0 (later++r::tr) x=true->(I2 x).oneCell'=true:=by
 intro x hx hb
 by_cases hn:jac st0 tr<=x∧x<r.nx
 ·rw[jxU h.good hn.1 hn.2]at hb;exact hnew x hn.1 hn.2 hb
 ·have hx2:=hx;simp only[jaV,zk,qL]at hx2
  have hal:jaV st0 (later++r::tr) D x=true:=by
   simp only[jaV,zk,qL];refine⟨hx2.1,?_⟩;rw[jA1 (q:=D') (q':=D) (fun j hj=>(h.D2 j hj).symm) hn h.good hx2.1];exact hx2.2
  rw[hE x hal];exact hinv.one x hal hb
def jjL (h:At (n0:=n0) P sp N L tab st0 D D' later r tr o) (hinv:Inv ds L st0 B0 B N n0 I0 w0 (later++r::tr) D a w I) (hk:r.kd≠2) (hn:r.nw=[]) (hnx:r.nx=jac st0 tr)
  (hv:r.v.allB (fun x=>xD x r.nx&&(qN (jac st0 tr) x||jas (fun j=>(tab.getD tr.length []).contains j) st0 tr x))=true) :
  Inv ds L st0 B0 B N n0 I0 w0 (later++r::tr) D' (a.put o.dst (r.v.val I)) w I:=by
 have he:=jr7 (st0:=st0) (later:=later) h.out h.D1 h.D2 hk hn;have hv':r.v.allB (jaV st0 (later++r::tr) D')=true:=V.allB_mono (fun x hx=>h.alive_new (fun j hj=>h.mono j (h.bef j (by simpa using hj))) hx) hv;refine⟨jmN h.slots h.tabok h.closed h.out h.ok.op h.ok.dst h.D1 h.D2 hinv (fun _ _=>rfl) hv',by rw[jbn];exact hinv.size,by rw[jb5];exact hinv.defers,by rw[he];exact hinv.heap,?_,hinv.le,hinv.agree,hinv.below,jjK h hinv (fun _ _=>rfl) (fun x h1 h2 _=>by omega),hinv.gr,hinv.le0⟩;intro x ob hf;rw[he]at hf;have:=hinv.hal x ob hf;exact⟨h.alive_mono this.1,O.allB_mono (fun y hy=>h.alive_mono hy) this.2⟩
def juq (h:At (n0:=n0) P sp N L tab st0 D D' later r tr o) (hinv:Inv ds L st0 B0 B N n0 I0 w0 (later++r::tr) D a w I) (hno:jeq P sp N L tab st0 D later (r::tr)) (hk:r.kd≠2)
  (hv:r.v.allB (fun x=>xD x r.nx&&(qN (jac st0 tr) x||jas (fun j=>(tab.getD tr.length []).contains j) st0 tr x))=true)
  (hnw:∀x ob,find r.nw x=some ob->ob.allB (fun x=>xD x r.nx&&(qN (jac st0 tr) x||jas (fun j=>(tab.getD tr.length []).contains j) st0 tr x))=true)
  (hag:jah (jac st0 tr) I I') (hbl:Bel B w w') (hbw:yn w.heap.size w w') (g:Grow B B2 true w w') (hnew:HRel I' B2 r.nw r.nx w') (hfresh:∀x ob k,find r.nw x=some ob->ob.blk (I' x)=some k->w.heap.size<=k) :
  Inv ds L st0 B0 B2 N n0 I0 w0 (later++r::tr) D' (a.put o.dst (r.v.val (jbY I I' (jac st0 tr) r.nx))) w' (jbY I I' (jac st0 tr) r.nx):=by
 have hbl0:Bel B0 w w':=hbl.mono hinv.gr.le.kp;have hq:∀j,(tab.getD tr.length []).contains j=true->D' j=true:=fun j hj=>h.mono j (h.bef j (by simpa using hj));have hv':r.v.allB (jaV st0 (later++r::tr) D')=true:=V.allB_mono (fun x hx=>h.alive_new hq hx) hv;have hE1:∀x,jaV st0 (later++r::tr) D x=true->jbY I I' (jac st0 tr) r.nx x=I x:=fun x hx=>jjJ h hx;have hE2:jah r.nx I' (jbY I I' (jac st0 tr) r.nx):=jdR hag
 have hins:∀x,find (jao D' st0 (later++r::tr)) x=(find (jao D st0 (later++r::tr)) x).or (find r.nw x):=fun x =>
  jnC h.out h.base h.D1 h.D2 hk hno h.good
 have hkey:∀k ob,find r.nw k=some ob->jac st0 tr<=k∧k<r.nx:=(jbX h.ok hk).2.1;have hnew':=hnew.agree hE2
 refine⟨jmN h.slots h.tabok h.closed h.out h.ok.op h.ok.dst h.D1 h.D2 hinv hE1 hv',by rw[jbn];exact hinv.size,by rw[jb5];exact hinv.defers,⟨?_,?_,(hinv.heap.glob.bel hbl).sub g.le.kp⟩,?_,g.old (hbl.old hinv.le),jlh h.n0le hinv.agree,hinv.below.trans hbl0,jjK h hinv hE1 (fun x h1 h2 h3=>by
  rw[hE2 x h2];refine C.one_val (c:=.o x) hnew ?_;have hh:=(jbX h.ok hk).1
  have hnone:find (jaw st0 tr) x=none:=by
   cases hf:find (jaw st0 tr) x with
   |none=>rfl
   |some y=>have:=(keys h.gt h.base x y hf).1;omega
  simp only[C.one,hh,jaq,hnone]at h3;simp only[C.one];cases hf:find r.nw x with
  |none=>rw[hf]at h3;cases h3
  |some y=>rw[hf]at h3;exact h3),(hinv.gr.trans g.weak (zp _) hbl.size).weak,hbl0.old hinv.le0⟩
 ·intro x ob hf;rw[hins]at hf;cases hd:find (jao D st0 (later++r::tr)) x with
  |some y =>
   rw[hd]at hf;cases hf;have h1:=hinv.heap.ok x ob hd;have h2:=hinv.hal x ob hd
   exact⟨h1.1,h1.2.1,O.ok_eqB hE1 (hE1 x h2.1) h2.2 (O.ok_moreB g.le (g.mono rfl).2 (O.ok_below hbw hinv.le h1.2.2) fun k hk hB2=>by
    have hb:=O.blk_lt h1.2.2 hk;rcases(g.mono rfl).1 k hB2 with h3|h3
    ·exact hb.2 h3
    ·exact absurd hb.1 (by omega))⟩
  |none =>
   rw[hd]at hf;have hf:find r.nw x=some ob:=hf;have h1:=hnew'.ok x ob hf;exact⟨zG h1.1 h.nx,O.lt_mono h.nx h1.2.1,h1.2.2⟩
 ·intro x ob x' ob' k hf hf' hne hb;rw[hins]at hf hf'
  have old:∀y oy,find (jao D st0 (later++r::tr)) y=some oy->∀k,oy.blk (jbY I I' (jac st0 tr) r.nx y)=some k->k<w.heap.size:=fun y oy hy k hk=>by
   rw[hE1 y (hinv.hal y oy hy).1]at hk;exact(O.blk_lt (hinv.heap.ok y oy hy).2.2 hk).1
  have new:∀y oy,find r.nw y=some oy->∀k,oy.blk (jbY I I' (jac st0 tr) r.nx y)=some k->w.heap.size<=k:=fun y oy hy k hk=>by
   rw[hE2 y (hkey y oy hy).2]at hk;exact hfresh y oy k hy hk
  cases hd:find (jao D st0 (later++r::tr)) x with
  |some y =>
   rw[hd]at hf;cases hf;cases hd':find (jao D st0 (later++r::tr)) x' with
   |some y' =>
    rw[hd']at hf';cases hf';rw[hE1 x (hinv.hal x ob hd).1]at hb;rw[hE1 x' (hinv.hal x' ob' hd').1];exact hinv.heap.apart x ob x' ob' k hd hd' hne hb
   |none =>
    rw[hd']at hf';intro hb';have h1:=old x ob hd k hb;have h2:=new x' ob' hf' k hb';omega
  |none =>
   rw[hd]at hf;cases hd':find (jao D st0 (later++r::tr)) x' with
   |some y' =>
    rw[hd']at hf';cases hf';intro hb';have h1:=old x' ob' hd' k hb';have h2:=new x ob hf k hb;omega
   |none =>
    rw[hd']at hf';exact hnew'.apart x ob x' ob' k hf hf' hne hb
 ·intro x ob hf;rw[hins]at hf;cases hd:find (jao D st0 (later++r::tr)) x with
  |some y =>
   rw[hd]at hf;cases hf;have:=hinv.hal x ob hd;exact⟨h.alive_mono this.1,O.allB_mono (fun y hy=>h.alive_mono hy) this.2⟩
  |none =>
   rw[hd]at hf;have hf:find r.nw x=some ob:=hf;have h1:=hkey x ob hf;refine⟨h.alive_new (q:=fun _=>false) (fun _ hj=>by cases hj) ?_,O.allB_mono (fun y hy=>h.alive_new hq hy) (hnw x ob hf)⟩;simp only[zk,qL,qU];exact⟨h1.2,.inl (x6 h1.1)⟩
def jhf (h:At (n0:=n0) P sp N L tab st0 D D' later r tr o) {lf mk:Bool} (hf:jbk tab tr.length lf mk 0 L=true):∀j oj,j<tr.length->L[j]?=some oj->(jaz oj.op||jaG oj.op)=false->D j=true:=fun j oj hij hj hs=>by
 simp only[Bool.or_eq_false_iff]at hs;rcases jc8 hf j oj hj with h1|h1|h1|h1|h1|h1
 ·omega
 ·rw[hs.1]at h1;cases h1
 ·rw[qa]at h1;exact h.bef _ h1
 ·rw[qa]at h1;have:=h.low _ _ h1;omega
 ·rw[hs.2]at h1;cases h1.2
 ·have:=h1.2.1;omega
def jhg (h:At (n0:=n0) P sp N L tab st0 D D' later r tr o) (hns:jaz o.op=false) (hnl:jaG o.op=false) (hna:jhc o.op=false):∀j,j<tr.length->jfR tab j 0 L=true->D j=true:=fun j hij hm=>by
 rcases jjG hm tr.length o h.ok.op with h1|h1|h1|h1
 ·omega
 ·rw[hns,hnl]at h1;cases h1
 ·rw[qa]at h1;exact h.bef _ h1
 ·rw[hna]at h1;cases h1
def jw9 (h:At (n0:=n0) P sp N L tab st0 D D' later r tr o) (hns:jaz o.op=false) (hnl:jaG o.op=false):jeq P sp N L tab st0 D later (r::tr):=fun l1 rk l2 ok e hr hk=>by
 obtain⟨mk,hf⟩:=(jbv hr hk).1;exact jzu hns hnl h.ok.op h.low h.tabok h.closed h.out (by simp;omega) hf
def jCE (h:At (n0:=n0) P sp N L tab st0 D D' later r tr o) (hm:jfR tab tr.length 0 L=true):jeq P sp N L tab st0 D later (r::tr):=fun l1 rk l2 ok e hr hk=>by
 have hke:=jbv hr hk;rcases jjG hm _ ok hr.op with h1|h1|h1|h1
 ·simp at h1;omega
 ·rw[hke.2.1,hke.2.2.1]at h1;cases h1
 rotate_left
 ·rw[hke.2.2.2]at h1;cases h1
 ·rw[qa]at h1;rw[xi];intro hD;have:=jcU h.tabok h.closed _ tr.length (fun o' ho' e he hb=>h.closed _ o' ho' hD e he hb) h1;rw[h.out]at this;cases this
def jpJ (B:Kd) (E:Nat->Prop) (hE:∀k,E k->¬B.all k):Kd :=
 ⟨fun k=>B.kp k∨E k,B.fr,B.mu,fun k h=>.inl (B.sub k h),fun k h=>h.elim (B.dis k) fun h=>by
  cases hm:B.mu k with
  |none=>rfl
  |some g=>exact absurd (.inr (by rw[hm];simp)) (hE k h)⟩
def jix (B:Kd) (E:Nat->Prop) (hE:∀k,B.fr k->¬E k):Kd :=⟨fun k=>B.kp k∧¬E k,B.fr,B.mu,fun k h=>⟨B.sub k h,hE k h⟩,fun k h=>B.dis k h.1⟩
def O.ok_minus {E:Nat->Prop} {hE:∀k,B.fr k->¬E k} {x:Nat} (hn:∀k,¬B.all k->¬(jix B E hE).all k):∀{o:O},o.ok I B w x->jjB o=false->o.ok I (jix B E hE) w x
 | .box _ _,⟨k,h1,h2,h3⟩,_=>⟨k,h1,hn k h2,h3⟩
 | .row _ _,⟨h1,h2⟩,_=>⟨h1,fun k hk=>hn k (h2 k hk)⟩
 | .ext _,_,hd=>by cases hd
 | .view _ _ _,h,_=>h
 | .dead,_,_=>trivial
 | .nan _,h,_=>h
 | .ebox _,_,hd=>by cases hd
 | .arr _ _ _,⟨b,h1,h2,h3⟩,_=>⟨b,h1,hn b h2,h3⟩
 | .xext _,_,hd=>by cases hd
 | .fext _,h,_=>h
 | .xrow _ _,⟨us,h1,h2,h3⟩,_=>⟨us,h1,h2,fun k hk=>hn k (h3 k hk)⟩
 | .mrow _ _ _ _,⟨us,h1,h2,h3,h4⟩,_=>⟨us,h1,fun i j a b c=>let ⟨u,p,q⟩:=h2 i j a b c; ⟨u,p,NC.own_mono (B:=B) (B':=jix B E hE) (fun _ _ h=>h) q⟩,h3,fun k hk=>hn k (h4 k hk)⟩
 | .trow _ _ _ _,_,hd=>by cases hd
 | .sub _ _ _ _ _ _,h,_=>h
 | .err,h,_=>h
 | .atom,h,_=>h
def jxW {o:O} {x:Nat} (hd:jjB o=true) (ht:o.isT=false) (hb:Bel B.kp w w') (hs:∀k,B.kp k->B2.kp k) (h:o.ok I B w x):o.ok I B2 w' x:=by
 cases o with
 |ext c=>exact⟨h.1.below hb h.2,jaW hs h.2⟩
 |ebox cs =>
  obtain⟨k,o,h1,h2,h3⟩:=h;exact⟨k,o,h1,hs k h2,fun j c hj=>(hb.cell (p:=⟨k,o+j,none⟩) h2).trans (h3 j c hj)⟩
 |xext X=>exact(IsX.bel h hb).mono hs
 |trow=>cases ht
 |_=>cases hd
def jA3 {o:O} {x:Nat} (ho:jol o=true) (hw:∀k,o.blk (I x)=some k->w'.heap[k]?=w.heap[k]?) (hB:∀k,o.blk (I x)=some k->¬B2.all k) (h:o.ok I B w x):o.ok I B2 w' x:=by
 have own:∀{ty e n:Nat} {v:zs} {cs:List zs},(∀k,v.ownBlock=some k->w'.heap[k]?=w.heap[k]?)->w.ownsRow 0 ty e v n cs->w'.ownsRow 0 ty e v n cs:=fun hw hr=>by
  refine⟨hr.1,?_⟩;rcases hr.2 with hn|⟨g,cap,cur,h1,h2,h3,h4⟩
  ·exact .inl hn
  ·exact .inr ⟨g,cap,cur,h1,h2,(hw g (by rw[h1];rfl)).trans h3,h4⟩
 cases o with
 |row ty c=>exact⟨own (fun k hk=>hw k hk) h.1,fun k hk=>hB k hk⟩
 |box ty cs=>obtain⟨k,h1,h2,h3⟩:=h;exact⟨k,h1,hB k (by simp[O.blk,h1,base]),(hw k (by simp[O.blk,h1,base])).trans h3⟩
 |arr ty e r=>obtain⟨g,h1,h2,h3⟩:=h;exact⟨g,h1,hB g (by simp[O.blk,h1,base]),(hw g (by simp[O.blk,h1,base])).trans h3⟩
 |_=>cases ho
def jdL (st0:St) (T:List Rec) (D:Nat->Bool) (I:Env) (n k:Nat):Prop:=∃x ob,n<=x∧find (jao D st0 T) x=some ob∧ob.blk (I x)=some k
def jqN (h:At (n0:=n0) P sp N L tab st0 D D' later r tr o) (hk:r.kd=2) (hns:jaz o.op=false) (hnl:jaG o.op=false) {lf mk:Bool} (hf:jbk tab tr.length lf mk 0 L=true) :
  ∀l1 rk l2 ok,later=l1++rk::l2->RecOK P sp N L tab st0 (l2++r::tr) rk ok->D (l2++r::tr).length=true->rk.kd≠2∧rk.nw.all (fun x=>jol x.2)=true∧(mk=false->rk.nw=[]):=by
 intro l1 rk l2 ok e hr hD;have hlt:tr.length<(l2++r::tr).length:=by simp;omega
 have hk2:rk.kd≠2:=fun hk2=>by
  rw[jw9 h hns hnl l1 rk l2 ok e hr hk2]at hD;cases hD
 refine⟨hk2,?_⟩;have mkr:jaz ok.op=false->jaG ok.op=false->mk=true∧jjA ok.op=true∧tr.length∉tab.getD (l2++r::tr).length []:=fun h1 h2=>jxV hr.op h1 h2 h.low h.tabok h.closed h.out hlt hf hD;cases hr.kind with
 |skip g e=>rw[e];exact⟨rfl,fun _=>rfl⟩
 |pure g ob hs ho hk e=>rw[e];exact⟨rfl,fun _=>rfl⟩
 |built g hb0 ob hs ho hk e=>rw[e];exact⟨rfl,fun _=>rfl⟩
 |load g hp hl x xo hx hf hb hst ob hs ho hk e=>rw[e];exact⟨rfl,fun _=>rfl⟩
 |mono g hp hl hm res hs ho hk hnk e =>
  have hlm:=mkr hp hl;rw[e];refine⟨?_,fun hc=>by rw[hlm.1]at hc;cases hc⟩;unfold jun at hnk;split at hnk
  ·rename_i hal;exact absurd (jjI ‹r.kd=2› hal) hlm.2.2
  ·exact hnk
 |mload g hp hl hmk hal hm res hs ho hk e =>
  have h1:=jjI ‹r.kd=2› hal;have:=jcU h.tabok h.closed _ tr.length (fun o' ho' e he hb=>h.closed _ o' ho' hD e he hb) h1;rw[h.out]at this;cases this
 |effect g hp hl hmo mk hf res hs ho hk hmk e=>exact absurd (by rw[e]) hk2
def jur (h:At (n0:=n0) P sp N L tab st0 D D' later r tr o) (hk:r.kd=2) (hns:jaz o.op=false) (hnl:jaG o.op=false) {lf mk:Bool} (hf:jbk tab tr.length lf mk 0 L=true) (hkey:∀x ob,find r.hp x=some ob->x<r.nx) (x:Nat) :
  (x<r.nx->find (jao D st0 (later++r::tr)) x=find (jaw st0 tr) x)∧(x<r.nx->find (jao D' st0 (later++r::tr)) x=find r.hp x) ∧
   (r.nx<=x->find (jao D' st0 (later++r::tr)) x=find (jao D st0 (later++r::tr)) x∧∀ob,find (jao D st0 (later++r::tr)) x=some ob->jol ob=true):=by
 have e1:jao D st0 (r::tr)=jaw st0 tr:=by
  simp only[jao,h.out,z3,if_false];exact(jfc (jhf h hf) (jhg h hns hnl (jbv h.ok hk).2.2.2) h.gt (zp _)).1
 have e2:jao D' st0 (r::tr)=r.hp:=by simp only[jao,h.D1,hk,if_true]
 have hm:=jnD (D:=D) (tr:=r::tr) (later:=later) (fun l1 rk l2 ok e hr hD=>let q:=jqN h hk hns hnl hf l1 rk l2 ok e hr hD; ⟨q.1,q.2.1⟩) h.good x;have hD':∀j,(r::tr).length<=j->D' j=D j:=fun j hj=>h.D2 j (by simp at hj;omega)
 have hk1:∀ob,find (jao D st0 (r::tr)) x=some ob->x<r.nx:=fun ob hf=>by
  rw[e1]at hf;exact zG (keys h.gt h.base x ob hf).1 h.ok.nx_le
 have hk2:∀ob,find (jao D' st0 (r::tr)) x=some ob->x<r.nx:=fun ob hf=>by
  rw[e2]at hf;exact hkey x ob hf
 refine⟨fun hx=>by rw[<-e1];exact hm.1 hx,fun hx=>by rw[<-e2];exact hm.2.2.2 hx D' hD',fun hx=>⟨hm.2.2.1 D' hD' hx hk1 hk2,fun ob hob=>hm.2.1 ob hob hx hk1⟩⟩
def jdS (hinv:Inv ds L st0 B0 B N n0 I0 w0 (later++r::tr) D a w I):∀k,jdL st0 (later++r::tr) D I r.nx k->¬B.all k:=fun k ⟨x,ob,_,hf,hb⟩=>(O.blk_lt (hinv.heap.ok x ob hf).2.2 hb).2
def jA4 (h:At (n0:=n0) P sp N L tab st0 D D' later r tr o) (hinv:Inv ds L st0 B0 B N n0 I0 w0 (later++r::tr) D a w I) (hk:r.kd=2) (hns:jaz o.op=false) (hnl:jaG o.op=false) {lf mk:Bool} (hf:jbk tab tr.length lf mk 0 L=true) (hkey:∀x ob,find r.hp x=some ob->x<r.nx) :
  HRel I (jpJ B (jdL st0 (later++r::tr) D I r.nx) (jdS hinv)) (jaw st0 tr) (jac st0 tr) w∧Old (jpJ B (jdL st0 (later++r::tr) D I r.nx) (jdS hinv)) w:=by
 have at1:∀x ob,find (jaw st0 tr) x=some ob->find (jao D st0 (later++r::tr)) x=some ob:=fun x ob hx=>by
  rw[(jur h hk hns hnl hf hkey x).1 (zG (keys h.gt h.base x ob hx).1 h.ok.nx_le)];exact hx
 constructor
 ·refine⟨fun x ob hx=>⟨(keys h.gt h.base x ob hx).1,(keys h.gt h.base x ob hx).2,?_⟩,fun x ob x' ob' k hx hx'=>hinv.heap.apart x ob x' ob' k (at1 x ob hx) (at1 x' ob' hx'),hinv.heap.glob.sub fun k hk=>.inl hk⟩;have h1:=(hinv.heap.ok x ob (at1 x ob hx)).2.2;refine O.ok_moreB (B2:=jpJ B (jdL st0 (later++r::tr) D I r.nx) (jdS hinv)) ⟨fun k hk=>.inl hk,fun k hk=>hk⟩ (fun k g hg=>hg) h1 fun k hk' hc=>?_;have h2:=O.blk_lt h1 hk';rcases hc with (hc|⟨x',ob',hx',hf',hb'⟩)|hc
  ·exact h2.2 (.inl hc)
  ·refine hinv.heap.apart x ob x' ob' k (at1 x ob hx) hf' (fun e=>?_) hk' hb';have:=(keys h.gt h.base x ob hx).1;have:=h.ok.nx_le;omega
  ·exact h2.2 (.inr hc)
 ·intro k hc;rcases hc with (hc|⟨x',ob',hx',hf',hb'⟩)|hc
  ·exact hinv.le k (.inl hc)
  ·exact(O.blk_lt (hinv.heap.ok x' ob' hf').2.2 hb').1
  ·exact hinv.le k (.inr hc)
def jwa {B3:Kd} (h:At (n0:=n0) P sp N L tab st0 D D' later r tr o) (hinv:Inv ds L st0 B0 B N n0 I0 w0 (later++r::tr) D a w I) (hk:r.kd=2) (hns:jaz o.op=false) (hnl:jaG o.op=false) {lf mk:Bool} (hf:jbk tab tr.length lf mk 0 L=true)
  (hv:r.v.allB (fun x=>xD x r.nx&&(qN (jac st0 tr) x||jas (fun j=>(tab.getD tr.length []).contains j) st0 tr x))=true)
  (hnw:∀x ob,find r.hp x=some ob->x<r.nx∧ob.allB (fun x=>xD x r.nx&&(qN (jac st0 tr) x||jas (fun j=>(tab.getD tr.length []).contains j) st0 tr x))=true)
  (hdep:∀x ob,find r.hp x=some ob->jjB ob=true->find (jaw st0 tr) x=some ob∧ob.isT=false)
  (hag:jah (jac st0 tr) I I') (hbl:Bel (jpJ B (jdL st0 (later++r::tr) D I r.nx) (jdS hinv)).kp w w') (g:Grow (jpJ B (jdL st0 (later++r::tr) D I r.nx) (jdS hinv)) B3 false w w') (hnew:HRel I' B3 r.hp r.nx w') :
  ∃B2,Inv ds L st0 B0 B2 N n0 I0 w0 (later++r::tr) D' (a.put o.dst (r.v.val (jbY I I' (jac st0 tr) r.nx))) w' (jbY I I' (jac st0 tr) r.nx):=by
 have hkey:∀x ob,find r.hp x=some ob->x<r.nx:=fun x ob hx=>(hnw x ob hx).1;have hps:=jur h hk hns hnl hf hkey;have hq:∀j,(tab.getD tr.length []).contains j=true->D' j=true:=fun j hj=>h.mono j (h.bef j (by simpa using hj));have hv':r.v.allB (jaV st0 (later++r::tr) D')=true:=V.allB_mono (fun x hx=>h.alive_new hq hx) hv;have hE1:∀x,jaV st0 (later++r::tr) D x=true->jbY I I' (jac st0 tr) r.nx x=I x:=fun x hx=>jjJ h hx;have hE2:jah r.nx I' (jbY I I' (jac st0 tr) r.nx):=jdR hag
 have hE3:∀k,B3.fr k->¬jdL st0 (later++r::tr) D I r.nx k:=fun k hfr hc=>by
  rcases g.out k hfr with h1|h1
  ·exact jdS hinv k hc (.inl (B.sub k h1))
  ·exact h1 (.inr hc)
 have hbB:Bel B.kp w w':=hbl.mono fun k hk=>.inl hk;have hbl0:Bel B0 w w':=hbB.mono hinv.gr.le.kp
 have g':Grow B (jix B3 (jdL st0 (later++r::tr) D I r.nx) hE3) false w w':=by
  refine⟨⟨fun k hk=>⟨g.le.kp k (.inl hk),fun hc=>jdS hinv k hc (.inl hk)⟩,fun k hk=>g.le.fr k hk⟩,fun k hk=>?_,fun k hk=>?_,fun hc=>by cases hc⟩
  ·have h3:B3.all k:=hk.elim (fun hk=>.inl hk.1) .inr;rcases g.new k h3 with ((h4|⟨x',ob',hx',hf',hb'⟩)|h4)|h4
   ·exact .inl (.inl h4)
   ·exact .inr (zG (O.blk_lt (hinv.heap.ok x' ob' hf').2.2 hb').1 hbl.size)
   ·exact .inl (.inr h4)
   ·exact .inr h4
  ·rcases g.out k hk with h4|h4
   ·exact .inl h4
   ·exact .inr fun hc=>h4 (.inl hc)
 have hnew':=hnew.agree hE2;have hn:∀k,¬B3.all k->¬(jix B3 (jdL st0 (later++r::tr) D I r.nx) hE3).all k:=fun k hk hc=>hk (hc.elim (fun hc=>.inl hc.1) .inr)
 have lateB:∀x ob k,r.nx<=x->find (jao D st0 (later++r::tr)) x=some ob->ob.blk (jbY I I' (jac st0 tr) r.nx x)=some k->jdL st0 (later++r::tr) D I r.nx k:=fun x ob k hx hfx hb=>by
  rw[hE1 x (hinv.hal x ob hfx).1]at hb;exact⟨x,ob,hx,hfx,hb⟩
 refine⟨jix B3 (jdL st0 (later++r::tr) D I r.nx) hE3,jmN h.slots h.tabok h.closed h.out h.ok.op h.ok.dst h.D1 h.D2 hinv hE1 hv',by rw[jbn];exact hinv.size,by rw[jb5];exact hinv.defers,⟨?_,?_,(hinv.heap.glob.bel hbB).sub g'.le.kp⟩,?_,g'.old (hbB.old hinv.le),jlh h.n0le hinv.agree,hinv.below.trans hbl0,jjK h hinv hE1 (fun x h1 h2 h3=>by rw[hE2 x h2];exact C.one_val (c:=.o x) hnew h3),(hinv.gr.trans g' (zp _) hbl.size).weak,hbl0.old hinv.le0⟩
 ·intro x ob hfx
  by_cases hx:x<r.nx
  ·rw[(hps x).2.1 hx]at hfx;have h1:=hnew'.ok x ob hfx;refine⟨zG h1.1 h.nx,O.lt_mono h.nx h1.2.1,?_⟩;cases hd:jjB ob with
   |false=>exact O.ok_minus hn h1.2.2 hd
   |true =>
    obtain⟨h2,hT⟩:=hdep x ob hfx hd;rw[<-(hps x).1 hx]at h2;have h3:=hinv.hal x ob h2;exact O.ok_eqB hE1 (hE1 x h3.1) h3.2 (jxW hd hT hbB g'.le.kp (hinv.heap.ok x ob h2).2.2)
  ·have hx:r.nx<=x:=by omega
   rw[((hps x).2.2 hx).1]at hfx;have h1:=hinv.heap.ok x ob hfx;have h3:=hinv.hal x ob hfx;refine⟨h1.1,h1.2.1,O.ok_eqB hE1 (hE1 x h3.1) h3.2 (jA3 (((hps x).2.2 hx).2 ob hfx) (fun k hb=>hbl.block k (.inr ⟨x,ob,hx,hfx,hb⟩)) (fun k hb hc=>?_) h1.2.2)⟩;have hl:jdL st0 (later++r::tr) D I r.nx k:=⟨x,ob,hx,hfx,hb⟩
   rcases hc with hc|hc
   ·exact hc.2 hl
   ·exact hc (B3.dis k (g.le.kp k (.inr hl)))
 ·intro x ob x' ob' k hfx hfx' hne hb
  by_cases hx:x<r.nx
  ·rw[(hps x).2.1 hx]at hfx
   by_cases hx':x'<r.nx
   ·rw[(hps x').2.1 hx']at hfx';exact hnew'.apart x ob x' ob' k hfx hfx' hne hb
   ·have hx':r.nx<=x':=by omega
    rw[((hps x').2.2 hx').1]at hfx';intro hb';exact(O.blk_lt (hnew'.ok x ob hfx).2.2 hb).2 (.inl (g.le.kp k (.inr (lateB x' ob' k hx' hfx' hb'))))
  ·have hx:r.nx<=x:=by omega
   rw[((hps x).2.2 hx).1]at hfx
   by_cases hx':x'<r.nx
   ·rw[(hps x').2.1 hx']at hfx';intro hb';exact(O.blk_lt (hnew'.ok x' ob' hfx').2.2 hb').2 (.inl (g.le.kp k (.inr (lateB x ob k hx hfx hb))))
   ·have hx':r.nx<=x':=by omega
    rw[((hps x').2.2 hx').1]at hfx';rw[hE1 x (hinv.hal x ob hfx).1]at hb;rw[hE1 x' (hinv.hal x' ob' hfx').1];exact hinv.heap.apart x ob x' ob' k hfx hfx' hne hb
 ·intro x ob hfx
  by_cases hx:x<r.nx
  ·rw[(hps x).2.1 hx]at hfx;refine⟨h.alive_new (q:=D) h.mono ?_,O.allB_mono (fun y hy=>h.alive_new hq hy) (hnw x ob hfx).2⟩;simp only[zk,qL,qU];refine⟨hx,?_⟩
   by_cases hle:jac st0 tr<=x
   ·exact .inl (x6 hle)
   ·exact .inr ((jfc (jhf h hf) (jhg h hns hnl (jbv h.ok hk).2.2.2) h.gt (zp _)).2 x (by omega))
  ·have hx:r.nx<=x:=by omega
   rw[((hps x).2.2 hx).1]at hfx;have:=hinv.hal x ob hfx;exact⟨h.alive_mono this.1,O.allB_mono (fun y hy=>h.alive_mono hy) this.2⟩
def jxX (h:At (n0:=n0) P sp N L tab st0 D D' later r tr o) (hinv:Inv ds L st0 B0 B N n0 I0 w0 (later++r::tr) D a w I) (hk:r.kd=2) (hns:jaz o.op=false) (hnl:jaG o.op=false) {lf:Bool} (hf:jbk tab tr.length lf false 0 L=true)
  (hv:r.v.allB (fun x=>xD x r.nx&&(qN (jac st0 tr) x||jas (fun j=>(tab.getD tr.length []).contains j) st0 tr x))=true)
  (hnw:∀x ob,find r.hp x=some ob->ob.allB (fun x=>xD x r.nx&&(qN (jac st0 tr) x||jas (fun j=>(tab.getD tr.length []).contains j) st0 tr x))=true)
  (hag:jah (jac st0 tr) I I') (hbl:Bel B w w') (g:Grow B B2 false w w') (hnew:HRel I' B2 r.hp r.nx w') :
  Inv ds L st0 B0 B2 N n0 I0 w0 (later++r::tr) D' (a.put o.dst (r.v.val (jbY I I' (jac st0 tr) r.nx))) w' (jbY I I' (jac st0 tr) r.nx):=by
 have hbl0:Bel B0 w w':=hbl.mono hinv.gr.le.kp;have hq:∀j,(tab.getD tr.length []).contains j=true->D' j=true:=fun j hj=>h.mono j (h.bef j (by simpa using hj));have hv':r.v.allB (jaV st0 (later++r::tr) D')=true:=V.allB_mono (fun x hx=>h.alive_new hq hx) hv;have hE1:∀x,jaV st0 (later++r::tr) D x=true->jbY I I' (jac st0 tr) r.nx x=I x:=fun x hx=>jjJ h hx;have hE2:jah r.nx I' (jbY I I' (jac st0 tr) r.nx):=jdR hag
 have hall:∀l1 rk l2 ok,later=l1++rk::l2->RecOK P sp N L tab st0 (l2++r::tr) rk ok->D' (l2++r::tr).length=true->rk.kd≠2∧rk.nw=[]:=fun l1 rk l2 ok e hr hD=>by
  rw[h.D2 _ (by simp;omega)]at hD;have q:=jqN h hk hns hnl hf l1 rk l2 ok e hr hD;exact⟨q.1,q.2.2 rfl⟩
 have hbefore:=jhf h hf
 have hhp:jao D' st0 (later++r::tr)=r.hp:=by
  rw[jjH (tr:=r::tr) hall h.good];simp only[jao,h.D1,hk,if_true]
 have hnew':=hnew.agree hE2;refine⟨jmN h.slots h.tabok h.closed h.out h.ok.op h.ok.dst h.D1 h.D2 hinv hE1 hv',by rw[jbn];exact hinv.size,by rw[jb5];exact hinv.defers,by rw[hhp];exact hnew'.mono_nx h.nx,?_,g.old (hbl.old hinv.le),jlh h.n0le hinv.agree,hinv.below.trans hbl0,jjK h hinv hE1 (fun x h1 h2 h3=>by rw[hE2 x h2];exact C.one_val (c:=.o x) hnew h3),(hinv.gr.trans g (zp _) hbl.size).weak,hbl0.old hinv.le0⟩;intro x ob hf;rw[hhp]at hf;refine⟨h.alive_new (q:=D) h.mono ?_,O.allB_mono (fun y hy=>h.alive_new hq hy) (hnw x ob hf)⟩;have h1:=(hnew.ok x ob hf).1;simp only[zk,qL,qU];refine⟨h1,?_⟩
 by_cases hle:jac st0 tr<=x
 ·exact .inl (x6 hle)
 ·exact .inr ((jfc hbefore (jhg h hns hnl (jbv h.ok hk).2.2.2) h.gt (zp _)).2 x (by omega))
def jus (h:At (n0:=n0) P sp N L tab st0 D D' later r tr o) (hinv:Inv ds L st0 B0 B N n0 I0 w0 (later++r::tr) D a w I) (hno:jeq P sp N L tab st0 D later (r::tr)):HRel I B (jep (tab.getD tr.length []) st0 tr) (jac st0 tr) w:=by
 have key:∀x ob,find (jep (tab.getD tr.length []) st0 tr) x=some ob->find (jao D st0 (later++r::tr)) x=some ob∧x<jac st0 tr∧ob.lt (jac st0 tr):=by
  intro x ob hf
  have sub:find (jaw st0 tr) x=some ob∧(find (jaw st0 tr) x=some ob->find (jao D st0 tr) x=some ob):=by
   unfold jep at hf;split at hf
   ·rename_i hal;rw[jfb (p:=fun x=>jas (fun j=>(tab.getD tr.length []).contains j) st0 tr x)]at hf;split at hf
    ·rename_i hb;exact⟨hf,fun hf=>jCD h.base h.bef h.gt hal (zp _) x ob hf hb⟩
    ·cases hf
   ·rw[jfb (p:=fun x=>jas (fun j=>(tab.getD tr.length []).contains j) st0 tr x&&jcV st0 (tab.getD tr.length []) x tr)]at hf;split at hf
    ·rename_i hb;simp only[zk]at hb;exact⟨hf,fun hf=>jw8 h.low h.base h.bef h.gt hf hb.1 hb.2⟩
    ·cases hf
  have hf:=sub.1
  ·have h1:=keys h.gt h.base x ob hf;refine⟨?_,h1⟩;have h2:=sub.2 hf;rw[jr6 (tr:=r::tr) (show x<r.nx from zG h1.1 h.ok.nx_le) hno h.good];simp only[jao,h.out,z3,if_false];exact h2
 exact⟨fun x ob hf=>⟨(key x ob hf).2.1,(key x ob hf).2.2,(hinv.heap.ok x ob (key x ob hf).1).2.2⟩,fun x ob x' ob' k hf hf'=>hinv.heap.apart x ob x' ob' k (key x ob hf).1 (key x' ob' hf').1,hinv.heap.glob⟩
def jzv (h:At (n0:=n0) P sp N L tab st0 D D' later r tr o) (hk:r.kd=2) (hinv:Inv ds L st0 B0 B N n0 I0 w0 (later++r::tr) D a w I) (hns:jaz o.op=false) (hnl:jaG o.op=false) {lf:Bool} (hf:jbk tab tr.length lf false 0 L=true):HRel I B (jaw st0 tr) (jac st0 tr) w:=by
 have hbefore:=jhf h hf
 have hall:∀l1 rk l2 ok,later=l1++rk::l2->RecOK P sp N L tab st0 (l2++r::tr) rk ok->D (l2++r::tr).length=true->rk.kd≠2∧rk.nw=[]:=fun l1 rk l2 ok e hr hD=>by
  have q:=jqN h hk hns hnl hf l1 rk l2 ok e hr hD;exact⟨q.1,q.2.2 rfl⟩
 have e:jao D st0 (later++r::tr)=jaw st0 tr:=by
  rw[jjH (tr:=r::tr) hall h.good];simp only[jao,h.out,z3,if_false];exact(jfc hbefore (jhg h hns hnl (jbv h.ok hk).2.2.2) h.gt (zp _)).1
 have h1:=hinv.heap;rw[e]at h1;exact⟨fun x ob hf=>⟨(keys h.gt h.base x ob hf).1,(keys h.gt h.base x ob hf).2,(h1.ok x ob hf).2.2⟩,h1.apart,h1.glob⟩
def jDh (hsp:jam P sp) (h:At (n0:=n0) P sp N L tab st0 D D' later r tr o) (hinv:Inv ds L st0 B0 B N n0 I0 w0 (later++r::tr) D a w I) {K:Act->zr->Prop} {Q:Exit->Act->zr->Prop}
  (hK:∀I' a' w' B2,Inv ds L st0 B0 B2 N n0 I0 w0 (later++r::tr) D' a' w' I'->K a' w'):wpOp P L.toArray Q tr.length K a w:=by
 have hgt:=h.gt;have hreads:=jA2 h.good h.slots h.tabok h.closed h.out h.ok.op h.bef h.baseTm hinv;have ho:L.toArray[tr.length]?=some o:=by simpa using h.ok.op
 unfold wpOp;rw[ho];dsimp only;cases h.ok.kind with
 |skip g e =>
  rw[jdm h.slots h.tabok h.closed h.out h.ok.op h.bef hinv g];refine hK I _ _ B ?_;have:=jjL h hinv (by rw[e];exact(by decide:(0:Nat)≠2)) (by rw[e]) (by rw[e]) (by rw[e];rfl);rw[show r.v.val I=zJ by rw[e];rfl]at this;exact this
 |pure g ob hs ob' hk e =>
  rw[jdm h.slots h.tabok h.closed h.out h.ok.op h.bef hinv g];left;have hh:HRel I B [] (jac st0 tr) w:=⟨(fun _ _ hf=>by cases hf),(fun _ _ _ _ _ hf=>by cases hf),hinv.heap.glob⟩
  have hrun:=jd8 hh hreads hs ob';unfold g7;rw[hrun.1];refine hK I _ _ B (jjL h hinv (by rw[e];exact(by decide:(0:Nat)≠2)) (by rw[e]) (by rw[e]) ?_);have:=joo hk;have e2:r.nx=jac st0 tr:=by rw[e]
  rw[e2];exact this
 |built g hbo ob hs ob' hk e =>
  rw[jdm h.slots h.tabok h.closed h.out h.ok.op h.bef hinv g];left
  have hfo:∀x ob,find (jiw (tab.getD tr.length []) st0 tr) x=some ob->ob=.atom∧x<jac st0 tr∧jas (fun j=>(tab.getD tr.length []).contains j) st0 tr x=true∧jbU st0 tr x=true:=by
   intro x ob hf;unfold jiw at hf;rw[jpI]at hf;cases hy:find ((jaw st0 tr).filter fun x=>jas (fun j=>(tab.getD tr.length []).contains j) st0 tr x.1&&jbU st0 tr x.1) x with
   |none=>rw[hy]at hf;cases hf
   |some y =>
    rw[hy]at hf;cases hf;rw[jfb (p:=fun x=>jas (fun j=>(tab.getD tr.length []).contains j) st0 tr x&&jbU st0 tr x)]at hy;split at hy
    ·rename_i hp;simp only[zk]at hp;exact⟨rfl,(keys h.gt h.base x y hy).1,hp.1,hp.2⟩
    ·cases hy
  have hh:HRel I B (jiw (tab.getD tr.length []) st0 tr) (jac st0 tr) w:=by
   refine⟨fun x ob hf=>?_,fun x ob x' ob' k hf hf' _ hb=>?_,hinv.heap.glob⟩
   ·obtain⟨rfl,h1,h2,h3⟩:=hfo x ob hf;refine⟨h1,trivial,?_⟩;have e1:later++r::tr=(later++[r])++tr:=by simp
    refine hinv.one x ?_ ?_
    ·simp only[jaV,zk,qL];refine⟨zG h1 (xb h.ok.nx_le h.nx),?_⟩;rw[e1,jjE (by rw[<-e1];exact h.good) h1];exact jfr (fun j hj=>h.bef j (by simpa using hj)) _ _ h2
    ·rw[e1,jka (by rw[<-e1];exact h.good) h1];exact h3
   ·obtain⟨rfl,_⟩:=hfo x ob hf;cases hb
  have hrun:=jd8 hh hreads hs ob';unfold g7;rw[hrun.1];refine hK I _ _ B (jjL h hinv (by rw[e];exact(by decide:(0:Nat)≠2)) (by rw[e]) (by rw[e]) ?_);have:=joo hk;have e2:r.nx=jac st0 tr:=by rw[e]
  rw[e2];exact this
 |load g hp hl x xo hx hf hb hst ob hs ob' hk e =>
  rw[jdm h.slots h.tabok h.closed h.out h.ok.op h.bef hinv g];left;have hxl:=(keys h.gt h.base x xo hf).1;have hin:=jw8 h.low h.base h.bef h.gt hf hb hst;have htl:=(jr5 h.ok.op hl hp hx hf (by rw[e]) h.low h.tabok h.closed h.out hxl hin h.good).1;have hok:=hinv.heap.ok x xo htl
  have hh:HRel I B [(x,xo)] (jac st0 tr) w:=by
   refine⟨fun y oy hy=>?_,fun y oy y' oy' k hy hy' hne hby=>?_,hinv.heap.glob⟩
   ·simp only[find]at hy;split at hy
    ·rename_i e1;subst e1;cases hy;exact⟨hxl,(keys h.gt h.base x xo hf).2,hok.2.2⟩
    ·cases hy
   ·simp only[find]at hy hy';split at hy
    ·rename_i e1;subst e1;rw[if_neg hne]at hy';cases hy'
    ·cases hy
  have hrun:=jd8 hh hreads hs ob';unfold g7;rw[hrun.1];refine hK I _ _ B (jjL h hinv (by rw[e];exact(by decide:(0:Nat)≠2)) (by rw[e]) (by rw[e]) ?_);have:=joo hk;have e2:r.nx=jac st0 tr:=by rw[e]
  rw[e2];exact this
 |mono g hp hnl hm res hs ob hk hnk e =>
  have hno:=jw9 h hp hnl;rw[jdm h.slots h.tabok h.closed h.out h.ok.op h.bef hinv g];left;have hsnd:=jcQ hsp (jus h hinv hno) hinv.le hreads hs ob;rw[hm]at hsnd;refine hsnd K Q fun I' w' hl=>?_;have ev:r.v=res.v:=by rw[e]
  have en:r.nw=jbf (jac st0 tr) res.hp:=by rw[e]
  have ex:r.nx=res.nx:=by rw[e]
  have hsub:∀x ob,find r.nw x=some ob->find res.hp x=some ob∧jac st0 tr<=x:=fun x ob hf=>by
   rw[en,jhe]at hf;split at hf
   ·rename_i hle;exact⟨hf,by simpa [xt]using hle⟩
   ·cases hf
  obtain⟨B2,g,hhB⟩:=hl.heap
  have:=juq h hinv hno (by rw[e];exact(by decide:(1:Nat)≠2)) (by rw[ev,ex];exact joo hk) (fun x ob hf=>by rw[ex];rw[en]at hf;exact(jfT hk hf).2) hl.agree hl.below (hl.mono rfl) g
   (by rw[ex];exact hhB.sub fun k o hf=>(hsub k o hf).1) (fun x ob k hf hb=>hl.fresh rfl x ob k (hsub x ob hf).2 (hsub x ob hf).1 hb)
  have e3:res.v.val I'=r.v.val (jbY I I' (jac st0 tr) r.nx):=by
   rw[ev];exact(V.val_agree (jdR hl.agree) (by rw[ex];exact hl.lt)).symm
  rw[e3];exact hK _ _ _ _ this
 |mload g hp hnl hmk hal hm res hs ob hk e =>
  have hno:=jCE h hmk;rw[jdm h.slots h.tabok h.closed h.out h.ok.op h.bef hinv g];left;have hsnd:=jcQ hsp (jus h hinv hno) hinv.le hreads hs ob;rw[hm]at hsnd;refine hsnd K Q fun I' w' hl=>?_;have ev:r.v=res.v:=by rw[e]
  have en:r.nw=jbf (jac st0 tr) res.hp:=by rw[e]
  have ex:r.nx=res.nx:=by rw[e]
  have hsub:∀x ob,find r.nw x=some ob->find res.hp x=some ob∧jac st0 tr<=x:=fun x ob hf=>by
   rw[en,jhe]at hf;split at hf
   ·rename_i hle;exact⟨hf,by simpa [xt]using hle⟩
   ·cases hf
  obtain⟨B2,g,hhB⟩:=hl.heap
  have:=juq h hinv hno (by rw[e];exact(by decide:(1:Nat)≠2)) (by rw[ev,ex];exact joo hk) (fun x ob hf=>by rw[ex];rw[en]at hf;exact(jfT hk hf).2) hl.agree hl.below (hl.mono rfl) g
   (by rw[ex];exact hhB.sub fun k o hf=>(hsub k o hf).1) (fun x ob k hf hb=>hl.fresh rfl x ob k (hsub x ob hf).2 (hsub x ob hf).1 hb)
  have e3:res.v.val I'=r.v.val (jbY I I' (jac st0 tr) r.nx):=by
   rw[ev];exact(V.val_agree (jdR hl.agree) (by rw[ex];exact hl.lt)).symm
  rw[e3];exact hK _ _ _ _ this
 |effect g hp hnl hmo mk hf res hs ob hk hmk e =>
  rw[jdm h.slots h.tabok h.closed h.out h.ok.op h.bef hinv g];left;have ev:r.v=res.v:=by rw[e]
  have eh:r.hp=res.hp:=by rw[e]
  have ex:r.nx=res.nx:=by rw[e]
  have ekd:r.kd=2:=by rw[e]
  cases mk with
  |false =>
   have hsnd:=jcQ hsp (jzv h ekd hinv hp hnl hf) hinv.le hreads hs ob;refine hsnd K Q fun I' w' hl=>?_;obtain⟨B2,g0,hhB⟩:=hl.heap;have g:=g0.weak (w1:=w);have:=jxX h hinv ekd hp hnl hf (by rw[ev,ex];exact joo hk) (fun x ob hf=>by rw[ex];rw[eh]at hf;exact(jfT hk hf).2) hl.agree hl.below g (by rw[ex,eh];exact hhB)
   have e3:res.v.val I'=r.v.val (jbY I I' (jac st0 tr) r.nx):=by
    rw[ev];exact(V.val_agree (jdR hl.agree) (by rw[ex];exact hl.lt)).symm
   rw[e3];exact hK _ _ _ _ this
  |true =>
   have hnw:∀x ob,find r.hp x=some ob->x<r.nx∧ob.allB (fun x=>xD x r.nx&&(qN (jac st0 tr) x||jas (fun j=>(tab.getD tr.length []).contains j) st0 tr x))=true:=fun x ob hf=>by rw[ex];rw[eh]at hf;exact jfT hk hf
   have hdep:∀x ob,find r.hp x=some ob->jjB ob=true->find (jaw st0 tr) x=some ob∧ob.isT=false:=fun x ob hf hd=>by
    have hmk:jqM (jaw st0 tr) (jac st0 tr) (jbO L tab st0 o tr) res.hp=true:=hmk;unfold jqM at hmk;split at hmk
    ·cases hmk
    ·rename_i t ht;have htg:r.tg=some t:=by rw[e];exact ht
     rw[eh]at hf;have h1:=zy.1 hmk _ (jlg hf);simp only[hd,gP,ky,zk,qL]at h1;obtain⟨⟨h2,h3⟩,h4⟩:=h1;split at h4
     ·rename_i ob' hob;have hne:x≠t:=fun e=>by subst e;simp at h2
      have h5:=(jop h.ok ekd htg).1 x ob' hne h3 (by cases ob' <;> first|rfl|cases h4) hob;rw[eh,hf]at h5;cases h5;exact⟨hob,by cases ob<;>first|rfl|cases h4⟩
     ·cases h4
   have hpl:=jA4 h hinv ekd hp hnl hf (fun x ob hf=>(hnw x ob hf).1);have hsnd:=jcQ hsp hpl.1 hpl.2 hreads hs ob;refine hsnd K Q fun I' w' hl=>?_;obtain⟨B2,g0,hhB⟩:=hl.heap;have g:=g0.weak (w1:=w);obtain⟨B4,this⟩:=jwa h hinv ekd hp hnl hf (by rw[ev,ex];exact joo hk) hnw hdep hl.agree hl.below g (by rw[ex,eh];exact hhB)
   have e3:res.v.val I'=r.v.val (jbY I I' (jac st0 tr) r.nx):=by
    rw[ev];exact(V.val_agree (jdR hl.agree) (by rw[ex];exact hl.lt)).symm
   rw[e3];exact hK _ _ _ _ this
def DL (l:Array Bool) (j:Nat):Bool:=l.getD j false
def jxY {l:Array Bool} {i:Nat} (hc:jcE L (DL l)) (hb:∀o,L[i]?=some o->∀e∈o.after.toList,yY .any e=true->DL l e.on=true):jcE L (DL (l.setIfInBounds i true)):=by
 intro j o ho hD e he hbd
 by_cases hij:j=i
 ·subst hij;exact getD_set_true (hb o ho e he hbd)
 ·unfold DL at hD;rw[getD_set_ne false (Ne.symm hij)]at hD;exact getD_set_true (hc j o ho hD e he hbd)
def jpK {l:Array Bool} (hl:l.size=L.length) (he:jeb 0 L=true) (hr:jD .any L.toArray l=[]):∀j,j<L.length->DL l j=true:=by
 intro j
 induction j using jo with
 |_ j ih =>
  intro hj;cases hD:DL l j with
  |true=>rfl
  |false =>
   exfalso
   have hmem:j∈jD .any L.toArray l:=by
    rw[kD];refine⟨?_,L[j],by simp[hj],fun e hem hb=>?_⟩
    ·unfold DL at hD;simp only[xO,xm (show j<l.size by omega),z9]at hD ⊢;exact hD
    ·have:=jjF he j L[j] (by simp[hj]) e (by simpa using hem) hb;exact ih e.on (by omega) (by omega)
   rw[hr]at hmem;cases hmem
def count_set {l:Array Bool} {i:Nat} (hi:i<l.size) (h:l[i]=false):(l.setIfInBounds i true).toList.count false+1=l.toList.count false:=by
 have h1:(l.setIfInBounds i true).toList=l.toList.set i true:=by simp
 rw[h1,List.count_set (by simpa using hi)];have h2:l.toList[i]'(by simpa using hi)=false:=by simpa using h
 have h3:0<l.toList.count false:=fM.2 (by rw[<-h2];exact zW _);rw[show l.toList[i]'(by simpa using hi)=false from h2];simp only[beq_self_eq_true,if_true,show(true==false)=false from rfl,z3,if_false];omega
def jDi (hsp:jam P sp) {T:List Rec} (hg:GoodTr P sp N L tab st0 T) (hlen:T.length=L.length) (hs:jcG L tab 0 L=true) (he:jeb 0 L=true) (ht:jcT L tab) (hbase:jld st0)
  (hbt:∀t v,jaP st0.tm t=some v->v.lt st0.nx) (hn0:n0<=st0.nx) {Q:Exit->Act->zr->Prop}
  (hQ:∀D I a w B,(∀j,j<L.length->D j=true)->Inv ds L st0 B0 B N n0 I0 w0 T D a w I->Q .normal a w) :
  ∀(fuel:Nat) (l:Array Bool) (a:Act) (w:zr) (I:Env) (B:Kd),l.size=L.length->jcE L (DL l)->l.toList.count false<=fuel->Inv ds L st0 B0 B N n0 I0 w0 T (DL l) a w I->wpAny P .any L.toArray Q fuel l a w:=by
 intro fuel
 induction fuel with
 |zero =>
  intro l a w I B hl hc hcount hinv
  have hall:∀j,j<l.size->l[j]?≠some false:=fun j hj h=>by
   have hm:false∈l.toList:=by rw[Array.mem_toList_iff];exact Array.mem_of_getElem? h
   have:=fM.2 hm;omega
  have hr:jD .any L.toArray l=[]:=by
   apply List.eq_nil_iff_forall_not_mem.2;intro j hj;obtain⟨h0,o,ho,_⟩:=kD.1 hj
   have hlt:j<l.size:=by
    have:=(zM.1 ho).1;simp at this;omega
   apply hall j hlt;simp only[xO,xm hlt,z9]at h0;rw[xm hlt,h0]
  exact⟨hr,hQ _ I a w B (jpK hl he hr) hinv⟩
 |succ fuel ih =>
  intro l a w I B hl hc hcount hinv;refine⟨fun hr=>hQ _ I a w B (jpK hl he hr) hinv,fun i hi=>?_⟩;obtain⟨h0,o,ho,hed⟩:=kD.1 hi;have ho':L[i]?=some o:=by simpa using ho
  have hiL:i<L.length:=(List.getElem?_eq_some_iff.1 ho').1;have hil:i<l.size:=by omega
  have hlf:l[i]=false:=by simpa [hil]using h0
  have hedge:∀o',L[i]?=some o'->∀e∈o'.after.toList,yY .any e=true->DL l e.on=true:=fun o' ho'' e hem hb=>by
   rw[ho']at ho'';cases ho'';exact hed e (by simpa using hem) hb
  obtain⟨later,r,tr,o2,rfl,htl,hrec⟩:=jCC hg (show i<T.length by omega);subst htl
  have hoo:o2=o:=by
   have:=hrec.op;rw[ho']at this;exact(yf this).symm
  subst hoo
  have hat:At (n0:=n0) P sp N L tab st0 (DL l) (DL (l.setIfInBounds tr.length true)) later r tr o2:=by
   refine⟨hg,hlen,hrec,hs,he,ht,hc,?_,fun j hj=>jcU ht hc _ j hedge hj,?_,fun j hj=>?_,hbase,hbt,hn0⟩
   ·unfold DL;simp[hil,hlf]
   ·unfold DL;simp[hil]
   ·unfold DL;exact getD_set_ne false (Ne.symm hj)
  refine jDh hsp hat hinv fun I' a' w' B2 hinv'=>?_;have:=count_set hil hlf;exact ih _ a' w' I' B2 (by simpa using hl) (jxY hc hedge) (by omega) hinv'
end
end Go.Sx
end

section
open Go.RowKit
namespace Go.Sx
section
variable [Globs] {P:zP} {sp:jab} {B:Kd} {N n0:Nat} {L:List qu} {tab:List (List Nat)} {st0:St} {I0:Env} {w0:zr} {ds:List yK}
def jut {D:Nat->Bool} {t:Nat}:∀{T:List Rec},(∀j,j<T.length->D j=true)->jbp L D st0 t T=jaP (juo L st0 T) t
 |[],_=>rfl
 |r::tr,h=>by
  have ih:=jut (D:=D) (t:=t) (T:=tr) (fun j hj=>h j (by simp;omega));simp only[jbp,juo];rw[h tr.length (by simp)];cases hd:jcr L tr.length with
  |none=>simp[ih]
  |some d =>
   simp only[jaP]
   by_cases e:d=t
   ·simp[e]
   ·simp[e,ih]
def jA5 {D:Nat->Bool} {T:List Rec} (hg:GoodTr P sp N L tab st0 T):(∀j,j<T.length->D j=true)->jao D st0 T=jaw st0 T:=by
 induction hg with
 |nil=>exact fun _=>rfl
 | @cons tr r hgt o hr ih =>
  intro h;have ih:=ih (fun j hj=>h j (by simp;omega));simp only[jao]
  show _=r.hp
  rw[if_pos (h tr.length (by simp))]
  by_cases hk:r.kd=2
  ·rw[if_pos hk]
  ·rw[if_neg hk,ih,(jbX hr hk).1]
def jzw (hm:P.follows .mixedOrders=true) (hsp:jam P sp) {ops:Array qu} {st:St} {k:St->Prop} {I:Env} {a:Act} {w:zr} {Q:Exit->Act->zr->Prop} (hd:jup P sp N ops st k) (hr:RelD ds I B N n0 st a w) (hag:jah n0 I0 I) (hbl:Bel B w0 w)
  (hK:∀(I':Env) (st':St) (a':Act) (w':zr),RelD ds I' B N n0 st' a' w'->jah n0 I0 I'->Bel B w0 w'->k st'->Q .normal a' w') :
  wpAny P .any ops Q ops.size (xZ ops.size false) a { w with drawn:=w.drawn+1 }:=by
 unfold jup at hd;split at hd
 ·rename_i hok;simp only[zk]at hok;have htab:jcT ops.toList (jok ops.toList []):=jw5 _ _ [] (by simp) (by intro i k hk;simp[zb]at hk);obtain⟨T,hk,hg,hlen⟩:=jr2 ops.toList [] _ hd .nil (by simp) (by simp);obtain⟨B1,g1,hh1⟩:=hr.heap;have hB1:Old B1 w:=g1.old hr.le;have hbase:jld st:=fun x o hf=>⟨(hh1.ok x o hf).1,(hh1.ok x o hf).2.1⟩
  have hbt:∀t v,jaP st.tm t=some v->v.lt st.nx:=fun t v h=>(hr.tm t v h).1;have hnx:=jmM hg
  have hal:∀x,x<st.nx->jaV st T (DL (xZ ops.size false)) x=true:=fun x hx=>by
   simp only[jaV,zk,qL];exact⟨zG hx hnx,jr3 hx hg⟩
  have hF:∀j,DL (xZ ops.size false) j=false:=fun j=>by
   unfold DL;simp only[xO,Array.getElem?_replicate];split<;>rfl
  have hslot:∀t (T:List Rec),jbp ops.toList (DL (xZ ops.size false)) st t T=jaP st.tm t:=fun t T=>by
   induction T with
   |nil=>rfl
   |cons r tr ih=>simp only[jbp,hF];simpa using ih
  have hheap:∀(T:List Rec),jao (DL (xZ ops.size false)) st T=st.hp:=fun T=>by
   induction T with
   |nil=>rfl
   |cons r tr ih=>simp only[jao,hF];simpa using ih
  have hbw:yn w.heap.size w { w with drawn:=w.drawn+1 }:=⟨rfl,rfl,rfl,zp _,fun _ _=>rfl⟩
  have hinv:Inv ds ops.toList st B B1 N n0 I0 w0 T (DL (xZ ops.size false)) a { w with drawn:=w.drawn+1 } I:=by
   refine⟨fun t v hv=>?_,hr.size,hr.defers,?_,fun x o hf=>?_,hB1,hag,⟨hbl.os,hbl.tape,hbl.output,hbl.size,hbl.block⟩,fun x=>?_,g1.later (zp _),hr.le⟩
   ·rw[hslot]at hv;exact⟨V.allB_of_lt hal (hr.tm t v hv).1,(hr.tm t v hv).2⟩
   ·rw[hheap];exact(hh1.below hbw hB1).mono_nx hnx
   ·rw[hheap]at hf;exact⟨hal x (hbase x o hf).1,O.allB_of_lt hal (hbase x o hf).2⟩
   ·have hfb:∀(T:List Rec),GoodTr P sp N ops.toList (jok ops.toList []) st T->x<jac st T->jas (DL (xZ ops.size false)) st T x=true->x<st.nx:=fun T hg=>by
     induction hg with
     |nil=>exact fun h _=>h
     | @cons tr r h' o hr ih =>
      intro hlt hb;simp only[jas]at hb;split at hb
      ·rw[hF]at hb;cases hb
      ·rename_i hb';exact ih (Nat.lt_of_not_le fun hc=>by rw[x6 hc]at hb';cases hb') hb
    intro hx hb;simp only[jaV,zk,qL]at hx;have hlt:=hfb T hg hx.1 hx.2;rw[jla hlt hg]at hb;exact C.one_val (c:=.o x) hh1 hb
  have:=jDi (Q:=Q) (n0:=n0) (B0:=B) (I0:=I0) (w0:=w0) hsp hg hlen hok.1 hok.2 htab hbase hbt hr.n0 (fun D I' a' w' B2 hall hi=>?_) ops.size (xZ ops.size false) a _ I B1 (by simp) (fun j o _ hD=>by rw[hF]at hD;cases hD) (by simp) hinv
  ·simpa using this
  ·have hall':∀j,j<T.length->D j=true:=fun j hj=>hall j (by omega);refine hK I' (jCf ops.toList st T) a' w' ⟨fun t v hv=>?_,hi.size,hi.defers,?_,hi.le0,xb hr.n0 hnx⟩ hi.agree hi.below hk
   ·have h1:=hi.tm t v (by rw[jut hall'];exact hv);refine⟨V.lt_of_allB (fun x hx=>?_) h1.1,h1.2⟩;simp only[jaV,zk,qL]at hx;exact hx.1
   ·have:=hi.heap;rw[jA5 hg hall']at this;exact⟨B2,hi.gr,this⟩
 ·exact hd.elim
end
end Go.Sx
end

section
open Go.RowKit
namespace Go.Sx
def jxZ (ops:Array qu) (listed:Array Bool) (i:Nat):Bool :=km ops&&kR .any ops listed i&&(jD .any ops listed).contains i
def jcs [Globs] (P:zP) (sp:jab) (N:Nat) (ops:Array qu) (st:St) (k:St->Prop):Prop:=jup P sp N ops st k
section
variable [Globs] {P:zP} {sp:jab} {B:Kd} {N n0:Nat} {I:Env} {a:Act} {w:zr} {hp:Hp} {nx:Nat} {rd:zZ->Option V} {ds:List yK}
def jx0 {ops:Array qu} {l:Array Bool} {i:Nat} (h:jxZ ops l i=true):km ops=true∧kR .any ops l i=true∧i∈jD .any ops l:=by
 simp only[jxZ,zk]at h;exact⟨h.1.1,h.1.2,by simpa using h.2⟩
def jx1 {w0:zr} {I0:Env} (hm:P.follows .mixedOrders=true) (hsp:jam P sp) {ops:Array qu} {st:St} {k:St->Prop} {I:Env} {a:Act} {w:zr} {Q:Exit->Act->zr->Prop} (hQ:∀c a w,¬Q (.panic c) a w) (hd:jcs P sp N ops st k) (hr:RelD ds I B N n0 st a w) (hag:jah n0 I0 I) (hbl:Bel B w0 w)
  (hK:∀(I':Env) (st':St) (a':Act) (w':zr),RelD ds I' B N n0 st' a' w'->jah n0 I0 I'->Bel B w0 w'->k st'->Q .normal a' w') :
  wpAny P .any ops Q ops.size (xZ ops.size false) a { w with drawn:=w.drawn+1 }:=by
 exact jzw hm hsp hd hr hag hbl hK
def jbC {w0:zr} {I0:Env} (hm:P.follows .mixedOrders=true) (hsp:jam P sp):jdy P B N n0 I0 w0 (jcs P sp N):=by
 intro ds id ops st k I a w Q hd hr hag hbl hK;have h1:=wp_region_any (id:=id) hm (jx1 (Q:=fun e a w=>match e with | .normal=>Q .normal a w|_=>False) hm hsp (fun _ _ _ h=>h) hd hr hag hbl hK);refine wp_mono h1 ?_;intro e a w h;cases e<;>first|exact h|exact h.elim
end
end Go.Sx
end

section
open Go.RowKit
namespace Go.Sx
inductive A where
 |d (x:D)
 |s (l:List D)
 |r (c:Cont)
 |f (n:Nat)
inductive RV where
 |d (x:D)
 |s (l:List D)
 |row (ty:Nat) (c:Cont)
def toA (hp:Hp):V->Option A
 | .w (.c (.d x))=>some (.d x)
 | .w (.a l)=>(jbh l).map .s
 | .w (.c (.fn n []))=>some (.f n)
 | .w (.c (.o h))=>match(find hp h).bind O.cont with
  |some c=>match c.e with|0=>none|_+1=>some (.r c)
  |none=>none
 |_=>none
def jhW (hp:Hp):List V->Option (List A)|[]=>some []|v::l=>match toA hp v,jhW hp l with|some a,some r=>some (a::r)|_,_=>none
def jjM (n:Nat):A->V| .d x=>.w (.c (.d x))| .s l=>.w (.a (l.map C.d))| .r _=>.w (.c (.o n))| .f g=>.w (.c (.fn g []))
def jdA:Nat->List A->List V|_,[]=>[]|n,a::l=>jjM n a::jdA (n+1) l
def jfU:Nat->List A->Hp|_,[]=>[]|n,.r c::l=>(n,.ext c)::jfU (n+1) l|n,_::l=>jfU (n+1) l
def rvW:Nat->List RV->List W|_,[]=>[]|n,.d x::l=>.c (.d x)::rvW n l|n,.s c::l=>.a (c.map C.d)::rvW n l|n,.row _ _::l=>.c (.o n)::rvW (n+1) l
def jhX:Nat->List RV->Hp->Hp|_,[],hp=>hp|n,.row ty c::l,hp=>jhX (n+1) l ((n,.row ty c)::hp)|n,.d _::l,hp=>jhX n l hp|n,.s _::l,hp=>jhX n l hp
def jer:Nat->List RV->Nat|n,[]=>n|n,.row _ _::l=>jer (n+1) l|n,.d _::l=>jer n l|n,.s _::l=>jer n l
def jtz (g:List A->Option (Prop × List RV)):Spec:=fun vs hp nx =>
 match jhW hp vs with|some asq=>(match g asq with|some (ob,rs)=>some (.leaf ⟨ob,jb7 (rvW nx rs),jhX nx rs hp,jer nx rs⟩)|none=>none)|none=>none
def juu:List D->List D->Prop->Prop|[],[],k=>k|x::l,y::m,k=>mD y x∧juu l m k|_,_,_=>False
def jnE [Globs] {k:Prop}:∀{l m:List D},juu l m k->l=m∧k
 |[],[],h=>⟨rfl,h⟩
 |x::l,y::m,h=>by
  have:=jnE h.2;exact⟨by rw[jmL h.1,this.1],this.2⟩
 |[],_::_,h=>h.elim
 |_::_,[],h=>h.elim
def jes (hp:Hp):List RV->List W->List Nat->Prop|[],[],_=>True| .d x::rs,.c (.d y)::ws,us=>mD x y∧jes hp rs ws us| .s l::rs,.a cs::ws,us=>(match jbh cs with|some ds=>juu ds l (jes hp rs ws us)|none=>False)| .row ty c::rs,.c (.o h)::ws,us=>(match us.contains h with|true=>False|false=>match find hp h with|some (.row ty' c')=>(match zF ty' ty with|true=>jek c c'∧jes hp rs ws (h::us)|false=>False)|_=>False)| .row _ c::rs,.c (.d (.v (.slice none 0 0)))::ws,us=>Ob (c.n=0)∧jes hp rs ws us|_,_,_=>False
def jCg (rs:List RV) (v:V) (hp:Hp):Prop:=match v with| .w u=>jes hp rs [u] []| .t [_]=>False| .t l=>jes hp rs l []
def jdn {P:zP} {f:Nat} {fn:jL} {body:jn} (hf:P.funcs[f]?=some fn) (hb:fn.body=some body) (hn:(fn.name == "runtime.NumGoroutine")=false) (args:Array zs) (w:zr) :
  (callFunc f args).run P w=.ok (.enter f args) w:=by
 unfold callFunc;simp only[zq,run_program,zn,hf,hn,z3,if_false,hb,Option.isNone_some];rfl
def jaF.sound [Globs] {P:zP} {f:Nat} {fn:jL} {body:jn} {M:Bool} {S:Spec} (h:jaF P f M S) (hf:P.funcs[f]?=some fn) (hb:fn.body=some body) (hn:(fn.name == "runtime.NumGoroutine")=false):RunOK P f M S:=by
 rcases h with h|h
 ·exact h
 ·refine⟨jdn hf hb hn,fun I B w args hp nx t hS hob hlt hh hB=>?_⟩;obtain⟨ob,v,_,_,hrun⟩:=h I B w args hp nx t hS hob hlt hh hB;rw[jdn hf hb hn]at hrun;cases hrun
section
variable [Globs] {P:zP} {sp:jab} {I:Env} {B:Kd} {nx:Nat} {hp:Hp} {w w':zr}
def jr8 (hh:HRel I B hp nx w):∀(vs:List V) (asq:List A) (n:Nat) (I0:Env),jhW hp vs=some asq->(∀i v,vs[i]?=some v->I0 (n+i)=v.val I) ->
  (jdA n asq).map (V.val I0)=vs.map (V.val I)∧asq.length=vs.length∧(∀x∈jdA n asq,V.lt (n+asq.length) x) ∧ ∀h o,find (jfU n asq) h=some o->n<=h∧h<n+asq.length∧∃c,o=.ext c∧jaH w (I0 h) c∧jbK (fun k=>k<w.heap.size) (I0 h)
 |[],asq,n,I0,h,_=>by
  simp only[jhW,zj]at h;subst h;exact⟨rfl,rfl,(fun _ h=>by cases h),fun _ _ h=>by cases h⟩
 |v::vs,asq,n,I0,h,hI=>by
  simp only[jhW]at h;split at h
  ·rename_i a r ha hr;cases h;have ih:=jr8 hh vs r (n+1) I0 hr (fun i v hv=>by rw[show n+1+i=n+(i+1) by omega];exact hI (i+1) v (by simpa using hv));have h0:=hI 0 v rfl;rw[xH]at h0
   have hv:(jjM n a).val I0=v.val I∧V.lt (n+(r.length+1)) (jjM n a)∧∀c,a=.r c->jaH w (I0 n) c∧jbK (fun k=>k<w.heap.size) (I0 n):=by
    unfold toA at ha;split at ha
    ·cases ha;exact⟨rfl,trivial,fun _ h=>by cases h⟩
    ·rename_i l;cases hd:jbh l with
     |none=>simp[hd]at ha
     |some ds =>
      simp only[hd,qk,zj]at ha;subst ha;rw[jbS hd];refine⟨?_,(fun x hx=>?_),fun _ h=>by cases h⟩
      ·simp[jjM,V.val,W.val,C.val,xS]
      ·obtain⟨y,_,rfl⟩:=qn.1 hx;trivial
    ·cases ha;exact⟨rfl,(fun _ h=>by cases h),fun _ h=>by cases h⟩
    ·rename_i k;split at ha
     ·rename_i c hc;split at ha
      ·cases ha
      ·rename_i e he;cases ha;cases hf:find hp k with
       |none=>simp[hf]at hc
       |some o =>
        simp only[hf,zV]at hc;have hrow:=jcc (hh.ok k o hf).2.2 hc;have e0:I0 n=I k:=h0;refine⟨e0,(show n<n+(r.length+1) by omega),fun c' hc'=>?_⟩;cases hc';rw[e0];exact⟨hrow,jaH.lt hrow (by omega)⟩
     ·cases ha
    ·cases ha
   have hag:∀x,V.lt (n+1+r.length) x->V.lt (n+(r.length+1)) x:=fun x hx=>V.lt_mono (by omega) hx;refine⟨by simp only[jdA,zL,hv.1,ih.1],by simp[ih.2.1],fun x hx=>?_,fun h o hf=>?_⟩
   ·rcases qr.1 hx with rfl|hx
    ·simpa using hv.2.1
    ·simpa using hag x (ih.2.2.1 x hx)
   ·cases a with
    |r c =>
     simp only[jfU,find]at hf;split at hf
     ·rename_i e;subst e;cases hf;exact⟨zp _,by simp,c,rfl,hv.2.2 c rfl⟩
     ·have:=ih.2.2.2 h o hf;simp only[zB];exact⟨by omega,by omega,this.2.2⟩
    |d x=>have:=ih.2.2.2 h o hf;simp only[zB];exact⟨by omega,by omega,this.2.2⟩
    |s x=>have:=ih.2.2.2 h o hf;simp only[zB];exact⟨by omega,by omega,this.2.2⟩
    |f x=>have:=ih.2.2.2 h o hf;simp only[zB];exact⟨by omega,by omega,this.2.2⟩
  ·cases h
def joq (h:jby B w) (hB:Old B w):jby (fun k=>k<w.heap.size) w:=h.sub fun k hk=>hB k (.inl hk)
def HRel.add1 (h:HRel I B hp nx w) {v:zs} {o:O} (hl:o.lt (nx+1)) (ho:o.ok (upd I nx v) B w nx) (hap:∀k o' b,find hp k=some o'->o'.blk (I k)=some b->o.blk v≠some b) :
  HRel (upd I nx v) B ((nx,o)::hp) (nx+1) w:=by
 have h1:=(h.agree (jar I nx v)).mono_nx (xu nx);refine⟨?_,?_,h1.glob⟩
 ·intro k o' hf;simp only[find]at hf;split at hf
  ·rename_i e;subst e;cases hf;exact⟨by omega,hl,ho⟩
  ·exact h1.ok k o' hf
 ·intro k o1 k' o2 b hf hf' hne hb hb';simp only[find]at hf hf';split at hf
  ·rename_i e;subst e;cases hf;rw[if_neg hne]at hf';rw[upd_same]at hb;rw[jar I nx v k' (h.ok k' o2 hf').1]at hb';exact hap k' o2 b hf' hb' hb
  ·split at hf'
   ·rename_i e;subst e;cases hf';rw[upd_same]at hb';rw[jar I nx v k (h.ok k o1 hf).1]at hb;exact hap k o1 b hf hb hb'
   ·exact h1.apart k o1 k' o2 b hf hf' hne hb hb'
def jiy {B0:Kd} {hp':Hp} {nx':Nat} {I':Env} {m:Nat} {us0:List Nat} (hB0:∀k,k<m->B0.all k∨∀u o b,us0.contains u=false->find hp' u=some o->(∃ty c,o=.row ty c)->o.blk (I' u)=some b->b≠k) (hBm:∀k,B.all k->k<m) (hh':HRel I' B0 hp' nx' w') :
  ∀(rs:List RV) (ws:List W) (us:List Nat) (nx:Nat) (hp:Hp) (I:Env),(∀x,us0.contains x=true->us.contains x=true)->jes hp' rs ws us->HRel I B hp nx w' -> (∀k o b,find hp k=some o->o.blk (I k)=some b->b<m∨∃u∈us,∃ou,find hp' u=some ou∧ou.blk (I' u)=some b) ->
   ∃I'',jah nx I I''∧HRel I'' B (jhX nx rs hp) (jer nx rs) w'∧nx<=jer nx rs∧(∀x∈rvW nx rs,W.lt (jer nx rs) x)∧ws.map (W.val I')=(rvW nx rs).map (W.val I'') ∧ ∀h o k,find (jhX nx rs hp) h=some o->(nx<=h->o.blk (I'' h)=some k->m<=k)∧(h<nx->find hp h=some o)
 |[],ws,us,nx,hp,I,_,hf,hh,_=>by
  cases ws with
  |nil=>exact⟨I,jah.refl _ _,hh,zp _,(fun _ h=>by cases h),rfl,fun h o k hf=>⟨fun hle _=>absurd (hh.ok h o hf).1 (by omega),fun _=>hf⟩⟩
  |cons w ws=>cases w<;>exact hf.elim
 | .d x::rs,ws,us,nx,hp,I,hsu,hf,hh,hinv=>by
  match ws,hf with
  | .c (.d y)::ws,hf =>
   obtain⟨I'',h1,h2,h3,h4,h5,h6⟩:=jiy hB0 hBm hh' rs ws us nx hp I hsu hf.2 hh hinv;refine⟨I'',h1,h2,h3,fun u hu=>?_,?_,h6⟩
   ·rcases qr.1 hu with rfl|hu
    ·trivial
    ·exact h4 u hu
   ·rw[<-jmL hf.1];simp only[zL,rvW,h5];rfl
 | .s l::rs,ws,us,nx,hp,I,hsu,hf,hh,hinv=>by
  match ws,hf with
  | .a cs::ws,hf =>
   simp only[jes]at hf;split at hf
   ·rename_i ds hds;obtain⟨hl,hf2⟩:=jnE hf;subst hl;obtain⟨I'',h1,h2,h3,h4,h5,h6⟩:=jiy hB0 hBm hh' rs ws us nx hp I hsu hf2 hh hinv;refine⟨I'',h1,h2,h3,fun u hu=>?_,?_,h6⟩
    ·rcases qr.1 hu with rfl|hu
     ·intro x hx;obtain⟨y,_,rfl⟩:=qn.1 hx;trivial
     ·exact h4 u hu
    ·rw[jbS hds];simp only[zL,rvW,h5]
     congr 1
     simp[W.val,C.val,xS]
   ·exact hf.elim
 | .row ty c::rs,ws,us,nx,hp,I,hsu,hf,hh,hinv=>by
  match ws,hf with
  | .c (.o h)::ws,hq =>
   rw[jes]at hq;split at hq
   ·exact hq.elim
   ·rename_i hus;split at hq
    ·rename_i ty' c' hfind;split at hq
     ·rename_i hty;have hty:ty'=ty:=zi hty;subst hty;have hc:=(jb6 hq.1).symm;subst hc;have hok:=(hh'.ok h _ hfind).2.2
      have hblk:∀b,(I' h).ownBlock=some b->m<=b:=fun b hb=>by
       rcases kH b m with hlt|hge
       ·rcases hB0 b hlt with h1|h1
        ·exact absurd h1 (hok.2 b hb)
        ·have hu0:us0.contains h=false:=by
          cases hc:us0.contains h with
          |false=>rfl
          |true=>rw[hsu h hc]at hus;cases hus
         exact absurd rfl (h1 h _ b hu0 hfind ⟨_,_,rfl⟩ hb)
       ·exact hge
      have hadd:=hh.add1 (v:=I' h) (o:=.row ty' c') trivial (by
       refine⟨by rw[upd_same];exact hok.1,fun b hb hBb=>?_⟩;rw[upd_same]at hb;have:=hblk b hb;have:=hBm b hBb
       omega) (fun k o' b hk hb hb2=>by
        rcases hinv k o' b hk hb with h1|⟨u,hu,ou,h1,h2⟩
        ·have:=hblk b hb2;omega
        ·refine hh'.apart h _ u ou b hfind h1 (fun e=>?_) hb2 h2;subst e;rw[List.contains_iff_mem.2 hu]at hus;cases hus)
      obtain⟨I'',h1,h2,h3,h4,h5,h6⟩:=jiy hB0 hBm hh' rs ws (h::us) (nx+1) ((nx,.row ty' c')::hp) (upd I nx (I' h)) (fun x hx=>by have:=hsu x hx;simp at this ⊢;exact .inr this) hq.2 hadd (fun k o b hk hb=>by
       simp only[find]at hk;split at hk
       ·rename_i e;subst e;cases hk;rw[upd_same]at hb;exact .inr ⟨h,zw,_,hfind,hb⟩
       ·rw[jar I nx (I' h) k (hh.ok k o hk).1]at hb;rcases hinv k o b hk hb with h1|⟨u,hu,ou,h1,h2⟩
        ·exact .inl h1
        ·exact .inr ⟨u,zu _ hu,ou,h1,h2⟩)
      have hnx:I'' nx=I' h:=by rw[h1 nx (zo nx),upd_same]
      refine⟨I'',fun k hk=>by rw[h1 k (by omega),jar I nx (I' h) k hk],h2,by unfold jer;omega,fun u hu=>?_,?_,fun k o b hk=>?_⟩
      ·rcases qr.1 hu with rfl|hu
       ·exact zG (zo nx) h3
       ·exact h4 u hu
      ·simp only[zL,rvW,h5]
       congr 1
       exact hnx.symm
      ·have h7:=h6 k o b hk;refine⟨fun hle hb=>?_,fun hlt=>?_⟩
       ·by_cases hle2:nx+1<=k
        ·exact h7.1 hle2 hb
        ·have e:k=nx:=by omega
         subst e;have h8:=h7.2 (zo k);simp only[find,if_true]at h8;cases h8;rw[hnx]at hb;exact hblk b hb
       ·have h8:=h7.2 (by omega);simp only[find]at h8;rw[if_neg (by omega)]at h8;exact h8
     ·exact hq.elim
    ·exact hq.elim
  | .c (.d (.v (.slice none 0 0)))::ws,hf =>
   simp only[jes]at hf;have hn:=hf.1.h;have hfl:c.flat=[]:=List.eq_nil_of_length_eq_zero (by rw[Cont.flat_length,hn,Nat.zero_mul])
   have hadd:=hh.add1 (v:=.slice none 0 0) (o:=.row ty c) trivial (by
    refine⟨?_,fun b hb=>?_⟩
    ·rw[upd_same,hfl,hn];exact xU w' 0 ty c.e
    ·rw[upd_same]at hb;cases hb) (fun k o' b hk hb hb2=>by cases hb2)
   obtain⟨I'',h1,h2,h3,h4,h5,h6⟩:=jiy hB0 hBm hh' rs ws us (nx+1) ((nx,.row ty c)::hp) (upd I nx (.slice none 0 0)) hsu hf.2 hadd (fun k o b hk hb=>by
    simp only[find]at hk;split at hk
    ·rename_i e;subst e;cases hk;rw[upd_same]at hb;cases hb
    ·rw[jar I nx _ k (hh.ok k o hk).1]at hb;exact hinv k o b hk hb)
   have hnx:I'' nx=.slice none 0 0:=by rw[h1 nx (zo nx),upd_same]
   refine⟨I'',fun k hk=>by rw[h1 k (by omega),jar I nx _ k hk],h2,by unfold jer;omega,fun u hu=>?_,?_,fun k o b hk=>?_⟩
   ·rcases qr.1 hu with rfl|hu
    ·exact zG (zo nx) h3
    ·exact h4 u hu
   ·simp only[zL,rvW,h5]
    congr 1
    exact hnx.symm
   ·have h7:=h6 k o b hk;refine⟨fun hle hb=>?_,fun hlt=>?_⟩
    ·by_cases hle2:nx+1<=k
     ·exact h7.1 hle2 hb
     ·have e:k=nx:=by omega
      subst e;have h8:=h7.2 (zo k);simp only[find,if_true]at h8;cases h8;rw[hnx]at hb;cases hb
    ·have h8:=h7.2 (by omega);simp only[find]at h8;rw[if_neg (by omega)]at h8;exact h8
end
end Go.Sx
end

section
open Go.RowKit
namespace Go.Sx
def O.own:O->Bool| .box _ cs=>(cs.all fun c=>match c with| .d _=>true|_=>false)| .row _ _=>true|_=>false
section
variable [Globs] {P:zP} {sp:jab}
end
end Go.Sx
end

section
open Go.RowKit
namespace Go.Sx
def toAK (q:Option Cont) (hp:Hp) (v:V):Option A :=match q with|none=>toA hp v|some c0=>match v.nils?,c0.n,c0.e with|true,0,_+1=>some (.r c0)|_,_,_=>toA hp v
def jpL:List (Option Cont)->Hp->List V->Option (List A)|_,_,[]=>some []|qs,hp,v::l=>match toAK (qs.headD none) hp v,jpL qs.tail hp l with|some a,some r=>some (a::r)|_,_=>none
def jaK (qs:List (Option Cont)) (g:List A->Option (Prop × List RV)):Spec:=fun vs hp nx =>
 match jpL qs hp vs with|some asq=>(match g asq with|some (ob,rs)=>some (.leaf ⟨ob,jb7 (rvW nx rs),jhX nx rs hp,jer nx rs⟩)|none=>none)|none=>none
section
variable [Globs] {P:zP} {sp:jab} {I:Env} {B:Kd} {nx:Nat} {hp:Hp} {w w':zr}
def jCF {v:V} (h:v.nils?=true):v=.w (.c (.d (.v (.slice none 0 0)))):=by
 unfold V.nils? at h;split at h
 ·rfl
 ·cases h
def juv (hh:HRel I B hp nx w) {v:V} {a:A} (ha:toA hp v=some a) (n m:Nat) (I0:Env) (h0:I0 n=v.val I) :
  (jjM n a).val I0=v.val I∧V.lt (n+(m+1)) (jjM n a)∧∀c,a=.r c->jaH w (I0 n) c∧jbK (fun k=>k<w.heap.size) (I0 n):=by
 unfold toA at ha;split at ha
 ·cases ha;exact⟨rfl,trivial,fun _ h=>by cases h⟩
 ·rename_i l;cases hd:jbh l with
  |none=>simp[hd]at ha
  |some ds =>
   simp only[hd,qk,zj]at ha;subst ha;rw[jbS hd];refine⟨?_,(fun x hx=>?_),fun _ h=>by cases h⟩
   ·simp[jjM,V.val,W.val,C.val,xS]
   ·obtain⟨y,_,rfl⟩:=qn.1 hx;trivial
 ·cases ha;exact⟨rfl,(fun _ h=>by cases h),fun _ h=>by cases h⟩
 ·rename_i k;split at ha
  ·rename_i c hc;split at ha
   ·cases ha
   ·rename_i e he;cases ha;cases hf:find hp k with
    |none=>simp[hf]at hc
    |some o =>
     simp only[hf,zV]at hc;have hrow:=jcc (hh.ok k o hf).2.2 hc;have e0:I0 n=I k:=h0;refine⟨e0,(show n<n+(m+1) by omega),fun c' hc'=>?_⟩;cases hc';rw[e0];exact⟨hrow,jaH.lt hrow (by omega)⟩
  ·cases ha
 ·cases ha
def jzx (hh:HRel I B hp nx w) {q:Option Cont} {v:V} {a:A} (ha:toAK q hp v=some a) (n m:Nat) (I0:Env) (h0:I0 n=v.val I) :
  (jjM n a).val I0=v.val I∧V.lt (n+(m+1)) (jjM n a)∧∀c,a=.r c->jaH w (I0 n) c∧jbK (fun k=>k<w.heap.size) (I0 n):=by
 unfold toAK at ha;split at ha
 ·exact juv hh ha n m I0 h0
 ·rename_i c0;split at ha
  ·rename_i e hn hc he;cases ha;have hv:=jCF hn;subst hv;refine⟨h0,(show n<n+(m+1) by omega),fun c' hc'=>?_⟩;cases hc';rw[h0];refine⟨⟨none,0,by rw[hc];rfl,⟨by omega,fun _=>rfl⟩,fun h=>by omega⟩,fun a n cap h _=>?_⟩;cases h
  ·exact juv hh ha n m I0 h0
def jpM (hh:HRel I B hp nx w):∀(qs:List (Option Cont)) (vs:List V) (asq:List A) (n:Nat) (I0:Env),jpL qs hp vs=some asq->(∀i v,vs[i]?=some v->I0 (n+i)=v.val I) ->
  (jdA n asq).map (V.val I0)=vs.map (V.val I)∧asq.length=vs.length∧(∀x∈jdA n asq,V.lt (n+asq.length) x) ∧ ∀h o,find (jfU n asq) h=some o->n<=h∧h<n+asq.length∧∃c,o=.ext c∧jaH w (I0 h) c∧jbK (fun k=>k<w.heap.size) (I0 h)
 |_,[],asq,n,I0,h,_=>by
  simp only[jpL,zj]at h;subst h;exact⟨rfl,rfl,(fun _ h=>by cases h),fun _ _ h=>by cases h⟩
 |qs,v::vs,asq,n,I0,h,hI=>by
  simp only[jpL]at h;split at h
  ·rename_i a r ha hr;cases h;have ih:=jpM hh qs.tail vs r (n+1) I0 hr (fun i v hv=>by rw[show n+1+i=n+(i+1) by omega];exact hI (i+1) v (by simpa using hv));have h0:=hI 0 v rfl;rw[xH]at h0;have hv:=jzx hh ha n r.length I0 h0;have hag:∀x,V.lt (n+1+r.length) x->V.lt (n+(r.length+1)) x:=fun x hx=>V.lt_mono (by omega) hx;refine⟨by simp only[jdA,zL,hv.1,ih.1],by simp[ih.2.1],fun x hx=>?_,fun h o hf=>?_⟩
   ·rcases qr.1 hx with rfl|hx
    ·simpa using hv.2.1
    ·simpa using hag x (ih.2.2.1 x hx)
   ·cases a with
    |r c =>
     simp only[jfU,find]at hf;split at hf
     ·rename_i e;subst e;cases hf;exact⟨zp _,by simp,c,rfl,hv.2.2 c rfl⟩
     ·have:=ih.2.2.2 h o hf;simp only[zB];exact⟨by omega,by omega,this.2.2⟩
    |d x=>have:=ih.2.2.2 h o hf;simp only[zB];exact⟨by omega,by omega,this.2.2⟩
    |s x=>have:=ih.2.2.2 h o hf;simp only[zB];exact⟨by omega,by omega,this.2.2⟩
    |f x=>have:=ih.2.2.2 h o hf;simp only[zB];exact⟨by omega,by omega,this.2.2⟩
  ·cases h
def juw {f:Nat} {fn:jL} {body:jn} {qs:List (Option Cont)} {g:List A->Option (Prop × List RV)} (hm:P.follows .mixedOrders=true) (hsp:jam P sp) (hf:P.funcs[f]?=some fn) (hb:fn.body=some body) (hn:(fn.name == "runtime.NumGoroutine")=false)
  (h:∀asq ob rs,g asq=some (ob,rs)->ob->asq.length<=fn.ntmps∧∃fuel loops,sx P sp fn.ntmps asq.length fuel loops (jcs P sp fn.ntmps) body 0 [] ⟨jbo 0 (jdA 0 asq),jfU 0 asq,asq.length⟩ (jbN P fn.results.toList fun v hp _=>jCg rs v hp)) :
  jaF P f true (jaK qs g):=by
 refine .inl ⟨jdn hf hb hn,fun I B w args hp nx r hS hob hlt hh hB=>?_⟩;unfold jaK at hS;split at hS
 ·rename_i asq has;split at hS
  ·rename_i ob rs hg;cases hS;obtain⟨hlen,fuel,loops,hx⟩:=h asq ob rs hg hob;have hto:=jpM hh qs args asq 0 (fun i=>(args[i]?.map (V.val I)).getD zJ) has (fun i v hv=>by simp[hv])
   have hal:(jdA 0 asq).length=asq.length:=by
    have:∀(l:List A) (n:Nat),(jdA n l).length=l.length:=fun l=>by
     induction l with
     |nil=>exact fun _=>rfl
     |cons a l ih=>exact fun n=>by simp[jdA,ih]
    exact this asq 0
   have hh0:HRel (fun i=>(args[i]?.map (V.val I)).getD zJ) (kd fun k=>k<w.heap.size) (jfU 0 asq) asq.length w:=by
    refine⟨fun x o hf=>?_,fun x o x' o' k hf hf' _ hb=>?_,joq hh.glob hB⟩
    ·obtain⟨_,h2,c,rfl,h3,h4⟩:=hto.2.2.2 x o hf;exact⟨by omega,trivial,h3,h4⟩
    ·obtain⟨_,_,c,rfl,_,_⟩:=hto.2.2.2 x o hf;cases hb
   have hcalls:=jjz (n0:=asq.length) (B:=kd fun k=>k<w.heap.size) hsp (fun I w=>jbC hm hsp) hf hb (by rw[hal];exact hlen) hx (fun x hx=>by simpa using hto.2.2.1 x hx) (zp _) _ w hh0 (fun k hk=>jbJ.1 hk);rw[hto.1]at hcalls;refine hcalls.mono ?_;rintro e w' ⟨I',v,hp',nx',rfl,hvlt,hag,⟨B',gB,hh'⟩,hbel,_,hfit⟩;have hbw:yn w.heap.size w w':=hbel.below;have hh1:=hh.below hbw hB
   obtain⟨ws,hws,hfw⟩:∃ws,(jb7 ws).val I'=v.val I'∧jes hp' rs ws []:=by
    match v,hfit with
    | .w u,hfit=>exact⟨[u],rfl,hfit⟩
    | .t [],hfit=>exact⟨[],rfl,hfit⟩
    | .t (x::y::l),hfit=>exact⟨x::y::l,rfl,hfit⟩
   obtain⟨I'',h1,h2,h3,h4,h5,h6⟩:=jiy (m:=w.heap.size) (us0:=[]) (fun k hk=>.inl (.inl (gB.le.kp k hk))) hB hh' rs ws [] nx hp I (fun _ h=>h) hfw hh1 (fun k o b hk hb=>.inl (O.blk_lt (hh.ok k o hk).2.2 hb).1);refine⟨I'',?_,h1,jf8 h4,h3,h2.gr,jc2 hbw hB,fun _=>hbw,fun _ h o k hle hf hb=>(h6 h o k hf).1 hle hb⟩
   show yg _=yg ((jb7 (rvW nx rs)).val I'')
   rw[<-hws,jdk,jdk];simp only[h5]
  ·cases hS
 ·cases hS
end
end Go.Sx
end

section
open Go.RowKit
namespace Go.Sx
inductive Sh where
 |d
 |r (c0:Cont)
 |x (x0:XC)
 |p (l:List Sh)
 |f (g:Nat) (l:List Sh)
 |m
 |mp (e:Nat)
inductive SV where
 |c (x:Sh)
 |a (l:List Sh)
 |b (x:AR) (e:Nat)
inductive Lf where
 |d (x:D)
 |n (k:qd)
 |r (c:Cont)
 |x (x:XC)
 |b (e:Nat) (x:AR)
def nilC:C->Bool| .d (.v (.slice none 0 0))=>true|_=>false
def jdT (hp:Hp) (h:Nat):Option (List C):=match find hp h with|some (.box _ cs)=>some cs|some (.ebox cs)=>some cs|_=>none
def isP:Sh->Bool| .p _=>true|_=>false
def jet (f:Sh->C->Option (List Lf × List C)):List Sh->List C->Option (List Lf × List C)|[],[]=>some ([],[])|s::l,c::cs=>(match f s c,jet f l cs with|some (a,x),some (b,y)=>some (a++b,x++y)|_,_=>none)|_,_=>none
def toC (hp:Hp):Nat->Sh->C->Option (List Lf × List C)
 |0,_,_=>none
 |n+1,s,c =>
  match s with
  | .d=>match c with| .d x=>some ([.d x],[])| .o h=>(match find hp h with|some (.nan k)=>some ([.n k],[c])|_=>none)|_=>none
  | .r c0=>match nilC c with
   |true=>match c0.n,c0.e with|0,_+1=>some ([.r c0],[c])|_,_=>none
   |false=>match c with
    | .o h=>match(find hp h).bind O.cont with
     |some x=>match x.e with|0=>none|_+1=>some ([.r x],[c])
     |none=>none
    |_=>none
  | .x x0=>match nilC c with
   |true=>match x0.n with|0=>some ([.x x0],[c])|_=>none
   |false=>match c with
    | .o h=>match(find hp h).bind O.xc with
     |some X=>match X.e with|0=>none|_+1=>some ([.x X],[c])
     |_=>none
    |_=>none
  | .p l=>match c with| .p h 0 _ 0=>(match jdT hp h with|some cs=>(jet (toC hp n) l cs).map fun(a,x)=>(a,x++[c])|none=>none)| .o h=>(match jdT hp h with|some cs=>(jet (toC hp n) l cs).map fun(a,x)=>(a,x++[c])|none=>none)|_=>none
  | .f g l=>match c with| .fn g' hs=>(match zF g g',l.all isP with|true,true=>jet (toC hp n) l (hs.map C.o)|_,_=>none)|_=>none
  | .m=>match c with| .o h=>some ([],[.o h])|_=>none
  | .mp e=>match c with| .p h i e' 0=>(match zF e e',zF e 1 with|true,false=>some ([.d (.i .i64 (i:Int))],[.o h])|_,_=>none)|_=>none
def toV (hp:Hp) (s:SV) (v:V):Option (List Lf × List C) :=match s,v with| .c s,.w (.c c)=>toC hp 8 s c| .a l,.w (.a cs)=>jet (toC hp 8) l cs| .b x e,.w (.b e' y)=>(match x.kin y,zF e e' with|true,true=>some ([.b e y],[])|_,_=>none)| .b x e,.w (.a cs)=>(match x.cells cs with|some y=>(match zF e cs.length with|true=>some ([.b e y],[])|false=>none)|none=>none)|_,_=>none
def jhY (hp:Hp):List SV->List V->Option (List Lf × List C)|[],[]=>some ([],[])|s::l,v::vs=>(match toV hp s v,jhY hp l vs with|some (a,x),some (b,y)=>some (a++b,x++y)|_,_=>none)|_,_=>none
structure Bt where
 cs:List C
 hp:Hp
 n:Nat
 ls:List Lf
def jjN (f:Sh->Nat->List Lf->Option Bt):List Sh->Nat->List Lf->Option Bt|[],n,ls=>some ⟨[],[],n,ls⟩|s::l,n,ls=>match f s n ls with|some a=>(match jjN f l a.n a.ls with|some b=>some ⟨a.cs++b.cs,b.hp++a.hp,b.n,b.ls⟩|none=>none)|none=>none
def hOf:C->Nat| .p h _ _ _=>h| .o h=>h|_=>0
def jdU:Nat->Sh->Nat->List Lf->Option Bt
 |0,_,_,_=>none
 |m+1,s,n,ls =>
  match s with| .d=>(match ls with| .d x::r=>some ⟨[.d x],[],n,r⟩| .n k::r=>some ⟨[.o n],[(n,.nan k)],n+1,r⟩|_=>none)| .r _=>(match ls with| .r c::r=>some ⟨[.o n],[(n,.ext c)],n+1,r⟩|_=>none)| .x _=>(match ls with| .x X::r=>some ⟨[.o n],[(n,.xext X)],n+1,r⟩|_=>none)| .p l=>(match jjN (jdU m) l n ls with|some b=>some ⟨[.p b.n 0 1 0],(b.n,.ebox b.cs)::b.hp,b.n+1,b.ls⟩|none=>none)| .f g l=>(match jjN (jdU m) l n ls with|some b=>some ⟨[.fn g (b.cs.map hOf)],b.hp,b.n,b.ls⟩|none=>none)| .m=>some ⟨[.o n],[(n,.dead)],n+1,ls⟩| .mp e=>match ls with| .d (.i _ i)::r=>some ⟨[.p n i.toNat e 0],[(n,.dead)],n+1,r⟩|_=>none
structure Bv where
 vs:List V
 hp:Hp
 n:Nat
 ls:List Lf
def jfV:List C->C|c::_=>c|[]=>.d (.v zJ)
def jux (s:SV) (n:Nat) (ls:List Lf):Option Bv :=match s with| .c s=>(jdU 8 s n ls).map fun b=>⟨[.w (.c (jfV b.cs))],b.hp,b.n,b.ls⟩| .a l=>(jjN (jdU 8) l n ls).map fun b=>⟨[.w (.a b.cs)],b.hp,b.n,b.ls⟩| .b _ _=>match ls with| .b e y::q=>some ⟨[.w (.b e y)],[],n,q⟩|_=>none
def jdM:List SV->Nat->List Lf->Option Bv|[],n,ls=>some ⟨[],[],n,ls⟩|s::l,n,ls=>match jux s n ls with|some a=>(match jdM l a.n a.ls with|some b=>some ⟨a.vs++b.vs,b.hp++a.hp,b.n,b.ls⟩|none=>none)|none=>none
inductive RC where
 |d (x:D)
 |g (i:Nat)
 |row (ty:Nat) (c:Cont)
 |box (ty:Nat) (l:List RC)
 |fe (c:Cont)
 |x (ty:Nat) (x:XC)
 |m (ty:Nat) (ts:List Nat) (x:XC)
inductive RR where
 |c (x:RC)
 |s (l:List RC)
 |b (e:Nat) (x:AR)
inductive GT where
 |leaf (ob:Prop) (rs:List RR)
 |br (b:Bool) (x y:GT)
def GT.sel:GT->Prop × List RR| .leaf ob rs=>(ob,rs)| .br b x y=>match b with|true=>x.sel|false=>y.sel
structure Rt where
 cs:List C
 hp:Hp
 n:Nat
def rvL (f:RC->Nat->Rt):List RC->Nat->Rt
 |[],n=>⟨[],[],n⟩
 |r::l,n =>
  let a:=f r n
  let b:=rvL f l a.n
  ⟨a.cs++b.cs,b.hp++a.hp,b.n⟩
def rvC (am:List C):Nat->RC->Nat->Rt
 |0,_,n=>⟨[.d (.v zJ)],[],n⟩
 |m+1,r,n =>
  match r with
  | .d x=>⟨[.d x],[],n⟩
  | .g i=>⟨[am.getD i (.d (.v zJ))],[],n⟩
  | .row ty c=>⟨[.o n],[(n,.row ty c)],n+1⟩
  | .fe c=>⟨[.o n],[(n,.fext c)],n+1⟩
  | .x ty X=>⟨[.o n],[(n,.xrow ty X)],n+1⟩
  | .m ty ts X=>⟨[.o n],[(n,.mrow ty ts X none)],n+1⟩
  | .box ty l =>
   let b:=rvL (rvC am m) l n
   ⟨[.p b.n 0 1 0],(b.n,.box ty b.cs)::b.hp,b.n+1⟩
structure Rw where
 ws:List W
 hp:Hp
 n:Nat
def rvR (am:List C) (r:RR) (n:Nat):Rw :=match r with| .c x=>let b:=rvC am 8 x n; ⟨[.c (jfV b.cs)],b.hp,b.n⟩| .s l=>let b:=rvL (rvC am 8) l n; ⟨[.a b.cs],b.hp,b.n⟩| .b e x=>⟨[.b e x],[],n⟩
def jck (am:List C):List RR->Nat->Rw
 |[],n=>⟨[],[],n⟩
 |r::l,n =>
  let a:=rvR am r n
  let b:=jck am l a.n
  ⟨a.ws++b.ws,b.hp++a.hp,b.n⟩
def GT.toRT (am:List C) (hp:Hp) (nx:Nat):GT->RT| .leaf ob rs=>let b:=jck am rs nx; .leaf ⟨ob,jb7 b.ws,b.hp++hp,b.n⟩| .br b x y=>.br b (x.toRT am hp nx) (y.toRT am hp nx)
def jak (shs:List SV) (g:List Lf->Option GT):Spec:=fun vs hp nx =>
 match jhY hp shs vs with|some (ls,am)=>(match g ls with|some t=>some (t.toRT am hp nx)|none=>none)|none=>none
def fitL (f:RC->C->List Nat->(List Nat->Prop)->Prop):List RC->List C->List Nat->(List Nat->Prop)->Prop|[],[],us,k=>k us|r::l,c::cs,us,k=>f r c us fun us=>fitL f l cs us k|_,_,_,_=>False
def juy (n0:Nat) (hp:Hp):Nat->RC->C->List Nat->(List Nat->Prop)->Prop
 |0,_,_,_,_=>False
 |m+1,r,c,us,k =>
  match r,c with| .d x,.d y=>mD x y∧k us| .g i,.o h=>(match zF i h,xD i n0 with|true,true=>k us|_,_=>False)| .g i,.p h 0 _ 0=>(match zF i h,xD i n0,find hp h with|true,true,some (.ebox _)=>k us|_,_,_=>False)| .row ty c,.o h=>(match us.contains h with|true=>False|false=>match find hp h with|some (.row ty' c')=>(match zF ty' ty with|true=>jek c c'∧k (h::us)|false=>False)|_=>False)| .row _ c,.d (.v (.slice none 0 0))=>Ob (c.n=0)∧k us| .fe c,.o h=>(match us.contains h with|true=>False|false=>match find hp h with|some (.fext c')=>jek c c'∧k (h::us)|_=>False)| .fe c,.d (.v (.slice none 0 0))=>Ob (c.n=0)∧k us| .x ty X,.o h=>(match us.contains h with|true=>False|false=>match find hp h with|some (.xrow ty' X')=>(match zF ty' ty with|true=>mX X X'∧k (h::us)|false=>False)|_=>False)| .x _ X,.d (.v (.slice none 0 0))=>Ob (X.n=0)∧k us| .m ty ts X,.o h=>(match us.contains h with|true=>False|false=>match find hp h with|some (.mrow ty' ts' X' none)=>(match zF ty' ty,decide (ts'=ts)with|true,true=>mX X X'∧k (h::us)|_,_=>False)|_=>False)| .m _ _ X,.d (.v (.slice none 0 0))=>Ob (X.n=0)∧k us| .box ty l,.p h 0 _ 0=>(match find hp h with|some (.box ty' cs)=>(match zF ty' ty with|true=>(fitL (juy n0 hp m) l cs us fun us=>match us.contains h with|true=>False|false=>k (h::us))|false=>False)|_=>False)|_,_=>False
def fitR (n0:Nat) (hp:Hp) (r:RR) (w:W) (us:List Nat) (k:List Nat->Prop):Prop :=match r,w with| .c x,.c c=>juy n0 hp 8 x c us k| .s l,.a cs=>fitL (juy n0 hp 8) l cs us k| .b e x,.b e' y=>(match zF e e' with|true=>mAR y x (k us)|false=>False)|_,_=>False
def jhh (n0:Nat) (hp:Hp):List RR->List W->List Nat->Prop|[],[],_=>True|r::l,w::ws,us=>fitR n0 hp r w us fun us=>jhh n0 hp l ws us|_,_,_=>False
def jfy (n0:Nat) (rs:List RR) (v:V) (hp:Hp):Prop:=match v with| .w u=>jhh n0 hp rs [u] []| .t [_]=>False| .t l=>jhh n0 hp rs l []
section
variable [Globs] {P:zP} {sp:jab} {I:Env} {B:Kd} {nx:Nat} {hp:Hp} {w w':zr} {Q:Nat->Prop}
def C.p_val {I:Env} {h i e j:Nat}:(C.p h i e j).val I=.pointer (some ⟨(base (I h)).block,(base (I h)).off+(i*e+j),none⟩):=rfl
structure RdQ (Q:Nat->Prop) (I:Env) (hp:Hp) (w:zr):Prop where
 bx:∀h cs,jdT hp h=some cs->Q (base (I h)).block
 rw:∀h o x,find hp h=some o->o.cont=some x->0<x.e->jbK Q (I h)
 xw:∀h o X,find hp h=some o->o.xc=some X->0<X.e->IsX Q w (I h) X
structure BOK (Q:Nat->Prop) (I:Env) (w:zr) (nx n:Nat) (I1 I2:Env) (rest:List Lf) (cs x:List C) (b:Bt):Prop where
 ls:b.ls=rest
 nn:b.n=n+x.length
 agree:jah n I1 I2
 val:b.cs.map (C.val I2)=cs.map (C.val I)
 lt:∀c∈b.cs,C.lt b.n c
 heap:∀h o,find b.hp h=some o->n<=h∧h<b.n∧o.lt b.n∧o.ok I2 (kd Q) w h∧∀v,o.blk v=none
 own:∀i,i<x.length->I2 (n+i)=(x.getD i (.d (.v zJ))).val I
 xlt:∀y∈x,C.lt nx y
 hnd:∀c∈b.cs,(∃m,c=.p m 0 1 0)->I2 (hOf c)=c.val I2∧hOf c<b.n
def BOK.append {n:Nat} {I1 I2 I3:Env} {r1 rest:List Lf} {c1 c2 x1 x2:List C} {b1 b2:Bt} (h1:BOK Q I w nx n I1 I2 r1 c1 x1 b1) (h2:BOK Q I w nx b1.n I2 I3 rest c2 x2 b2) :
  BOK Q I w nx n I1 I3 rest (c1++c2) (x1++x2) ⟨b1.cs++b2.cs,b2.hp++b1.hp,b2.n,b2.ls⟩:=by
 have hle:b1.n<=b2.n:=by rw[h2.nn];omega
 have hn1:n<=b1.n:=by rw[h1.nn];omega
 refine⟨h2.ls,?_,h1.agree.trans h2.agree hn1,?_,?_,?_,?_,?_,?_⟩
 ·show b2.n=_
  rw[h2.nn,h1.nn,qc];omega
 ·simp only[xa,h2.val]
  congr 1
  rw[<-h1.val];exact qx fun c hc=>C.val_agree h2.agree (h1.lt c hc)
 ·intro c hc;rcases qR.1 hc with hc|hc
  ·exact C.lt_mono hle (h1.lt c hc)
  ·exact h2.lt c hc
 ·intro h o hf;have hf:find (b2.hp++b1.hp) h=some o:=hf;rw[jaq]at hf;cases hg:find b2.hp h with
  |some o2 =>
   rw[hg]at hf;cases hf;obtain⟨a1,a2,a3,a4,a5⟩:=h2.heap h o hg;exact⟨xb hn1 a1,a2,a3,a4,a5⟩
  |none =>
   rw[hg]at hf;obtain⟨a1,a2,a3,a4,a5⟩:=h1.heap h o hf;exact⟨a1,zG a2 hle,O.lt_mono hle a3,O.ok_agree h2.agree a2 a3 a4,a5⟩
 ·intro i hi
  by_cases hlt:i<x1.length
  ·rw[h2.agree (n+i) (by rw[h1.nn];omega),h1.own i hlt];simp[zb,qf hlt]
  ·have e1:n+i=b1.n+(i-x1.length):=by rw[h1.nn];omega
   rw[e1,h2.own (i-x1.length) (by simp at hi;omega)];simp[zb,qj (yi hlt)]
 ·intro y hy;rcases qR.1 hy with hy|hy
  ·exact h1.xlt y hy
  ·exact h2.xlt y hy
 ·intro c hc hp;rcases qR.1 hc with hc|hc
  ·obtain⟨a1,a2⟩:=h1.hnd c hc hp;exact⟨by rw[h2.agree _ a2,a1];exact(C.val_agree h2.agree (h1.lt c hc)).symm,zG a2 hle⟩
  ·exact h2.hnd c hc hp
def BOK.nil {n:Nat} {I1:Env} {rest:List Lf}:BOK Q I w nx n I1 I1 rest [] [] ⟨[],[],n,rest⟩ :=⟨rfl,rfl,jah.refl _ _,rfl,(fun _ h=>by cases h),(fun _ _ h=>by cases h),(fun _ h=>by cases h),(fun _ h=>by cases h),fun _ h=>by cases h⟩
def ToOK (Q:Nat->Prop) (I:Env) (w:zr) (nx:Nat) (s:Sh) (c:C) (a:List Lf) (x:List C) (g:Sh->Nat->List Lf->Option Bt):Prop :=∀(n:Nat) (I1:Env) (rest:List Lf),∃b I2,g s n (a++rest)=some b∧BOK Q I w nx n I1 I2 rest [c] x b
def jli {f:Sh->C->Option (List Lf × List C)} {g:Sh->Nat->List Lf->Option Bt} (hf:∀s c a x,f s c=some (a,x)->C.lt nx c->ToOK Q I w nx s c a x g) :
  ∀(l:List Sh) (cs:List C) (a:List Lf) (x:List C),jet f l cs=some (a,x)->(∀c∈cs,C.lt nx c)->∀(n:Nat) (I1:Env) (rest:List Lf),∃b I2,jjN g l n (a++rest)=some b∧BOK Q I w nx n I1 I2 rest cs x b
 |[],[],a,x,h,_,n,I1,rest=>by
  simp only[jet,zj,qp]at h;obtain⟨rfl,rfl⟩:=h;exact⟨_,I1,rfl,BOK.nil⟩
 |s::l,c::cs,a,x,h,hlt,n,I1,rest=>by
  simp only[jet]at h;split at h
  ·rename_i a1 x1 a2 x2 h1 h2;cases h;obtain⟨b1,I2,e1,k1⟩:=hf s c a1 x1 h1 (hlt c zw) n I1 (a2++rest);obtain⟨b2,I3,e2,k2⟩:=jli hf l cs a2 x2 h2 (fun c hc=>hlt c (zu _ hc)) b1.n I2 rest;refine⟨_,I3,?_,k1.append k2⟩;rw[qF];simp only[jjN,e1,k1.ls,e2]
  ·cases h
 |[],_::_,_,_,h,_,_,_,_=>by simp[jet]at h
 |_::_,[],_,_,h,_,_,_,_=>by simp[jet]at h
def jr9 {c:C} (h:nilC c=true):c=.d (.v (.slice none 0 0)):=by
 unfold nilC at h;split at h
 ·rfl
 ·cases h
def jfz (hh:HRel I B hp nx w) (hB:Old B w) {h:Nat} {cs:List C} (hc:jdT hp h=some cs) :
  h<nx∧(∀c∈cs,C.lt nx c)∧∃k o,I h=.pointer (some ⟨k,o,none⟩)∧k<w.heap.size∧∀j c,cs[j]?=some c->w.cell? ⟨k,o+j,none⟩=some (c.val I):=by
 unfold jdT at hc;split at hc
 ·rename_i ty cs' hf;cases hc;obtain⟨h1,h2,g,h3,h4,h5⟩:=hh.ok h _ hf;refine⟨h1,h2,g,0,h3,(zM.1 h5).1,fun j c hj=>?_⟩;rw[qa,cell_of_row w g _ _ ty (0,0) h5];simp[hj]
 ·rename_i cs' hf;cases hc;obtain⟨h1,h2,g,o,h3,h4,h5⟩:=hh.ok h _ hf;exact⟨h1,h2,g,o,h3,hB g (.inl h4),h5⟩
 ·cases hc
def BOK.one {n:Nat} {I1:Env} {rest:List Lf} {c:C} {o:O} (hc:C.lt nx c) (hl:o.lt (n+1)) (hb:∀v,o.blk v=none) (ho:o.ok (upd I1 n (c.val I)) (kd Q) w n) :
  BOK Q I w nx n I1 (upd I1 n (c.val I)) rest [c] [c] ⟨[.o n],[(n,o)],n+1,rest⟩:=by
 refine⟨rfl,rfl,jar _ _ _,by simp[C.val],?_,?_,?_,?_,?_⟩
 ·intro c' hc';simp only[z6]at hc';subst hc';exact zo n
 ·intro h o' hf;simp only[find]at hf;split at hf
  ·rename_i e;subst e;cases hf;exact⟨zp _,zo _,hl,ho,hb⟩
  ·cases hf
 ·intro i hi;simp at hi;subst hi;simp
 ·intro y hy;simp only[z6]at hy;subst hy;exact hc
 ·rintro c' hc' ⟨m,rfl⟩;simp at hc'
def jzy {m:Nat}:∀(l:List Sh) (n:Nat) (ls:List Lf) (b:Bt),l.all isP=true->jjN (jdU m) l n ls=some b->∀c∈b.cs,∃q,c=C.p q 0 1 0
 |[],n,ls,b,_,h=>by simp only[jjN,zj]at h;subst h;exact fun _ h=>by cases h
 |s::l,n,ls,b,hp,h=>by
  simp only[jp,zk]at hp;simp only[jjN]at h;split at h
  ·rename_i a ha;split at h
   ·rename_i b2 hb2;cases h;intro c hc;rcases qR.1 hc with hc|hc
    ·cases m with
     |zero=>simp[jdU]at ha
     |succ m =>
      cases s with
      |p l2 =>
       simp only[jdU]at ha;split at ha
       ·cases ha;simp only[z6]at hc;exact⟨_,hc⟩
       ·cases ha
      |_=>simp[isP]at hp
    ·exact jzy l _ _ b2 hp.2 hb2 c hc
   ·cases h
  ·cases h
def jor (hQ:RdQ Q I hp w) (hh:HRel I B hp nx w) (hB:Old B w):∀(m:Nat) (s:Sh) (c:C) (a:List Lf) (x:List C),toC hp m s c=some (a,x)->C.lt nx c->ToOK Q I w nx s c a x (jdU m)
 |0,_,_,_,_,h,_=>by simp[toC]at h
 |m+1,s,c,a,x,h,hc=>by
  intro n I1 rest;have ih:=jli (f:=toC hp m) (g:=jdU m) (fun s c a x h hc=>jor hQ hh hB m s c a x h hc);cases s with
  |d =>
   simp only[toC]at h;split at h
   ·cases h;refine⟨_,I1,rfl,rfl,rfl,jah.refl _ _,rfl,?_,(fun _ _ h=>by cases h),(fun _ h=>by cases h),(fun _ h=>by cases h),?_⟩
    ·intro c hc;simp only[z6]at hc;subst hc;trivial
    ·rintro c hc ⟨_,rfl⟩;simp at hc
   ·rename_i h0;split at h
    ·rename_i k hf;cases h;have hok:=(hh.ok h0 _ hf).2.2;exact⟨_,_,rfl,BOK.one hc trivial (fun _=>rfl) (by unfold O.ok;rw[upd_same];exact hok)⟩
    ·cases h
   ·cases h
  |r c0 =>
   simp only[toC]at h;split at h
   ·rename_i hn;have hn:=jr9 hn;subst hn;split at h
    ·rename_i e hn0 he;cases h;refine⟨_,_,rfl,BOK.one (c:=.d (.v (.slice none 0 0))) hc trivial (fun _=>rfl) ?_⟩;refine⟨⟨none,0,by rw[upd_same,hn0];rfl,⟨by omega,fun _=>rfl⟩,fun hp=>by omega⟩,fun a' n' cap hv=>?_⟩;rw[upd_same]at hv;cases hv
    ·cases h
   ·split at h
    ·rename_i h0 _;split at h
     ·rename_i x hx;split at h
      ·cases h
      ·rename_i e he;cases h;cases hf:find hp h0 with
       |none=>simp[hf]at hx
       |some o =>
        simp only[hf,zV]at hx;have hrow:=jcc (hh.ok h0 o hf).2.2 hx;exact⟨_,_,rfl,BOK.one hc trivial (fun _=>rfl) ⟨by rw[upd_same];exact hrow,by rw[upd_same];exact hQ.rw h0 o x hf hx (by omega)⟩⟩
     ·cases h
    ·cases h
  |x x0 =>
   simp only[toC]at h;split at h
   ·rename_i hn;have hn:=jr9 hn;subst hn;split at h
    ·rename_i hn0;cases h;refine⟨_,_,rfl,BOK.one (c:=.d (.v (.slice none 0 0))) hc trivial (fun _=>rfl) ?_⟩;exact⟨none,0,by rw[upd_same,hn0];rfl,⟨by omega,fun _=>rfl⟩,fun hp=>by omega⟩
    ·cases h
   ·split at h
    ·rename_i h0 _;split at h
     ·rename_i X hf;obtain⟨ox,hf,hxc⟩:=zK.1 hf;split at h
      ·cases h
      rename_i e he;cases h;exact⟨_,_,rfl,BOK.one (o:=.xext X) hc trivial (fun _=>rfl) (by unfold O.ok;rw[upd_same];exact hQ.xw h0 ox X hf hxc (by omega))⟩
     ·cases h
    ·cases h
  |p l =>
   have key:∀(h0:Nat) (cs:List C),jdT hp h0=some cs->c.val I=I h0->(jet (toC hp m) l cs).map (fun(a,x)=>(a,x++[c]))=some (a,x) ->
     ∃b I2,jdU (m+1) (.p l) n (a++rest)=some b∧BOK Q I w nx n I1 I2 rest [c] x b:=by
    intro h0 cs hbc hcv ht;obtain⟨⟨a',x'⟩,ht',he⟩:=z4.1 ht;cases he;obtain⟨hlt0,hcl,k,o,hk,hks,hcell⟩:=jfz hh hB hbc;obtain⟨b,I2,e,q⟩:=ih l cs a x' ht' hcl n I1 rest;have hag:jah b.n I2 (upd I2 b.n (c.val I)):=jar _ _ _;have hnb:n<=b.n:=by rw[q.nn];omega
    refine⟨⟨[.p b.n 0 1 0],(b.n,.ebox b.cs)::b.hp,b.n+1,b.ls⟩,upd I2 b.n (c.val I),by simp only[jdU,e],q.ls,?_,q.agree.trans hag hnb,?_,?_,?_,?_,?_,?_⟩
    ·show b.n+1=_
     rw[q.nn];simp;omega
    ·simp only[zL,xp,C.p_val,upd_same];rw[hcv,hk];simp[base]
    ·intro c' hc';simp only[z6]at hc';subst hc';exact zo _
    ·intro h' o' hf;simp only[find]at hf;split at hf
     ·rename_i e2;subst e2;cases hf;refine⟨hnb,zo _,fun y hy=>C.lt_mono (xu _) (q.lt y hy),⟨k,o,by rw[upd_same,hcv];exact hk,(by have:=hQ.bx h0 cs hbc;rw[hk]at this;exact this),fun j y hj=>?_⟩,fun _=>rfl⟩;rw[C.val_agree hag (q.lt y (yh hj))];have h1:(b.cs.map (C.val I2))[j]?=some (y.val I2):=by rw[zR,hj];rfl
      rw[q.val,zR]at h1;obtain⟨y',hy',he'⟩:=z4.1 h1;rw[<-he'];exact hcell j y' hy'
     ·obtain⟨a1,a2,a3,a4,a5⟩:=q.heap h' o' hf;exact⟨a1,Nat.lt_succ_of_lt a2,O.lt_mono (xu _) a3,O.ok_agree hag a2 a3 a4,a5⟩
    ·intro i hi
     by_cases hlt:i<x'.length
     ·rw[hag (n+i) (by rw[q.nn];omega),q.own i hlt];simp[zb,qf hlt]
     ·have e3:i=x'.length:=by simp at hi;omega
      subst e3;rw[<-q.nn,upd_same];simp[zb]
    ·intro y hy;rcases qR.1 hy with hy|hy
     ·exact q.xlt y hy
     ·simp only[z6]at hy;subst hy;exact hc
    ·intro c' hc' _;simp only[z6]at hc';subst hc';refine⟨?_,zo _⟩;simp only[hOf,C.p_val,upd_same];rw[hcv,hk];simp[base]
   simp only[toC]at h;split at h
   ·rename_i h0 e0;split at h
    ·rename_i cs hbc;refine key h0 cs hbc ?_ h;obtain⟨_,_,k,o,hk,_⟩:=jfz hh hB hbc;simp[C.val,hk,base]
    ·cases h
   ·rename_i h0;split at h
    ·rename_i cs hbc;exact key h0 cs hbc rfl h
    ·cases h
   ·cases h
  |f g l =>
   simp only[toC]at h;split at h
   ·rename_i g' hs;split at h
    ·rename_i hg hip;have hg:=zi hg;subst hg
     have hcl:∀y∈hs.map C.o,C.lt nx y:=fun y hy=>by
      obtain⟨z,hz,rfl⟩:=qn.1 hy;exact hc z hz
     obtain⟨b,I2,e,q⟩:=ih l _ a x h hcl n I1 rest;have hbp:=jzy l n (a++rest) b hip e;refine⟨⟨[.fn g (b.cs.map hOf)],b.hp,b.n,b.ls⟩,I2,by simp only[jdU,e],q.ls,q.nn,q.agree,?_,?_,q.heap,q.own,q.xlt,?_⟩
     ·simp only[zL,xp,C.val]
      have:(b.cs.map hOf).map I2=hs.map I:=by
       have h1:=q.val;rw[List.map_map]at h1 ⊢;have h2:b.cs.map (I2 ∘ hOf)=b.cs.map (C.val I2):=qx fun y hy=>(q.hnd y hy (hbp y hy)).1;rw[h2,h1];exact qx fun y hy=>rfl
      rw[this]
     ·intro y hy;simp only[z6]at hy;subst hy;intro z hz;obtain⟨y,hy,rfl⟩:=qn.1 hz;exact(q.hnd y hy (hbp y hy)).2
     ·rintro y hy ⟨_,rfl⟩;simp at hy
    ·cases h
   ·cases h
  |m =>
   simp only[toC]at h;split at h
   ·cases h;exact⟨_,_,rfl,BOK.one hc trivial (fun _=>rfl) trivial⟩
   ·cases h
  |mp e =>
   simp only[toC]at h;split at h
   ·rename_i h0 i e';split at h
    ·rename_i he he1;have he:=zi he;subst he;cases h;have h1:=BOK.one (Q:=Q) (I:=I) (w:=w) (nx:=nx) (n:=n) (I1:=I1) (rest:=rest) (c:=.o h0) (o:=.dead) hc trivial (fun _=>rfl) trivial;refine⟨⟨[.p n i e 0],[(n,.dead)],n+1,rest⟩,upd I1 n ((C.o h0).val I),by simp[jdU],h1.ls,h1.nn,h1.agree,?_,?_,h1.heap,h1.own,h1.xlt,?_⟩
     ·simp[C.val]
     ·intro y hy;simp only[z6]at hy;subst hy;exact zo _
     ·rintro y hy ⟨m,rfl⟩;simp only[z6,C.p.injEq]at hy;obtain⟨_,_,he2,_⟩:=hy;subst he2;simp at he1
    ·cases h
   ·cases h
structure BVOK (Q:Nat->Prop) (I:Env) (w:zr) (nx n:Nat) (I1 I2:Env) (rest:List Lf) (vs:List V) (x:List C) (b:Bv):Prop where
 ls:b.ls=rest
 nn:b.n=n+x.length
 agree:jah n I1 I2
 val:b.vs.map (V.val I2)=vs.map (V.val I)
 lt:∀c∈b.vs,V.lt b.n c
 heap:∀h o,find b.hp h=some o->n<=h∧h<b.n∧o.lt b.n∧o.ok I2 (kd Q) w h∧∀v,o.blk v=none
 own:∀i,i<x.length->I2 (n+i)=(x.getD i (.d (.v zJ))).val I
 xlt:∀y∈x,C.lt nx y
def BVOK.append {n:Nat} {I1 I2 I3:Env} {r1 rest:List Lf} {c1 c2:List V} {x1 x2:List C} {b1 b2:Bv} (h1:BVOK Q I w nx n I1 I2 r1 c1 x1 b1) (h2:BVOK Q I w nx b1.n I2 I3 rest c2 x2 b2) :
  BVOK Q I w nx n I1 I3 rest (c1++c2) (x1++x2) ⟨b1.vs++b2.vs,b2.hp++b1.hp,b2.n,b2.ls⟩:=by
 have hle:b1.n<=b2.n:=by rw[h2.nn];omega
 have hn1:n<=b1.n:=by rw[h1.nn];omega
 refine⟨h2.ls,?_,h1.agree.trans h2.agree hn1,?_,?_,?_,?_,?_⟩
 ·show b2.n=_
  rw[h2.nn,h1.nn,qc];omega
 ·simp only[xa,h2.val]
  congr 1
  rw[<-h1.val];exact qx fun c hc=>V.val_agree h2.agree (h1.lt c hc)
 ·intro c hc;rcases qR.1 hc with hc|hc
  ·exact V.lt_mono hle (h1.lt c hc)
  ·exact h2.lt c hc
 ·intro h o hf;have hf:find (b2.hp++b1.hp) h=some o:=hf;rw[jaq]at hf;cases hg:find b2.hp h with
  |some o2 =>
   rw[hg]at hf;cases hf;obtain⟨a1,a2,a3,a4,a5⟩:=h2.heap h o hg;exact⟨xb hn1 a1,a2,a3,a4,a5⟩
  |none =>
   rw[hg]at hf;obtain⟨a1,a2,a3,a4,a5⟩:=h1.heap h o hf;exact⟨a1,zG a2 hle,O.lt_mono hle a3,O.ok_agree h2.agree a2 a3 a4,a5⟩
 ·intro i hi
  by_cases hlt:i<x1.length
  ·rw[h2.agree (n+i) (by rw[h1.nn];omega),h1.own i hlt];simp[zb,qf hlt]
  ·have e1:n+i=b1.n+(i-x1.length):=by rw[h1.nn];omega
   rw[e1,h2.own (i-x1.length) (by simp at hi;omega)];simp[zb,qj (yi hlt)]
 ·intro y hy;rcases qR.1 hy with hy|hy
  ·exact h1.xlt y hy
  ·exact h2.xlt y hy
def jA8 (hQ:RdQ Q I hp w) (hh:HRel I B hp nx w) (hB:Old B w) {s:SV} {v:V} {a:List Lf} {x:List C} (h:toV hp s v=some (a,x)) (hv:V.lt nx v) (n:Nat) (I1:Env) (rest:List Lf) :
  ∃b I2,jux s n (a++rest)=some b∧BVOK Q I w nx n I1 I2 rest [v] x b:=by
 unfold toV at h;split at h
 ·rename_i s c;obtain⟨b,I2,e,q⟩:=jor hQ hh hB 8 s c a x h hv n I1 rest;have hlen:b.cs.length=1:=by have:=congrArg za q.val;simpa using this
  obtain⟨c',hc'⟩:∃c',b.cs=[c']:=by
   match hb:b.cs,hlen with
   |[c'],_=>exact⟨c',rfl⟩
  have hval:=q.val;have hlt:=q.lt;rw[hc']at hval hlt;refine⟨⟨[.w (.c (jfV b.cs))],b.hp,b.n,b.ls⟩,I2,by simp only[jux,e,qk],q.ls,q.nn,q.agree,?_,?_,q.heap,q.own,q.xlt⟩
  ·simp only[hc',jfV,zL,xp,V.val,W.val];simpa using hval
  ·intro y hy;simp only[z6]at hy;subst hy;rw[hc'];exact hlt c' zw
 ·rename_i l cs;obtain⟨b,I2,e,q⟩:=jli (f:=toC hp 8) (g:=jdU 8) (fun s c a x h hc=>jor hQ hh hB 8 s c a x h hc) l cs a x h hv n I1 rest;refine⟨⟨[.w (.a b.cs)],b.hp,b.n,b.ls⟩,I2,by simp only[jux,e,qk],q.ls,q.nn,q.agree,?_,?_,q.heap,q.own,q.xlt⟩
  ·simp only[zL,xp,V.val,W.val,q.val]
  ·intro y hy;simp only[z6]at hy;subst hy;exact q.lt
 ·rename_i y e e' y';split at h
  ·rename_i hk he;have he:=zi he;subst he;cases h;refine⟨_,I1,rfl,rfl,rfl,jah.refl _ _,rfl,?_,(fun _ _ h=>by cases h),(fun _ h=>by cases h),fun _ h=>by cases h⟩;intro y hy;simp only[z6]at hy;subst hy;trivial
  ·cases h
 ·rename_i y e cs;split at h
  ·rename_i y' hr;split at h
   ·rename_i he;have he:=zi he;subst he;cases h;refine⟨_,I1,rfl,rfl,rfl,jah.refl _ _,?_,?_,(fun _ _ h=>by cases h),(fun _ h=>by cases h),fun _ h=>by cases h⟩
    ·simp only[zL,xp,V.val,W.val,(jkY (I:=I) (hp:=hp) hr).1]
    ·intro y hy;simp only[z6]at hy;subst hy;trivial
   ·cases h
  ·cases h
 ·cases h
def jhi (hQ:RdQ Q I hp w) (hh:HRel I B hp nx w) (hB:Old B w):∀(l:List SV) (vs:List V) (a:List Lf) (x:List C),jhY hp l vs=some (a,x)->(∀v∈vs,V.lt nx v)->∀(n:Nat) (I1:Env) (rest:List Lf),∃b I2,jdM l n (a++rest)=some b∧BVOK Q I w nx n I1 I2 rest vs x b
 |[],[],a,x,h,_,n,I1,rest=>by
  simp only[jhY,zj,qp]at h;obtain⟨rfl,rfl⟩:=h;exact⟨_,I1,rfl,rfl,rfl,jah.refl _ _,rfl,(fun _ h=>by cases h),(fun _ _ h=>by cases h),(fun _ h=>by cases h),fun _ h=>by cases h⟩
 |s::l,v::vs,a,x,h,hlt,n,I1,rest=>by
  simp only[jhY]at h;split at h
  ·rename_i a1 x1 a2 x2 h1 h2;cases h;obtain⟨b1,I2,e1,k1⟩:=jA8 hQ hh hB h1 (hlt v zw) n I1 (a2++rest);obtain⟨b2,I3,e2,k2⟩:=jhi hQ hh hB l vs a2 x2 h2 (fun c hc=>hlt c (zu _ hc)) b1.n I2 rest;refine⟨_,I3,?_,k1.append k2⟩;rw[qF];simp only[jdM,e1,k1.ls,e2]
  ·cases h
 |[],_::_,_,_,h,_,_,_,_=>by simp[jhY]at h
 |_::_,[],_,_,h,_,_,_,_=>by simp[jhY]at h
def jlj {k h:Nat} {o:O} {hp:Hp}:find ((k,o)::hp) h=if k=h then some o else find hp h:=rfl
structure CIn (I I':Env) (B:Kd) (hp hp':Hp) (n m n0:Nat) (am:List C) (w':zr) (us0 us:List Nat):Prop where
 s0:∀u∈us0,u∈us
 heap:HRel I B hp n w'
 ap:∀k o b,find hp k=some o->o.blk (I k)=some b->b<m∨∃u∈us,∃ou,find hp' u=some ou∧ou.blk (I' u)=some b
 am:∀i,i<n0->C.lt n (am.getD i (.d (.v zJ)))∧(am.getD i (.d (.v zJ))).val I=I' i
structure COut (I I2 I':Env) (B:Kd) (hp hp':Hp) (n m:Nat) (w':zr) (us us2:List Nat) (vals:List zs) (r:Rt):Prop where
 agree:jah n I I2
 heap:HRel I2 B (r.hp++hp) r.n w'
 le:n<=r.n
 val:r.cs.map (C.val I2)=vals
 lt:∀c∈r.cs,C.lt r.n c
 ap:∀k o b,find (r.hp++hp) k=some o->o.blk (I2 k)=some b->b<m∨∃u∈us2,∃ou,find hp' u=some ou∧ou.blk (I' u)=some b
 fresh:∀h o b,find r.hp h=some o->o.blk (I2 h)=some b->m<=b
 keys:∀h o,find r.hp h=some o->n<=h
 sub:∀u∈us,u∈us2
variable {I':Env} {hp':Hp} {m n0:Nat} {am:List C} {us0:List Nat}
def CIn.next {I2:Env} {n:Nat} {us us2:List Nat} {vals:List zs} {r:Rt} (h:CIn I I' B hp hp' n m n0 am w' us0 us) (k:COut I I2 I' B hp hp' n m w' us us2 vals r):CIn I2 I' B (r.hp++hp) hp' r.n m n0 am w' us0 us2 :=⟨fun u hu=>k.sub u (h.s0 u hu),k.heap,k.ap,fun i hi=>⟨C.lt_mono k.le (h.am i hi).1,by rw[C.val_agree k.agree (h.am i hi).1];exact(h.am i hi).2⟩⟩
def COut.append {I2 I3:Env} {n:Nat} {us us2 us3:List Nat} {v1 v2:List zs} {r1 r2:Rt} (h:COut I I2 I' B hp hp' n m w' us us2 v1 r1) (k:COut I2 I3 I' B (r1.hp++hp) hp' r1.n m w' us2 us3 v2 r2) :
  COut I I3 I' B hp hp' n m w' us us3 (v1++v2) ⟨r1.cs++r2.cs,r2.hp++r1.hp,r2.n⟩:=by
 refine⟨h.agree.trans k.agree h.le,by rw[qF];exact k.heap,xb h.le k.le,?_,?_,?_,?_,?_,fun u hu=>k.sub u (h.sub u hu)⟩
 ·simp only[xa,k.val]
  congr 1
  rw[<-h.val];exact qx fun c hc=>C.val_agree k.agree (h.lt c hc)
 ·intro c hc;rcases qR.1 hc with hc|hc
  ·exact C.lt_mono k.le (h.lt c hc)
  ·exact k.lt c hc
 ·intro q o b hf hb;have hf:find (r2.hp++r1.hp++hp) q=some o:=hf;rw[qF]at hf;exact k.ap q o b hf hb
 ·intro q o b hf hb;have hf:find (r2.hp++r1.hp) q=some o:=hf;rw[jaq]at hf;cases hg:find r2.hp q with
  |some o2=>rw[hg]at hf;cases hf;exact k.fresh q o b hg hb
  |none =>
   rw[hg]at hf;have hf:find r1.hp q=some o:=hf
   have hq:q<r1.n:=by
    have:find (r1.hp++hp) q=some o:=by rw[jaq,hf];rfl
    exact(h.heap.ok q o this).1
   rw[k.agree q hq]at hb;exact h.fresh q o b hf hb
 ·intro q o hf;have hf:find (r2.hp++r1.hp) q=some o:=hf;rw[jaq]at hf;cases hg:find r2.hp q with
  |some o2=>rw[hg]at hf;cases hf;exact xb h.le (k.keys q o hg)
  |none=>rw[hg]at hf;exact h.keys q o hf
def COut.data {n:Nat} {us:List Nat} {c:C} {v:zs} (h:CIn I I' B hp hp' n m n0 am w' us0 us) (hc:C.lt n c) (hv:c.val I=v):COut I I I' B hp hp' n m w' us us [v] ⟨[c],[],n⟩:=by
 refine⟨jah.refl _ _,h.heap,zp _,by simp[hv],?_,h.ap,(fun _ _ _ h=>by cases h),(fun _ _ h=>by cases h),fun u hu=>hu⟩;intro y hy;simp only[z6]at hy;subst hy;exact hc
def COut.obj {Bc:Kd} {n q:Nat} {us:List Nat} {o oq:O} {c:C} {v:zs} (hm:∀q oq k,find hp' q=some oq->us0.contains q=false->oq.blk (I' q)=some k->m<=k) (hB:∀k,B.all k->Bc.all k) (hF:∀k,Bc.fr k->B.fr k) (hM:Bc.LeM B) (hh':HRel I' Bc hp' nx w') (h:CIn I I' B hp hp' n m n0 am w' us0 us)
  (hq:find hp' q=some oq) (hus:us.contains q=false) (hl:o.lt (n+1)) (ho:(∀k,o.blk (I' q)=some k->¬B.all k)->o.ok (upd I n (I' q)) B w' n) (hb:∀k,o.blk (I' q)=some k->oq.blk (I' q)=some k)
  (hc:C.lt (n+1) c) (hcv:c.val (upd I n (I' q))=v):COut I (upd I n (I' q)) I' B hp hp' n m w' us (q::us) [v] ⟨[c],[(n,o)],n+1⟩:=by
 have hge:∀k,o.blk (I' q)=some k->m<=k:=fun k hk=>hm q oq k hq (by
  cases he:us0.contains q with
  |false=>rfl
  |true=>rw[show us.contains q=true by simpa using h.s0 q (by simpa using he)]at hus;cases hus) (hb k hk)
 have hnB:∀k,o.blk (I' q)=some k->¬B.all k:=fun k hk hBk=>(O.blk_lt (hh'.ok q oq hq).2.2 (hb k hk)).2 (hB k hBk);refine⟨jar _ _ _,?_,xu n,by simp[hcv],?_,?_,?_,?_,fun u hu=>zu _ hu⟩
 ·refine h.heap.add1 hl (ho hnB) fun k o' b hk hbk he=>?_;rcases h.ap k o' b hk hbk with hlt|⟨u,hu,ou,hou,hbu⟩
  ·have:=hge b he;omega
  ·have hne:u≠q:=fun e=>by
    subst e;have:us.contains u=true:=by simpa using hu
    rw[this]at hus;cases hus
   exact hh'.apart u ou q oq b hou hq hne hbu (hb b he)
 ·intro y hy;simp only[z6]at hy;subst hy;exact hc
 ·intro k o' b hf hbk;have hf2:find ((n,o)::hp) k=some o':=hf;clear hf;have hf:=hf2;clear hf2;rw[jlj]at hf;split at hf
  ·rename_i e;subst e;cases hf;rw[upd_same]at hbk;exact .inr ⟨q,zw,oq,hq,hb b hbk⟩
  ·have hk:=(h.heap.ok k o' hf).1;rw[jar I n (I' q) k hk]at hbk;rcases h.ap k o' b hf hbk with hlt|⟨u,hu,ou,hou,hbu⟩
   ·exact .inl hlt
   ·exact .inr ⟨u,zu _ hu,ou,hou,hbu⟩
 ·intro k o' b hf hbk;simp only[find]at hf;split at hf
  ·rename_i e;subst e;cases hf;rw[upd_same]at hbk;exact hge b hbk
  ·cases hf
 ·intro k o' hf;simp only[find]at hf;split at hf
  ·rename_i e;omega
  ·cases hf
def COut.nilO {n:Nat} {us:List Nat} {o:O} (hin:CIn I I' B hp hp' n m n0 am w' us0 us) (hl:o.lt (n+1)) (ho:o.ok (upd I n (.slice none 0 0)) B w' n) (hb:o.blk (.slice none 0 0)=none) :
  COut I (upd I n (.slice none 0 0)) I' B hp hp' n m w' us us [.slice none 0 0] ⟨[.o n],[(n,o)],n+1⟩:=by
 refine⟨jar _ _ _,?_,xu n,by simp[C.val],?_,?_,?_,?_,fun u hu=>hu⟩
 ·exact hin.heap.add1 hl ho (fun _ _ _ _ _ he=>by rw[hb]at he;cases he)
 ·intro y hy;simp only[z6]at hy;subst hy;exact zo n
 ·intro k' o' b hf hbk;have hf2:find ((n,o)::hp) k'=some o':=hf;clear hf;have hf:=hf2;clear hf2;rw[jlj]at hf;split at hf
  ·rename_i e;subst e;cases hf;rw[upd_same,hb]at hbk;cases hbk
  ·have hk':=(hin.heap.ok k' o' hf).1;rw[jar I n _ k' hk']at hbk;exact hin.ap k' o' b hf hbk
 ·intro k' o' b hf hbk;simp only[find]at hf;split at hf
  ·rename_i e;subst e;cases hf;rw[upd_same,hb]at hbk;cases hbk
  ·cases hf
 ·intro k' o' hf;simp only[find]at hf;split at hf
  ·omega
  ·cases hf
def jCh (us0:List Nat) (I':Env) (B:Kd) (hp':Hp) (m n0:Nat) (am:List C) (w':zr) (f:RC->C->List Nat->(List Nat->Prop)->Prop) (g:RC->Nat->Rt):Prop :=
 ∀(r:RC) (c:C) (us:List Nat) (k:List Nat->Prop),f r c us k->∀(n:Nat) (hp:Hp) (I:Env),CIn I I' B hp hp' n m n0 am w' us0 us -> ∃us2 I2,k us2∧COut I I2 I' B hp hp' n m w' us us2 [c.val I'] (g r n)
def jlk {f:RC->C->List Nat->(List Nat->Prop)->Prop} {g:RC->Nat->Rt} (hf:jCh us0 I' B hp' m n0 am w' f g):∀(l:List RC) (cs:List C) (us:List Nat) (k:List Nat->Prop),fitL f l cs us k->∀(n:Nat) (hp:Hp) (I:Env),CIn I I' B hp hp' n m n0 am w' us0 us -> ∃us2 I2,k us2∧COut I I2 I' B hp hp' n m w' us us2 (cs.map (C.val I')) (rvL g l n)
 |[],[],us,k,h,n,hp,I,hin=>⟨us,I,h,jah.refl _ _,hin.heap,zp _,rfl,(fun _ h=>by cases h),hin.ap,(fun _ _ _ h=>by cases h),(fun _ _ h=>by cases h),fun u hu=>hu⟩
 |r::l,c::cs,us,k,h,n,hp,I,hin=>by
  obtain⟨us2,I2,h2,k2⟩:=hf r c us _ h n hp I hin;obtain⟨us3,I3,h3,k3⟩:=jlk hf l cs us2 k h2 (g r n).n _ I2 (hin.next k2);exact⟨us3,I3,h3,k2.append k3⟩
 |[],_::_,_,_,h,_,_,_,_=>h.elim
 |_::_,[],_,_,h,_,_,_,_=>h.elim
def jll {Bc:Kd} (hm:∀q oq k,find hp' q=some oq->us0.contains q=false->oq.blk (I' q)=some k->m<=k) (hB:∀k,B.all k->Bc.all k) (hF:∀k,Bc.fr k->B.fr k) (hM:Bc.LeM B) (hh':HRel I' Bc hp' nx w'):∀(q:Nat),jCh us0 I' B hp' m n0 am w' (juy n0 hp' q) (rvC am q)
 |0=>fun _ _ _ _ h=>h.elim
 |q+1=>by
  intro r c us k h n hp I hin;unfold juy at h;split at h
  ·rename_i x y;have e:=jmL h.1;subst e;exact⟨us,I,h.2,COut.data hin trivial rfl⟩
  ·rename_i i h0;split at h
   ·rename_i e1 e2;have e1:=zi e1;subst e1;have hi:i<n0:=by simpa [qL]using e2
    exact⟨us,I,h,COut.data hin (hin.am i hi).1 (hin.am i hi).2⟩
   ·exact h.elim
  ·rename_i i h0 e0;split at h
   ·rename_i cs e1 e2 hf;have e1:=zi e1;subst e1;have hi:i<n0:=by simpa [qL]using e2
    obtain⟨g,o,h1,_⟩:=(hh'.ok i _ hf).2.2;exact⟨us,I,h,COut.data hin (hin.am i hi).1 ((hin.am i hi).2.trans (by simp[C.val,h1,base]))⟩
   ·exact h.elim
  ·rename_i ty c0 h0;split at h
   ·exact h.elim
   ·rename_i hus;split at h
    ·rename_i ty' c' hf;split at h
     ·rename_i hty;have hty:=zi hty;subst hty;have hc:=jb6 h.1;subst hc;refine⟨_,_,h.2,COut.obj (q:=h0) (o:=.row ty' c0) hm hB hF hM hh' hin hf hus trivial (fun hnB=>?_) (fun k hk=>hk) (show C.lt (n+1) (.o n)from zo n) (by simp[C.val])⟩;have hok:=(hh'.ok h0 _ hf).2.2;exact⟨by rw[upd_same];exact hok.1,fun k hk=>by rw[upd_same]at hk;exact hnB k hk⟩
     ·exact h.elim
    ·exact h.elim
  ·rename_i ty c0;obtain⟨⟨hn0⟩,hk⟩:=h;refine⟨us,upd I n (.slice none 0 0),hk,?_⟩;refine⟨jar _ _ _,?_,xu n,by simp[C.val,D.val,rvC],?_,?_,?_,?_,fun u hu=>hu⟩
   ·refine hin.heap.add1 (o:=.row ty c0) trivial ?_ (fun _ _ _ _ _ he=>by simp[O.blk,zU]at he);refine⟨⟨by simp[Cont.flat_length,hn0],.inl ⟨by rw[upd_same],hn0⟩⟩,fun k hk=>by rw[upd_same]at hk;simp[zU]at hk⟩
   ·intro y hy;simp only[rvC,z6]at hy;subst hy;exact zo n
   ·intro k' o' b hf hbk;have hf2:find ((n,O.row ty c0)::hp) k'=some o':=hf;clear hf;have hf:=hf2;clear hf2;rw[jlj]at hf;split at hf
    ·rename_i e;subst e;cases hf;rw[upd_same]at hbk;simp[O.blk,zU]at hbk
    ·have hk':=(hin.heap.ok k' o' hf).1;rw[jar I n _ k' hk']at hbk;exact hin.ap k' o' b hf hbk
   ·intro k' o' b hf hbk;simp only[rvC,find]at hf;split at hf
    ·rename_i e;subst e;cases hf;rw[upd_same]at hbk;simp[O.blk,zU]at hbk
    ·cases hf
   ·intro k' o' hf;simp only[rvC,find]at hf;split at hf
    ·omega
    ·cases hf
  ·rename_i c0 h0;split at h
   ·exact h.elim
   ·rename_i hus;split at h
    ·rename_i c' hf;have hc:=jb6 h.1;subst hc;refine⟨_,_,h.2,COut.obj (q:=h0) (o:=.fext c0) hm hB hF hM hh' hin hf hus trivial (fun hnB=>?_) (fun k hk=>by cases hk) (show C.lt (n+1) (.o n)from zo n) (by simp[C.val])⟩;have hok:=(hh'.ok h0 _ hf).2.2;exact⟨by rw[upd_same];exact hok.1,by rw[upd_same];exact jaW hF hok.2⟩
    ·exact h.elim
  ·rename_i c0;obtain⟨⟨hn0⟩,hk⟩:=h;exact⟨us,upd I n (.slice none 0 0),hk,COut.nilO hin trivial ⟨⟨none,0,by rw[upd_same,hn0],⟨by omega,fun _=>rfl⟩,fun h=>by omega⟩,fun a n' cap hv _=>by rw[upd_same]at hv;cases hv⟩ rfl⟩
  ·rename_i ty X h0;split at h
   ·exact h.elim
   ·rename_i hus;split at h
    ·rename_i ty' X' hf;split at h
     ·rename_i hty;have hty:=zi hty;subst hty;have hc:=jd9 h.1;subst hc;refine⟨_,_,h.2,COut.obj (q:=h0) (o:=.xrow ty' X) hm hB hF hM hh' hin hf hus trivial (fun hnB=>?_) (fun k hk=>hk) (show C.lt (n+1) (.o n)from zo n) (by simp[C.val])⟩;obtain⟨us1,q1,q2,q3⟩:=(hh'.ok h0 _ hf).2.2;exact⟨us1,by rw[upd_same];exact q1,fun i j hi hj=>let ⟨u,hu,hux⟩:=q2 i j hi hj; ⟨u,hu,NC.at_mono hF hux⟩,fun k hk=>by rw[upd_same]at hk;exact hnB k hk⟩
     ·exact h.elim
    ·exact h.elim
  ·rename_i ty X;obtain⟨⟨hn0⟩,hk⟩:=h;exact⟨us,upd I n (.slice none 0 0),hk,COut.nilO hin trivial ⟨[],by rw[upd_same,hn0];exact xU w' 0 ty X.e,(fun i j hi=>by omega),fun k hk=>by rw[upd_same]at hk;cases hk⟩ rfl⟩
  ·rename_i ty ts X h0;split at h
   ·exact h.elim
   ·rename_i hus;split at h
    ·rename_i ty' ts' X' hf;split at h
     ·rename_i hty hts;have hty:=zi hty;subst hty;have hts:=of_decide_eq_true hts;subst hts;have hc:=jd9 h.1;subst hc;refine⟨_,_,h.2,COut.obj (q:=h0) (o:=.mrow ty' ts' X none) hm hB hF hM hh' hin hf hus trivial (fun hnB=>?_) (fun k hk=>hk) (show C.lt (n+1) (.o n)from zo n) (by simp[C.val])⟩;obtain⟨us1,q1,q2,q3,q4⟩:=(hh'.ok h0 _ hf).2.2;exact⟨us1,by rw[upd_same];exact q1,fun i j hi hj hn=>let ⟨u,hu,hux⟩:=q2 i j hi hj hn; ⟨u,hu,by rw[upd_same];exact NC.own_mono hM hux⟩,q3,fun k hk=>by rw[upd_same]at hk;exact hnB k hk⟩
     ·exact h.elim
    ·exact h.elim
  ·rename_i ty ts X;obtain⟨⟨hn0⟩,hk⟩:=h;exact⟨us,upd I n (.slice none 0 0),hk,COut.nilO hin trivial ⟨[],by rw[upd_same,hn0];exact xU w' 0 ty X.e,(fun i j hi=>by omega),(fun i j i' j' u v k hi=>by omega),fun k hk=>by rw[upd_same]at hk;cases hk⟩ rfl⟩
  ·rename_i ty l h0 e0;split at h
   ·rename_i ty' cs hf;split at h
    ·rename_i hty;have hty:=zi hty;subst hty;obtain⟨us2,I2,h2,k2⟩:=jlk (jll hm hB hF hM hh' q) l cs us _ h n hp I hin;have hin2:=hin.next k2;split at h2
     ·exact h2.elim
     ·rename_i hus;have hok:=(hh'.ok h0 _ hf).2.2;obtain⟨g,h3,h4,h5⟩:=hok
      have hobj:=COut.obj (q:=h0) (o:=.box ty' (rvL (rvC am q) l n).cs) (c:=.p (rvL (rvC am q) l n).n 0 1 0) (v:=I' h0) hm hB hF hM hh' hin2 hf hus (fun y hy=>C.lt_mono (xu _) (k2.lt y hy)) (fun hnB=>?_) (fun k hk=>hk)
       (show C.lt ((rvL (rvC am q) l n).n+1) (.p (rvL (rvC am q) l n).n 0 1 0)from zo _) (by simp[C.val,h3,base])
      ·refine⟨h0::us2,upd I2 (rvL (rvC am q) l n).n (I' h0),h2,?_⟩;have hap:=k2.append hobj;refine⟨hap.agree,hap.heap,hap.le,?_,?_,hap.ap,hap.fresh,hap.keys,hap.sub⟩
       ·have hv:=hobj.val;simp only[zL,xp]at hv;simp only[rvC,zL,xp];rw[hv];simp[C.val,h3,base]
       ·intro y hy;simp only[rvC,z6]at hy;subst hy;exact zo _
      ·refine⟨g,by rw[upd_same];exact h3,?_,?_⟩
       ·exact hnB g (by simp[O.blk,h3,base])
       ·rw[h5]
        congr 3
        have hv:=k2.val;rw[<-hv];exact qx fun y hy=>(C.val_agree (jar I2 _ _) (k2.lt y hy)).symm
    ·exact h.elim
   ·exact h.elim
  ·exact h.elim
structure WOut (I I2 I':Env) (B:Kd) (hp hp':Hp) (n m:Nat) (w':zr) (us us2:List Nat) (vals:List zs) (r:Rw):Prop where
 agree:jah n I I2
 heap:HRel I2 B (r.hp++hp) r.n w'
 le:n<=r.n
 val:r.ws.map (W.val I2)=vals
 lt:∀c∈r.ws,W.lt r.n c
 ap:∀k o b,find (r.hp++hp) k=some o->o.blk (I2 k)=some b->b<m∨∃u∈us2,∃ou,find hp' u=some ou∧ou.blk (I' u)=some b
 fresh:∀h o b,find r.hp h=some o->o.blk (I2 h)=some b->m<=b
 keys:∀h o,find r.hp h=some o->n<=h
 sub:∀u∈us,u∈us2
def jzz {Bc:Kd} (hm:∀q oq k,find hp' q=some oq->us0.contains q=false->oq.blk (I' q)=some k->m<=k) (hB:∀k,B.all k->Bc.all k) (hF:∀k,Bc.fr k->B.fr k) (hM:Bc.LeM B) (hh':HRel I' Bc hp' nx w') {r:RR} {x:W} {us:List Nat} {k:List Nat->Prop} (h:fitR n0 hp' r x us k) {n:Nat} {hp:Hp} {I:Env} (hin:CIn I I' B hp hp' n m n0 am w' us0 us) :
  ∃us2 I2,k us2∧WOut I I2 I' B hp hp' n m w' us us2 [x.val I'] (rvR am r n):=by
 unfold fitR at h;split at h
 ·rename_i rc c;obtain⟨us2,I2,h2,k2⟩:=jll hm hB hF hM hh' 8 rc c us k h n hp I hin;have hlen:(rvC am 8 rc n).cs.length=1:=by have:=congrArg za k2.val;simpa using this
  obtain⟨c',hc'⟩:∃c',(rvC am 8 rc n).cs=[c']:=by
   match hb:(rvC am 8 rc n).cs,hlen with
   |[c'],_=>exact⟨c',rfl⟩
  have hval:=k2.val;have hlt:=k2.lt;rw[hc']at hval hlt;refine⟨us2,I2,h2,k2.agree,k2.heap,k2.le,?_,?_,k2.ap,k2.fresh,k2.keys,k2.sub⟩
  ·simp only[rvR,hc',jfV,zL,xp,W.val];simpa using hval
  ·intro y hy;simp only[rvR,z6]at hy;subst hy;rw[hc'];exact hlt c' zw
 ·rename_i l cs;obtain⟨us2,I2,h2,k2⟩:=jlk (jll hm hB hF hM hh' 8) l cs us k h n hp I hin;refine⟨us2,I2,h2,k2.agree,k2.heap,k2.le,?_,?_,k2.ap,k2.fresh,k2.keys,k2.sub⟩
  ·simp only[rvR,zL,xp,W.val,k2.val]
  ·intro y hy;simp only[rvR,z6]at hy;subst hy;exact k2.lt
 ·rename_i e x e' y;split at h
  ·rename_i he;have he:=zi he;subst he;obtain⟨rfl,hk⟩:=joi h;refine⟨us,I,hk,jah.refl _ _,hin.heap,zp _,rfl,?_,hin.ap,(fun _ _ _ h=>by cases h),(fun _ _ h=>by cases h),fun u hu=>hu⟩;intro y hy;simp only[rvR,z6]at hy;subst hy;trivial
  ·exact h.elim
 ·exact h.elim
def jjO {Bc:Kd} (hm:∀q oq k,find hp' q=some oq->us0.contains q=false->oq.blk (I' q)=some k->m<=k) (hB:∀k,B.all k->Bc.all k) (hF:∀k,Bc.fr k->B.fr k) (hM:Bc.LeM B) (hh':HRel I' Bc hp' nx w'):∀(l:List RR) (ws:List W) (us:List Nat),jhh n0 hp' l ws us->∀(n:Nat) (hp:Hp) (I:Env),CIn I I' B hp hp' n m n0 am w' us0 us -> ∃us2 I2,WOut I I2 I' B hp hp' n m w' us us2 (ws.map (W.val I')) (jck am l n)
 |[],[],us,h,n,hp,I,hin=>⟨us,I,jah.refl _ _,hin.heap,zp _,rfl,(fun _ h=>by cases h),hin.ap,(fun _ _ _ h=>by cases h),(fun _ _ h=>by cases h),fun u hu=>hu⟩
 |r::l,x::ws,us,h,n,hp,I,hin=>by
  obtain⟨us2,I2,h2,k2⟩:=jzz hm hB hF hM hh' h hin;have hin2:CIn I2 I' B ((rvR am r n).hp++hp) hp' (rvR am r n).n m n0 am w' us0 us2:=⟨fun u hu=>k2.sub u (hin.s0 u hu),k2.heap,k2.ap,fun i hi=>⟨C.lt_mono k2.le (hin.am i hi).1,by rw[C.val_agree k2.agree (hin.am i hi).1];exact(hin.am i hi).2⟩⟩
  obtain⟨us3,I3,k3⟩:=jjO hm hB hF hM hh' l ws us2 h2 (rvR am r n).n _ I2 hin2;refine⟨us3,I3,k2.agree.trans k3.agree k2.le,by simp only[jck];rw[qF];exact k3.heap,xb k2.le k3.le,?_,?_,?_,?_,?_,fun u hu=>k3.sub u (k2.sub u hu)⟩
  ·simp only[jck,xa,k3.val,zL]
   have:(rvR am r n).ws.map (W.val I3)=[x.val I']:=by
    rw[<-k2.val];exact qx fun c hc=>W.val_agree k3.agree (k2.lt c hc)
   rw[this];rfl
  ·intro c hc;simp only[jck]at hc;rcases qR.1 hc with hc|hc
   ·exact W.lt_mono k3.le (k2.lt c hc)
   ·exact k3.lt c hc
  ·intro q o b hf hb;simp only[jck]at hf;rw[qF]at hf;exact k3.ap q o b hf hb
  ·intro q o b hf hb;simp only[jck]at hf;rw[jaq]at hf;cases hg:find (jck am l (rvR am r n).n).hp q with
   |some o2=>rw[hg]at hf;cases hf;exact k3.fresh q o b hg hb
   |none =>
    rw[hg]at hf;have hf:find (rvR am r n).hp q=some o:=hf
    have hq:q<(rvR am r n).n:=by
     have:find ((rvR am r n).hp++hp) q=some o:=by rw[jaq,hf];rfl
     exact(k2.heap.ok q o this).1
    rw[k3.agree q hq]at hb;exact k2.fresh q o b hf hb
  ·intro q o hf;simp only[jck]at hf;rw[jaq]at hf;cases hg:find (jck am l (rvR am r n).n).hp q with
   |some o2=>rw[hg]at hf;cases hf;exact xb k2.le (k3.keys q o hg)
   |none=>rw[hg]at hf;exact k2.keys q o hf
 |[],_::_,_,h,_,_,_,_=>h.elim
 |_::_,[],_,h,_,_,_,_=>h.elim
def jxa {hp:Hp} (hh:HRel I B hp nx w) (hB:Old B w):RdQ (fun k=>k<w.heap.size) I hp w:=by
 refine⟨fun h cs hc=>?_,fun h o x hf hx he=>(jcc (hh.ok h o hf).2.2 hx).lt he,fun h o X hf hx he=>?_⟩
 ·obtain⟨_,_,k,o,hk,hks,_⟩:=jfz hh hB hc;rw[hk];exact hks
 ·obtain⟨a1,cap,hv1,hc1,hx1⟩:=jd5 (hh.ok h _ hf).2.2 hx;refine⟨a1,cap,hv1,hc1,fun hn=>?_⟩;obtain⟨b,off,rfl,hcell⟩:=hx1 hn;obtain⟨u,hu,_⟩:=hcell 0 0 hn he;exact⟨b,off,rfl,World.block_lt_of_cell? w _ hu,fun i j hi hj=>let ⟨u,hu,hux⟩:=hcell i j hi hj; ⟨u,hu,NC.at_mono (fun k hk=>hB k hk) hux⟩⟩
def jbZ {am:List C} {hp:Hp} {nx:Nat}:∀t:GT,(t.toRT am hp nx).sel=⟨t.sel.1,jb7 (jck am t.sel.2 nx).ws,(jck am t.sel.2 nx).hp++hp,(jck am t.sel.2 nx).n⟩
 | .leaf ob rs=>rfl
 | .br b x y=>by
  cases b
  ·exact jbZ y
  ·exact jbZ x
def jhj {f:Nat} {fn:jL} {body:jn} {shs:List SV} {g:List Lf->Option GT} (hf:P.funcs[f]?=some fn) (hb:fn.body=some body) (hn:(fn.name == "runtime.NumGoroutine")=false)
  (h:∀ls t,g ls=some t->t.sel.1->∀b:Bv,jdM shs 0 ls=some b->∀(I0:Env) (w:zr),(∀x∈b.vs,V.lt b.n x)->HRel I0 (kd fun k=>k<w.heap.size) b.hp b.n w -> Calls P f (b.vs.map (V.val I0)).toArray w fun e w'=>∃I' v hp' nx',e=.returned (v.val I')∧v.lt nx'∧jah b.n I0 I'∧(∃B',Grow (kd fun k=>k<w.heap.size) B' false w' w'∧HRel I' B' hp' nx' w')∧Bel (kd fun k=>k<w.heap.size) w w'∧Old (kd fun k=>k<w.heap.size) w'∧jfy b.n t.sel.2 v hp') :
  jaF P f true (jak shs g):=by
 refine .inl ⟨jdn hf hb hn,fun I B w args hp nx t hS hob hlt hh hB=>?_⟩;unfold jak at hS;split at hS
 ·rename_i ls am hto;split at hS
  ·rename_i t' hg;cases hS;rw[jbZ]at hob ⊢;have hob:t'.sel.1:=hob;obtain⟨b,I0,hbl,q⟩:=jhi (jxa hh hB) hh hB shs args ls am hto hlt 0 (fun _=>zJ) [];rw[yw]at hbl;have hbn:b.n=am.length:=by have:=q.nn;omega
   have hh0:HRel I0 (kd fun k=>k<w.heap.size) b.hp b.n w:=by
    refine⟨fun x o hf=>?_,fun x o x' o' k hf hf' _ hb=>?_,joq hh.glob hB⟩
    ·obtain⟨_,a2,a3,a4,_⟩:=q.heap x o hf;exact⟨a2,a3,a4⟩
    ·obtain⟨_,_,_,_,a5⟩:=q.heap x o hf;rw[a5]at hb;cases hb
   have hcalls:=h ls t' hg hob b hbl I0 w q.lt hh0;rw[q.val]at hcalls;refine hcalls.mono ?_;rintro e w' ⟨I',v,hp',nx',rfl,hvlt,hag,⟨Bc,gB,hh'⟩,hbel,hold,hfit⟩;have hbw:yn w.heap.size w w':=hbel.below;have hBc:Old Bc w':=gB.old hold
   have hfr:∀k,Bc.fr k->w.heap.size<=k:=fun k hk=>by
    rcases gB.out k hk with h1|h1
    ·exact h1.elim
    ·exact yi h1
   have hmu:∀k,Bc.mu k≠none->w.heap.size<=k:=fun k hk=>yi fun hlt=>hk (Bc.dis k (gB.le.kp k hlt))
   let Bn:Kd:=⟨fun k=>B.kp k∨Bc.fr k,fun k=>B.fr k∨Bc.fr k,fun k=>match B.mu k with|some g=>some g|none=>Bc.mu k,fun k hk=>hk.imp (B.sub k) id,fun k hk=>by
    have h1:B.mu k=none:=by
     rcases hk with hk|hk
     ·exact B.dis k hk
     ·have h2:=hfr k hk;cases hm2:B.mu k with
      |none=>rfl
      |some g=>exact absurd (hB k (.inr (by rw[hm2];simp))) (yB h2)
    have h2:Bc.mu k=none:=by
     rcases hk with hk|hk
     ·exact Bc.dis k (gB.le.kp k (hB k (.inl hk)))
     ·exact Bc.dis k (Bc.sub k hk)
    show(match B.mu k with|some g=>some g|none=>Bc.mu k)=none
    rw[h1,h2]⟩
   have hmn:∀k,Bn.mu k=match B.mu k with|some g=>some g|none=>Bc.mu k:=fun _=>rfl
   have hBn:B.Le Bn:=⟨fun k hk=>.inl hk,fun k hk=>.inl hk⟩
   have hBm:B.LeM Bn:=fun k g hk=>by rw[hmn,hk]
   have hna:∀k,Bn.all k->B.all k∨(w.heap.size<=k∧Bc.all k):=fun k hk=>by
    rcases hk with (hk|hk)|hk
    ·exact .inl (.inl hk)
    ·exact .inr ⟨hfr k hk,.inl (Bc.sub k hk)⟩
    ·rw[hmn]at hk;cases hm2:B.mu k with
     |none=>rw[hm2]at hk;exact .inr ⟨hmu k hk,.inr hk⟩
     |some g=>exact .inl (.inr (by rw[hm2];simp))
   have gn:Grow B Bn true w w':=⟨hBn,fun k hk=>(hna k hk).imp id fun h=>hBc k h.2,fun k hk=>hk.imp id fun h hb=>absurd (hB k (.inl hb)) (yB (hfr k h)),fun _=>⟨fun k hk=>(hna k hk).imp id fun h=>h.1,hBm⟩⟩
   have hh1:HRel I Bn hp nx w':=(hh.below hbw hB).moreB hBn hBm fun h o k hf hk hb=>by
    have h1:=O.blk_lt (hh.ok h o hf).2.2 hk;rcases hna k hb with hb|hb
    ·exact h1.2 hb
    ·exact absurd h1.1 (yB hb.1)
   obtain⟨ws,hws,hfw⟩:∃ws,(jb7 ws).val I'=v.val I'∧jhh b.n hp' t'.sel.2 ws []:=by
    match v,hfit with
    | .w u,hfit=>exact⟨[u],rfl,hfit⟩
    | .t [],hfit=>exact⟨[],rfl,hfit⟩
    | .t (x::y::l),hfit=>exact⟨x::y::l,rfl,hfit⟩
   have hin:CIn I I' Bn hp hp' nx w.heap.size b.n am w' [] []:=by
    refine⟨(fun _ h=>h),hh1,fun k o b hk hbk=>.inl (O.blk_lt (hh.ok k o hk).2.2 hbk).1,fun i hi=>?_⟩;have hi2:i<am.length:=by omega
    have h1:=q.own i hi2;rw[qa]at h1;refine⟨?_,by rw[hag i hi];exact h1.symm⟩;have:am.getD i (.d (.v zJ))=am[i]:=by simp[zb,hi2]
    rw[this];exact q.xlt _ (zW hi2)
   obtain⟨us2,I2,k⟩:=jjO (B:=Bn) (m:=w.heap.size) (fun q oq k hq _ hk=>yi fun hlt=>(O.blk_lt (hh'.ok q oq hq).2.2 hk).2 (.inl (gB.le.kp k hlt))) (fun k hk=>(hna k hk).elim (fun h=>.inl (gB.le.kp k (hB k h))) (fun h=>h.2)) (fun k hk=>.inr hk) (fun k g hk=>by
    rw[hmn];cases hm2:B.mu k with
    |none=>exact hk
    |some g'=>exact absurd (hB k (.inr (by rw[hm2];simp))) (yB (hmu k (by rw[hk];simp)))) hh' t'.sel.2 ws [] hfw nx hp I hin
   refine⟨I2,?_,k.agree,jf8 k.lt,k.le,⟨Bn,gn,k.heap⟩,jc2 hbw hB,fun _=>hbw,fun _ h o b hle hf hbk=>?_⟩
   ·show yg _=yg ((jb7 (jck am t'.sel.2 nx).ws).val I2)
    rw[<-hws,jdk,jdk];simp only[k.val]
   ·have hf:find ((jck am t'.sel.2 nx).hp++hp) h=some o:=hf;rw[jaq]at hf;cases hg2:find (jck am t'.sel.2 nx).hp h with
    |some o2=>rw[hg2]at hf;cases hf;exact k.fresh h o b hg2 hbk
    |none =>
     rw[hg2]at hf;have:=(hh.ok h o hf).1;omega
  ·cases hS
 ·cases hS
def jjP {f:Nat} {fn:jL} {body:jn} {shs:List SV} {g:List Lf->Option GT} (hm:P.follows .mixedOrders=true) (hsp:jam P sp) (hf:P.funcs[f]?=some fn) (hb:fn.body=some body) (hn:(fn.name == "runtime.NumGoroutine")=false)
  (h:∀ls t,g ls=some t->t.sel.1->∀b:Bv,jdM shs 0 ls=some b->b.vs.length<=fn.ntmps∧∃fuel loops,sx P sp fn.ntmps b.n fuel loops (jcs P sp fn.ntmps) body 0 [] ⟨jbo 0 b.vs,b.hp,b.n⟩ (jbN P fn.results.toList fun v hp _=>jfy b.n t.sel.2 v hp)) :
  jaF P f true (jak shs g) :=
 jhj hf hb hn fun ls t hg ho b hbl I0 w hlt hh=>by
  obtain⟨hlen,fuel,loops,hx⟩:=h ls t hg ho b hbl;exact jjz (n0:=b.n) (B:=kd fun k=>k<w.heap.size) hsp (fun I w=>jbC hm hsp) hf hb hlen hx hlt (zp _) I0 w hh (fun k hk=>jbJ.1 hk)
end
end Go.Sx
end

section
open Go.RowKit
namespace Go.Sx
def jx4 (k:qd) (u:IntKind):Spec:=fun vs hp nx=>match vs with|[.w (.c (.d (.f k' b)))]=>(match jbG k' k with|true=>some (.leaf ⟨True,vi u (b:Int),hp,nx⟩)|false=>none)|_=>none
def jCG [Globs] {P:zP} {f:Nat} {fn:jL} {k:qd} {u:IntKind} {M:Bool} {g:Array zs->Sem zs} (hf:P.funcs[f]?=some fn) (hb:fn.body=none) (hn:(fn.name == "runtime.NumGoroutine")=false)
  (h1:Extern.findNext fn=none) (h2:Extern.find fn=some g) (hg:∀b,g #[.float k b]=pure (.int u b)):jaF P f M (jx4 k u):=by
 refine .inr fun I B w args hp nx t hS hob hlt hh hB=>?_;unfold jx4 at hS;split at hS
 ·rename_i k' b;split at hS
  ·rename_i hk;have hk:=jbV hk;subst hk;cases hS;refine⟨_,_,rfl,trivial,?_⟩;have e1:(List.map (V.val I) [V.w (.c (.d (.f k' b)))]).toArray=#[.float k' b]:=rfl;rw[e1];unfold callFunc;simp only[zq,run_program,zn,hf,hn,z3,if_false,hb,Option.isNone_none,if_true,run_mark,h1,h2,hg];rfl
  ·cases hS
 ·cases hS
end Go.Sx
end

section
namespace Go.Sx
def jae {X Y:Type} (body:X->Option (X ⊕ Y)):Nat->X->Option Y|0,_=>none|n+1,x=>match body x with|none=>none|some (.inl x')=>jae body n x'|some (.inr y)=>some y
def big:Nat:=18446744073709551616
def jx5 {X Y R:Type} (body:X->Option (X ⊕ Y)) (n:Nat) (K:Y->Option R):X ⊕ Y->Option R| .inl x=>(jae body n x).bind K| .inr y=>K y
def ok {α:Type} (o:Option α):Prop:=o.isSome=true
instance {α : Type} (o : Option α) : Decidable (ok o) := inferInstanceAs (Decidable (o.isSome = true))
def val {α:Type} [Inhabited α] (o:Option α):α:=o.getD default
def jad {α:Type} [Inhabited α] {o:Option α} (h:ok o):o.bind some=some (val o):=by
 cases o with
 |none=>cases h
 |some x=>rfl
def jCi {α:Type} {o:Option α} {x:α} (h:o=some x):ok o:=by subst h;rfl
def jpN {α:Type} [Inhabited α] {o:Option α} {x:α} (h:o=some x):val o=x:=by subst h;rfl
variable {X Y R S A:Type} {g:S->Option R} {r:R} {p q:Prop}
def br_d {c:Prop} [Decidable c] {x y:Option S} (h:(if c then x else y).bind g=some r) (hx:x.bind g=some r->p) (hy:y.bind g=some r->q):Br (decide c) p q:=by
 by_cases hc:c
 ·rw[if_pos hc]at h;rw[decide_eq_true hc];exact hx h
 ·rw[if_neg hc]at h;rw[decide_eq_false hc];exact hy h
def br_b {b:Bool} {x y:Option S} (h:(if b=true then x else y).bind g=some r) (hx:x.bind g=some r->p) (hy:y.bind g=some r->q):Br b p q:=by
 cases b
 ·exact hy h
 ·exact hx h
def ob_s {c:Prop} [Decidable c] {x:Option S} (h:(if c then x else none).bind g=some r) (hx:x.bind g=some r->p):Ob c∧p:=by
 by_cases hc:c
 ·rw[if_pos hc]at h;exact⟨⟨hc⟩,hx h⟩
 ·rw[if_neg hc]at h;cases h
def jDk [Inhabited A] {e:Option A} {f:A->Option S} (h:(e.bind f).bind g=some r) (hx:(f (val e)).bind g=some r->p):Ob (ok e)∧p:=by
 cases e with
 |none=>cases h
 |some a=>exact⟨⟨rfl⟩,hx h⟩
def jzA {body:X->Option (X ⊕ Y)} {n:Nat} {x:X} {rest:Y->Option S} (h:((jae body n x).bind rest).bind g=some r):(jae body n x).bind (fun y=>(rest y).bind g)=some r:=by
 rw[<-h];cases jae body n x<;>rfl
def juz {body:X->Option (X ⊕ Y)} {n:Nat} {x:X} {K:Y->Option R} (h:(jae body n x).bind K=some r):∃m,n=m+1∧(body x).bind (jx5 body m K)=some r:=by
 cases n with
 |zero=>cases h
 |succ m =>
  refine⟨m,rfl,?_⟩;rw[<-h];unfold jae;cases body x with
  |none=>rfl
  |some z=>cases z<;>rfl
def jzB {body:X->Option (X ⊕ Y)} {n:Nat} {x:X} {K:Y->Option R} (h:(some (Sum.inl x)).bind (jx5 body n K)=some r):(jae body n x).bind K=some r:=h
def lt_gs {n m:Nat} (h:n+1=m):n<m:=by omega
def jlm {body:X->Option (X ⊕ Y)} (inv:X->Prop) (mu:X->Nat) (post:Y->Prop)
  (h:∀x,inv x->(∃x',body x=some (.inl x')∧inv x'∧mu x'<mu x)∨∃y,body x=some (.inr y)∧post y) :
  ∀(n:Nat) (x:X),inv x->mu x<n->∃y,jae body n x=some y∧post y
 |0,_,_,hm=>absurd hm (Nat.not_lt_zero _)
 |n+1,x,hi,hm=>by
  unfold jae;rcases h x hi with ⟨x',he,hi',hm'⟩|⟨y,he,hp⟩
  ·rw[he];exact jlm inv mu post h n x' hi' (by omega)
  ·rw[he];exact⟨y,rfl,hp⟩
end Go.Sx
end

section
namespace Go.Sx
def jai {x:Int} (h:-9223372036854775808<=x∧x<=9223372036854775807):IntKind.i64.wrap x=x:=IntWalk.i64_in _ (by omega)
def juA {X Y:Type} {body:X->Option (X ⊕ Y)} (f:Nat->X) {y:Y}:∀(k:Nat) (s:Nat) (N:Nat),(∀i,s<=i->i<s+k->body (f i)=some (.inl (f (i+1))))->body (f (s+k))=some (.inr y)->k<N->jae body N (f s)=some y
 |0,s,0,_,_,h=>absurd h (by omega)
 |0,s,N+1,_,hy,_=>by
  unfold jae;rw[xH]at hy;rw[hy]
 |k+1,s,0,_,_,h=>absurd h (by omega)
 |k+1,s,N+1,h,hy,hN=>by
  unfold jae;rw[h s (zp _) (by omega)];exact juA f k (s+1) N (fun i h1 h2=>h i (by omega) (by omega)) (by rw[show s+1+k=s+(k+1) by omega];exact hy) (by omega)
def jat {X Y:Type} {body:X->Option (X ⊕ Y)} (f:Nat->X) {y:Y} {k:Nat} (h:∀i,i<k->body (f i)=some (.inl (f (i+1)))) (hy:body (f k)=some (.inr y)) (hk:k<18446744073709551616):jae body big (f 0)=some y :=juA f k 0 big (fun i _ h2=>h i (by omega)) (by rw[qa];exact hy) hk
def jaN {α Y:Type} (l:List α) (d:α) (P:α->Bool) {body:Int->Option (Int ⊕ Y)} (hit:Nat->Y) (miss:Y) (hlen:l.length<9223372036854775807)
  (h1:∀i,i<l.length->P (l.getD i d)=true->body (i:Int)=some (.inr (hit i)))
  (h2:∀i,i<l.length->P (l.getD i d)=false->body (i:Int)=some (.inl ((i:Int)+1))) (h3:body (l.length:Int)=some (.inr miss)) :
  jae body big 0=some (match l.findIdx? P with|some i=>hit i|none=>miss):=by
 cases hf:l.findIdx? P with
 |none =>
  rw[qv]at hf;refine jat (fun i=>(i:Int)) (k:=l.length) (fun i hi=>?_) h3 (by omega);have:=h2 i hi (by simpa [zb,hi]using hf l[i] (zW _));rw[this];rfl
 |some k =>
  rw[qm]at hf;obtain⟨hk,hp,hbef⟩:=hf;refine jat (fun i=>(i:Int)) (k:=k) (fun i hi=>?_) (h1 k hk (by simpa [zb,hk]using hp)) (by omega);have hil:i<l.length:=by omega
  have:=h2 i hil (by simpa [zb,hil]using hbef i hi);rw[this];rfl
def inI (n:Int):Prop:=-9223372036854775808<=n∧n<=9223372036854775807
def jaa {α U:Type} (x:α) (f:α->Option U):(some x).bind f=f x:=rfl
def jb0 {α Y:Type} (l:List α) (d:α) (P:α->Bool) {body:Int->Option (Int ⊕ Y)} (hit miss:Y) (hlen:l.length<9223372036854775807)
  (h1:∀i,i<l.length->P (l.getD i d)=true->body (i:Int)=some (.inr hit))
  (h2:∀i,i<l.length->P (l.getD i d)=false->body (i:Int)=some (.inl ((i:Int)+1))) (h3:body (l.length:Int)=some (.inr miss)) :
  jae body big 0=some (if l.any P=true then hit else miss):=by
 rw[jaN l d P (fun _=>hit) miss hlen h1 h2 h3];cases hf:l.findIdx? P with
 |none =>
  have:l.any P=false:=by
   rw[qv]at hf;rw[List.any_eq_false];intro x hx;simp[hf x hx]
  rw[this];rfl
 |some i =>
  have:l.any P=true:=by
   rw[qm]at hf;obtain⟨h,hp,_⟩:=hf;exact List.any_eq_true.2 ⟨_,zW h,hp⟩
  rw[this];rfl
def jcW {Y:Type} (n:Nat) (P:Nat->Bool) {body:Int->Option (Int ⊕ Y)} (hit miss:Y) (hlen:n<9223372036854775807)
  (h1:∀i,i<n->P i=true->body (i:Int)=some (.inr hit))
  (h2:∀i,i<n->P i=false->body (i:Int)=some (.inl ((i:Int)+1))) (h3:body (n:Int)=some (.inr miss)) :
  jae body big 0=some (if(zm n).any P=true then hit else miss):=by
 refine jb0 (zm n) 0 P hit miss (by simpa using hlen) (fun i hi hp=>?_) (fun i hi hp=>?_) (by simpa using h3)
 ·have hi:i<n:=by simpa using hi
  have e:(zm n).getD i 0=i:=by simp[zb,hi]
  rw[e]at hp;exact h1 i hi hp
 ·have hi:i<n:=by simpa using hi
  have e:(zm n).getD i 0=i:=by simp[zb,hi]
  rw[e]at hp;exact h2 i hi hp
end Go.Sx
end

section
namespace Go.Sx
class TC (R:Type) where
 c:R->R->Prop
 refl:∀a,c a a
instance (priority := low) instTC {α : Type} : TC α := ⟨fun a r => Ob (a = r) ∧ True, fun _ => ⟨⟨rfl⟩, trivial⟩⟩
instance instTCProd {α U : Type} [i : TC U] : TC (α × U) := ⟨fun a r => Ob (a.1 = r.1) ∧ i.c a.2 r.2, fun a => ⟨⟨rfl⟩, i.refl a.2⟩⟩
inductive T (R:Type):Type 1 where
 |brP (c:Prop) [d:Decidable c] (x y:T R)
 |brB (b:Bool) (x y:T R)
 |obP (c:Prop) [d:Decidable c] (x:T R)
 |obT (x:T R)
 |obC (c:Prop) (h:c) (x:T R)
 |call {A:Type} [i:Inhabited A] (e:Option A) (x:A->T R)
 |ret (a:R) (P:R->Prop) (h:P a)
 |rc [i:TC R] (a:R)
 |bad (Q:R->Prop)
def T.run {R:Type}:T R->Option R| @T.brP _ c d x y=>@ite _ c d x.run y.run| .brB b x y=>if b=true then x.run else y.run| @T.obP _ c d x=>@ite _ c d x.run none| .obT x=>x.run| .obC _ _ x=>x.run| @T.call _ _ _ e x=>ze e fun a=>(x a).run| .ret a _ _=>some a| @T.rc _ _ a=>some a| .bad _=>none
def T.cond {R:Type}:T R->R->Prop| @T.brP _ c d x y,r=>Br (@decide c d) (x.cond r) (y.cond r)| .brB b x y,r=>Br b (x.cond r) (y.cond r)| @T.obP _ c _ x,r=>Ob c∧x.cond r| .obT x,r=>Ob True∧x.cond r| .obC c _ x,r=>Ob c∧x.cond r| @T.call _ _ i e x,r=>Ob (ok e)∧(x (@val _ i e)).cond r| .ret _ P _,r=>P r| @T.rc _ i a,r=>i.c a r| .bad Q,r=>Q r
def T.sound {R:Type}:∀(t:T R) {r:R},t.run=some r->t.cond r
 | @T.brP _ c d x y,r,h=>by
  simp only[T.run]at h;simp only[T.cond]
  by_cases hc:c
  ·rw[if_pos hc]at h;rw[decide_eq_true hc];exact T.sound x h
  ·rw[if_neg hc]at h;rw[decide_eq_false hc];exact T.sound y h
 | .brB b x y,r,h=>by
  simp only[T.run]at h;simp only[T.cond];cases b
  ·exact T.sound y h
  ·exact T.sound x h
 | @T.obP _ c d x,r,h=>by
  simp only[T.run]at h
  by_cases hc:c
  ·rw[if_pos hc]at h;exact⟨⟨hc⟩,T.sound x h⟩
  ·rw[if_neg hc]at h;cases h
 | .obT x,r,h=>⟨⟨trivial⟩,T.sound x h⟩
 | .obC c hc x,r,h=>⟨⟨hc⟩,T.sound x h⟩
 | @T.call _ _ i e x,r,h=>by
  simp only[T.run]at h;cases e with
  |none=>cases h
  |some a=>exact⟨⟨rfl⟩,T.sound (x a) h⟩
 | .ret a P hP,r,h=>by
  cases h;exact hP
 | @T.rc _ i a,r,h=>by
  cases h;exact i.refl a
 | .bad _,r,h=>by cases h
def T.vc {R:Type} {t:T R} {m:Option R} {r:R} {p:Prop} (hm:t.run=m) (hp:t.cond r=p) (h:ze m some=some r):p:=by
 have h1:m=some r:=by cases m with
  |none=>cases h
  |some a=>exact h
 rw[<-hp];exact T.sound t (hm.trans h1)
def rcs {R:Type} [i:TC R] {a r:R} (h:ze (some a) some=some r):i.c a r:=by
 obtain rfl:=yf h;exact i.refl a
end Go.Sx
end

section
open Go.RowKit
namespace Go.Sx
def qD:D->D->Prop| .i _ x,.i _ y=>Ob (y=x)| .b x,.b y=>Ob (y=x)| .f _ x,.f _ y=>Ob (y=x)| .s x,.s y=>Ob (y=x)| .v x,.v y=>Ob (y=x)| .z _ x,.z _ y=>Ob (y=x)|_,_=>True
def qC (x' x:C) (k:Prop):Prop :=match x',x with| .d d',.d d=>qD d' d∧k| .p _ i' _ _,.p _ i _ _=>Ob (i=i')∧k| .g _ i' _ _,.g _ i _ _=>Ob (i=i')∧k|_,_=>k
def qCs:List C->List C->Prop->Prop|x' :: r',x::r,k=>qC x' x (qCs r' r k)|_,_,k=>k
def qA (x' x:AR) (k:Prop):Prop :=match x',x with| .f _ r',.f _ r=>Ob (r=r')∧k| .i r',.i r=>Ob (r=r')∧k|_,_=>k
def qW (x' x:W) (k:Prop):Prop :=match x',x with| .c y',.c y=>qC y' y k| .a l',.a l=>qCs l' l k| .b _ x',.b _ x=>qA x' x k|_,_=>k
def qWs:List W->List W->Prop->Prop|x' :: r',x::r,k=>qW x' x (qWs r' r k)|_,_,k=>k
def qT:List (Nat × V)->List (Nat × V)->Prop->Prop|(_,x')::r',(_,x)::r,k=>(match x',x with| .w y',.w y=>qW y' y (qT r' r k)| .t l',.t l=>qWs l' l (qT r' r k)|_,_=>k)|_,_,k=>k
def qK:Cont->Cont->Prop| .ints _ x,.ints _ y=>Ob (x=y)| .recs _ x,.recs _ y=>Ob (x=y)| .floats _ x,.floats _ y=>Ob (x=y)| .strs x,.strs y=>Ob (x=y)| .bools x,.bools y=>Ob (x=y)| .lits _ x,.lits _ y=>Ob (x=y)| .frs _ _ x,.frs _ _ y=>Ob (x=y)|_,_=>True
def qX:XC->XC->Prop| .st _ x,.st _ y=>Ob (x=y)| .ii _ x,.ii _ y=>Ob (x=y)| .ff _ x,.ff _ y=>Ob (x=y)| .bb _ _ x,.bb _ _ y=>Ob (x=y)| .rr _ x,.rr _ y=>Ob (x=y)|_,_=>True
def qO (o' o:O) (k:Prop):Prop :=match o',o with| .box _ x,.box _ y=>qCs x y k| .row _ x,.row _ y=>qK y x∧k| .ext x,.ext y=>qK y x∧k| .ebox x,.ebox y=>qCs x y k| .arr _ _ x,.arr _ _ y=>qA x y k| .xext x,.xext y=>qX y x∧k| .fext x,.fext y=>qK y x∧k| .xrow _ x,.xrow _ y=>qX y x∧k| .mrow _ _ x _,.mrow _ _ y _=>qX y x∧k| .trow _ _ x q',.trow _ _ y q=>qX y x∧Ob (q'=q)∧k| .sub _ i' _ _ _ x,.sub _ i _ _ _ y=>Ob (i=i')∧qK y x∧k| .view _ x _,.view _ y _=>qK y x∧k|_,_=>k
def qH:Hp->Hp->Prop|(_,x)::r',(_,y)::r=>qO x y (qH r' r)|_,_=>True
def allS (s s':St):Prop:=qT s'.tm s.tm (qH s'.hp s.hp)
def qD_rf (x:D):qD x x:=by cases x<;>exact⟨rfl⟩
def jCj {x:C} {k:Prop} (h:k):qC x x k:=by
 cases x with
 |d x=>exact⟨qD_rf x,h⟩
 |p=>exact⟨⟨rfl⟩,h⟩
 |g=>exact⟨⟨rfl⟩,h⟩
 |o=>exact h
 |fn=>exact h
def jpO:∀{l:List C} {k:Prop},k->qCs l l k|[],_,h=>h|_::_,_,h=>jCj (jpO h)
def jCk {x:AR} {k:Prop} (h:k):qA x x k:=by cases x<;>exact⟨⟨rfl⟩,h⟩
def jCl {x:W} {k:Prop} (h:k):qW x x k:=by
 cases x with
 |c=>exact jCj h
 |a=>exact jpO h
 |b=>exact jCk h
def jzC:∀{l:List W} {k:Prop},k->qWs l l k|[],_,h=>h|_::_,_,h=>jCl (jzC h)
def jx7:∀{l:List (Nat × V)} {k:Prop},k->qT l l k|[],_,h=>h|(_,.w _)::_,_,h=>jCl (jx7 h)|(_,.t _)::_,_,h=>jzC (jx7 h)
def jpP (x:Cont):qK x x:=by cases x<;>exact⟨rfl⟩
def jtA (x:XC):qX x x:=by cases x<;>exact⟨rfl⟩
def qO_rf {x:O} {k:Prop} (h:k):qO x x k:=by
 cases x with
 |box=>exact jpO h
 |ebox=>exact jpO h
 |arr=>exact jCk h
 |trow=>exact⟨jtA _,⟨rfl⟩,h⟩
 |sub=>exact⟨⟨rfl⟩,jpP _,h⟩
 |row=>exact⟨jpP _,h⟩
 |ext=>exact⟨jpP _,h⟩
 |fext=>exact⟨jpP _,h⟩
 |view=>exact⟨jpP _,h⟩
 |xext=>exact⟨jtA _,h⟩
 |xrow=>exact⟨jtA _,h⟩
 |mrow=>exact⟨jtA _,h⟩
 |_=>exact h
def jCm:∀{l:Hp},qH l l|[]=>trivial|_::_=>qO_rf jCm
def jCH (s:St):allS s s:=jx7 jCm
end Go.Sx
end

section
namespace Go.Sx
variable {X Y A R B Z:Type}
structure Cx (A R:Type) where
 G:Nat->Prop
 κ:Nat->A->Option R
 r:R
structure Sk (C:Cx A R) (e:Option A) where
 c:Prop
 ok:∀k,C.G k->e.bind (C.κ k)=some C.r->c
def top (r:R):Cx R R:=⟨fun _=>True,fun _=>some,r⟩
inductive Cl (Z:Type):Type 1 where
 |c {A:Type} (f:Z->A)
 |p (P:Z->Prop)
def jqO:List (Cl Z)->Z->Z->Prop|[],_,_=>True| .c f::l,v,w=>Ob (f v=f w)∧jqO l v w| .p P::l,v,w=>Ob (P w)∧jqO l v w
def okQ:List (Cl Z)->Z->Prop|[],_=>True| .c _::l,v=>okQ l v| .p P::l,v=>P v∧okQ l v
def jln:∀(l:List (Cl Z)) (v:Z),okQ l v->jqO l v v|[],_,_=>trivial| .c _::l,v,h=>⟨⟨rfl⟩,jln l v h⟩| .p _::l,v,h=>⟨⟨h.1⟩,jln l v h.2⟩
structure Lp (Z X Y A R:Type) where
 x:Z->X
 n:Z->Nat
 nx:Z->X->Nat->Z
 b:Z->X->Option (X ⊕ Y)
 I:Z->Y->Option A
 C:Z->Cx A R
 k:Z->Nat
 S:Z->St
def Lp.K (L:Lp Z X Y A R) (z:Z):Y->Option R:=fun y=>(L.I z y).bind ((L.C z).κ (L.k z))
def Lp.inv (L:Lp Z X Y A R) (z:Z):Prop:=(L.C z).G (L.k z)∧(jae (L.b z) (L.n z) (L.x z)).bind (L.K z)=some (L.C z).r
def Lp.cx (L:Lp Z X Y A R) (z:Z):Cx (X ⊕ Y) R:=⟨fun k=>k+1=L.n z∧(L.C z).G (L.k z),fun k=>jx5 (L.b z) k (L.K z),(L.C z).r⟩
def Lp.li (L:Lp Z X Y A R):Option LI:=some ⟨Z,L.S,L.inv,L.n⟩
def lp0 (b:X->Option (X ⊕ Y)) (I:Y->Option R) (r:R) (S:X × Nat->St):Lp (X × Nat) X Y R R:=⟨Prod.fst,Prod.snd,fun _ x n=>(x,n),fun _=>b,fun _=>I,fun _=>top r,fun _=>0,S⟩
variable {C:Cx A R}
def S_rf {f:Nat->St} (h:f=(fun _=>f 0)) (k:Nat):allS (f 0) (f k):=by
 have h:=congrFun h k;rw[h];exact jCH _
def Sk.br {c:Prop} [d:Decidable c] {x y:Option A} (p:Sk C x) (q:Sk C y):Sk C (if c then x else y) :=⟨Br (decide c) p.c q.c,fun k g h=>br_d h (p.ok k g) (q.ok k g)⟩
def Sk.brB {b:Bool} {x y:Option A} (p:Sk C x) (q:Sk C y):Sk C (if b=true then x else y) :=⟨Br b p.c q.c,fun k g h=>br_b h (p.ok k g) (q.ok k g)⟩
def Sk.ob {c:Prop} [d:Decidable c] {x:Option A} (p:Sk C x):Sk C (if c then x else none) :=⟨Ob c∧p.c,fun k g h=>ob_s h (p.ok k g)⟩
def Sk.obT {e:Option A} (p:Sk C e):Sk C e:=⟨Ob True∧p.c,fun k g h=>⟨⟨trivial⟩,p.ok k g h⟩⟩
def Sk.obC {e:Option A} (c:Prop) (hc:c) (p:Sk C e):Sk C e:=⟨Ob c∧p.c,fun k g h=>⟨⟨hc⟩,p.ok k g h⟩⟩
def Sk.call [Inhabited B] {e:Option B} {f:B->Option A} (p:Sk C (f (val e))):Sk C (e.bind f) :=⟨Ob (Go.Sx.ok e)∧p.c,fun k g h=>jDk h (p.ok k g)⟩
def Sk.rc [i:TC R] {r a:R}:Sk (top r) (some a):=⟨i.c a r,fun _ _ h=>rcs h⟩
def Sk.ret {r a:R} (P:R->Prop) (h:P a):Sk (top r) (some a):=⟨P r,fun _ _ e=>by cases e;exact h⟩
def Sk.bad (c:Prop):Sk C none:=⟨c,fun _ _ h=>nomatch h⟩
def Sk.loopQ {b:X->Option (X ⊕ Y)} {x:X} {I:Y->Option A} (L:Lp Z X Y A R) (Q:List (Cl Z)) (w:Nat->Z) (p:∀z,Sk (L.cx z) (L.b z (L.x z)))
  (hw:∀k,okQ Q (w k))
  (h:∀k,C.G k->((jae b big x).bind fun y=>(I y).bind (C.κ k))=some C.r->L.inv (w k):=by exact fun _ g h=>⟨g,h⟩)
  (hq:∀k,jqO Q (w k) (w k)->jqO Q (w 0) (w k):=by exact fun _ h=>h):Sk C ((jae b big x).bind I) :=
 ⟨(
  ∃v,Ob (L.inv v)∧jqO Q (w 0) v)∧∀v,L.inv v->(p v).c,fun k g e=>⟨⟨w k,⟨h k g (jzA e)⟩,hq k (jln Q _ (hw k))⟩,fun v hv=>by
  obtain⟨m,hm,e⟩:=juz hv.2;exact(p v).ok m ⟨hm.symm,hv.1⟩ e⟩⟩
def Sk.loop {b:X->Option (X ⊕ Y)} {x:X} {I:Y->Option A} (L:Lp Z X Y A R) (w:Nat->Z) (p:∀z,Sk (L.cx z) (L.b z (L.x z)))
  (h:∀k,C.G k->((jae b big x).bind fun y=>(I y).bind (C.κ k))=some C.r->L.inv (w k):=by exact fun _ g h=>⟨g,h⟩)
  (hq:(fun k=>L.S (w k))=(fun _=>L.S (w 0)):=by kernel_rfl):Sk C ((jae b big x).bind I) :=
 ⟨(
  ∃v,Ob (L.inv v)∧allS (L.S (w 0)) (L.S v))∧∀v,L.inv v->(p v).c,fun k g e=>⟨⟨w k,⟨h k g (jzA e)⟩,S_rf hq k⟩,fun v hv=>by
  obtain⟨m,hm,e⟩:=juz hv.2;exact(p v).ok m ⟨hm.symm,hv.1⟩ e⟩⟩
def Sk.next {L:Lp Z X Y A R} {z:Z} {x:X}
  (h:∀k,k+1=L.n z∧(L.C z).G (L.k z)->(jae (L.b z) k x).bind (L.K z)=some (L.C z).r->L.inv (L.nx z x k)∧L.n (L.nx z x k)<L.n z:=by exact fun _ g h=>⟨⟨g.2,h⟩,lt_gs g.1⟩)
  (hq:(fun k=>L.S (L.nx z x k))=(fun _=>L.S (L.nx z x 0)):=by kernel_rfl):Sk (L.cx z) (some (.inl x)) :=
 ⟨∃v,Ob (L.inv v)∧(Ob (L.n v<L.n z)∧allS (L.S (L.nx z x 0)) (L.S v)),fun k g e=>⟨L.nx z x k,⟨(h k g (jzB e)).1⟩,⟨(h k g (jzB e)).2⟩,S_rf hq k⟩⟩
def Sk.exit {L:Lp Z X Y A R} {z:Z} {y:Y} (p:Sk (L.C z) (L.I z y)):Sk (L.cx z) (some (.inr y)) :=⟨p.c,fun _ g e=>p.ok (L.k z) g.2 e⟩
def Sk.vc {e:Option R} {r:R} {p:Prop} (t:Sk (top r) e) (hp:t.c=p) (h:ze e some=some r):p:=hp ▸ t.ok 0 trivial h
def Sk.vd {e:Option R} {r:R} {p:Prop} (h:ze e some=some r) (t:Sk (top r) e) (hp:t.c=p):p:=hp ▸ t.ok 0 trivial h
end Go.Sx
end

section
namespace Go.Sx
def nI (l:List (List NC)) (i j:Nat):Int:=NC.toI ((l.getD i []).getD j (NC.d (D.v zJ)))
def nS (l:List (List NC)) (i j:Nat):ByteArray:=NC.toS ((l.getD i []).getD j (NC.d (D.v zJ)))
def nL (l:List (List NC)) (i j:Nat):List Int:=NC.toInts ((l.getD i []).getD j (NC.d (D.v zJ)))
def nR (l:List (List NC)) (i j:Nat):List (List Int):=NC.toRecs ((l.getD i []).getD j (NC.d (D.v zJ)))
section
variable {S R:Type} {g:S->Option R} {r:R}
end
def jDm {b:Bool} {x y:GT} {Q:List RR->Prop} (hx:b=true->x.sel.1->Q x.sel.2) (hy:b=false->y.sel.1->Q y.sel.2) (h:(GT.br b x y).sel.1):Q (GT.br b x y).sel.2:=by
 cases b with
 |true=>exact hx rfl h
 |false=>exact hy rfl h
end Go.Sx
end

section
namespace Go.Sx
def nestE:Nat->Bool|22|42|75|76|98|138=>true|_=>false
def jDn:Nat->Bool|42|98=>true|_=>false
instance globs : Globs := { tab := fun _ => none, nestT := nestE, nestM := jDn }
end Go.Sx
end

section
namespace Go.Sh
open Go Go.Proofs Go.RowKit Go.Sx
def bodyOf (f:jL):jn:=f.body.getD .skip
def mixed:Tryz.prog.follows .mixedOrders=true:=by kernel_rfl
abbrev runF (fn:jL) (sp:jab) (loops:jel) (as_:List A) (rs:List RV):Prop :=sx Tryz.prog sp fn.ntmps as_.length 40 loops (jcs Tryz.prog sp fn.ntmps) (bodyOf fn) 0 [] ⟨jbo 0 (jdA 0 as_),jfU 0 as_,as_.length⟩ (jbN Tryz.prog fn.results.toList fun v hp _=>jCg rs v hp)
def jdV (shs:List SV) (ls:List Lf):Bv:=(jdM shs 0 ls).getD ⟨[],[],0,[]⟩
def jeu {shs:List SV} {ls:List Lf} {b:Bv} (h:jdM shs 0 ls=some b):b=jdV shs ls:=by
 unfold jdV;rw[h];rfl
abbrev jqP (fn:jL) (sp:jab) (loops:jel) (b:Bv) (rs:List RR):Prop :=sx Tryz.prog sp fn.ntmps b.n 40 loops (jcs Tryz.prog sp fn.ntmps) (bodyOf fn) 0 [] ⟨jbo 0 b.vs,b.hp,b.n⟩ (jbN Tryz.prog fn.results.toList fun v hp _=>jfy b.n rs v hp)
def sp0:jab:=fun _=>none
def jaf:jam Tryz.prog sp0:=fun _ _ _ h=>by cases h
def jal (f:Nat) (M:Bool) (S:Sx.Spec) (sp:jab):jab:=fun k=>match zF k f with|true=>some (M,S)|false=>sp k
def jch {f:Nat} {M:Bool} {S:Sx.Spec} {sp:jab} (h:jaF Tryz.prog f M S) (hs:jam Tryz.prog sp):jam Tryz.prog (jal f M S sp):=by
 intro k M' S' hk;unfold jal at hk;split at hk
 ·rename_i e;have:=zi e;subst this;cases hk;exact h
 ·exact hs k M' S' hk
abbrev KO (s:jab->jab):Prop:=∀{sp:jab},jam Tryz.prog sp->jam Tryz.prog (s sp)
def jag {f:Nat} {M:Bool} {S:Sx.Spec} (h:jaF Tryz.prog f M S):KO (jal f M S):=jch h
def fnB (fn:jL):Bool:=fn.body.isSome && !(fn.name == "runtime.NumGoroutine")
def jdI {fn:jL} (h:fnB fn=true):fn.body=some (bodyOf fn)∧(fn.name == "runtime.NumGoroutine")=false:=by
 simp only[fnB,zk,xB,Option.isSome_iff_exists]at h;obtain⟨⟨b,hb⟩,h⟩:=h;exact⟨by unfold bodyOf;rw[hb];rfl,h⟩
def kK {sp:jab} {f:Nat} {fn:jL} {qs:List (Option Cont)} {g:List A->Option (Prop × List RV)} (hsp:jam Tryz.prog sp) (hf:Tryz.prog.funcs[f]?=some fn) (hb:fnB fn=true)
  (h:∀as_ ob rs,g as_=some (ob,rs)->ob->qN as_.length fn.ntmps=true∧∃loops,runF fn sp loops as_ rs):jaF Tryz.prog f true (jaK qs g) :=
 juw mixed hsp hf (jdI hb).1 (jdI hb).2 fun as_ ob rs hg ho=>⟨zQ (h as_ ob rs hg ho).1,40,(h as_ ob rs hg ho).2⟩
def kT {sp:jab} {f:Nat} {fn:jL} {shs:List SV} {g:List Lf->Option GT} (hsp:jam Tryz.prog sp) (hf:Tryz.prog.funcs[f]?=some fn) (hb:fnB fn=true)
  (h:∀ls t,g ls=some t->t.sel.1->qN (jdV shs ls).vs.length fn.ntmps=true∧∃loops,jqP fn sp loops (jdV shs ls) t.sel.2):jaF Tryz.prog f true (jak shs g) :=
 jjP mixed hsp hf (jdI hb).1 (jdI hb).2 fun ls t hg ho b hbl=>by
  obtain rfl:=jeu hbl;exact⟨zQ (h ls t hg ho).1,40,(h ls t hg ho).2⟩
open Go.IntKind (wrap)
set_option maxRecDepth 100000
def jx8:List (Option Cont):=[none,none,none]
def y34 (n lo hi:Int):Option Bool :=
 if lo<=n then some (decide (n<=hi))
 else some false
def jpQ:List A->Option (Prop × List RV)|[.d (.i .i64 n),.d (.i .i64 lo),.d (.i .i64 hi)]=>some (ok (y34 n lo hi),[.d (.b ((val (y34 n lo hi))))])|_=>none
abbrev sp_84:jab->jab:=jal 84 true (jaK jx8 jpQ)
def sp_84_ok:KO sp_84:=jag (kK jaf Tryz.func84 (by kernel_rfl) fun as_ ob rs h ho=>by
 unfold jpQ at h;split at h
 ·rename_i n lo hi;cases h;have ho:=jad ho
  generalize val (y34 n lo hi)=r at ho ⊢
  exact⟨by kernel_rfl,fun _ _ _=>none,Sk.vd ho (.br
   (.obT (.rc))
   (.obT (.rc))) (by kernel_rfl)⟩
 ·cases h)
def jx9:List (Option Cont):=[none,none,none]
def y23 (n lo hi:Int):Option Bool :=
 if lo<=n then some (decide (n<=hi))
 else some false
def jpR:List A->Option (Prop × List RV)|[.d (.i .i64 n),.d (.i .i64 lo),.d (.i .i64 hi)]=>some (ok (y23 n lo hi),[.d (.b ((val (y23 n lo hi))))])|_=>none
abbrev sp_45:jab->jab:=jal 45 true (jaK jx9 jpR)
def sp_45_ok:KO sp_45:=jag (kK jaf Tryz.func45 (by kernel_rfl) fun as_ ob rs h ho=>by
 unfold jpR at h;split at h
 ·rename_i n lo hi;cases h;have ho:=jad ho
  generalize val (y23 n lo hi)=r at ho ⊢
  exact⟨by kernel_rfl,fun _ _ _=>none,Sk.vd ho (.br
   (.obT (.rc))
   (.obT (.rc))) (by kernel_rfl)⟩
 ·cases h)
def jwb:List (Option Cont):=[none,none]
def jdo (n by_:Int):Option Int :=
 if wrap .i64 (2*by_)≠(0:Int)then if wrap .i64 (2*by_)≠(0:Int)then
  if Int.tmod (wrap .i64 (wrap .i64 (2*n)+by_)) (wrap .i64 (2*by_))<0 then some (wrap .i64 (wrap .i64 (Int.tdiv (wrap .i64 (wrap .i64 (2*n)+by_)) (wrap .i64 (2*by_)))-1))
  else some (wrap .i64 (Int.tdiv (wrap .i64 (wrap .i64 (2*n)+by_)) (wrap .i64 (2*by_))))
  else none
 else none
def jnF:List A->Option (Prop × List RV)|[.d (.i .i64 n),.d (.i .i64 by_)]=>some (ok (jdo n by_),[.d (.i .i64 ((val (jdo n by_))))])|_=>none
abbrev sp_172:jab->jab:=jal 172 true (jaK jwb jnF)
def sp_172_ok:KO sp_172:=jag (kK jaf Tryz.func172 (by kernel_rfl) fun as_ ob rs h ho=>by
 unfold jnF at h;split at h
 ·rename_i n by_;cases h;have ho:=jad ho
  generalize val (jdo n by_)=r at ho ⊢
  exact⟨by kernel_rfl,fun _ _ _=>none,Sk.vd ho (.ob (.ob (.br
   (.obT (.rc))
   (.obT (.rc))))) (by kernel_rfl)⟩
 ·cases h)
def jzD:List (Option Cont):=[none,none]
def jeP (n u54:Int):Option Bool :=
 ze (y34 n (wrap .i64 (0-u54)) u54) fun r0 =>
 some r0
def jsa:List A->Option (Prop × List RV)|[.d (.i .i64 n),.d (.i .i64 u54)]=>some (ok (jeP n u54),[.d (.b ((val (jeP n u54))))])|_=>none
abbrev sp_160:jab->jab:=jal 160 true (jaK jzD jsa)
def sp_160_ok:KO sp_160:=jag (kK (sp_84_ok jaf) Tryz.func160 (by kernel_rfl) fun as_ ob rs h ho=>by
 unfold jsa at h;split at h
 ·rename_i n u54;cases h;have ho:=jad ho
  generalize val (jeP n u54)=r at ho ⊢
  exact⟨by kernel_rfl,fun _ _ _=>none,Sk.vd ho (.call (.obT (.rc))) (by kernel_rfl)⟩
 ·cases h)
def jCI:List (Option Cont):=[some (.ints .i64 []),none]
def jgr (l:List Int) (n x0:Int):Option (Int ⊕ (Unit ⊕ Unit)) :=
 if x0<(↑l.length:Int)then if 0<=x0∧x0<(↑l.length:Int)then
  if zf x0<za l then if(zb l x0.toNat (0:Int)==n)=true then some (.inr ((.inl ())))
   else
   some (.inl (wrap .i64 (x0+1)))
  else none
  else none
 else some (.inr ((.inr ())))
def jya (u3:Unit):Option Bool :=some true
def jyb (u4:Unit):Option Bool :=some false
def juB:(Unit ⊕ Unit)->Option Bool :=(qy (jya) (jyb))
def jfW (l:List Int) (n:Int):Option Bool :=ze (jae (jgr l n) big (0:Int)) (juB)
def jxb:List A->Option (Prop × List RV)|[.r (.ints .i64 l),.d (.i .i64 n)]=>some (ok (jfW l n),[.d (.b ((val (jfW l n))))])|_=>none
abbrev sp_48:jab->jab:=jal 48 true (jaK jCI jxb)
def sp_48_ok:KO sp_48:=jag (kK jaf Tryz.func48 (by kernel_rfl) fun as_ ob rs h ho=>by
 unfold jxb at h;split at h
 ·rename_i l n;cases h;have ho:=jad ho
  generalize val (jfW l n)=r at ho ⊢
  let l0:=lp0 (jgr l n) juB r fun z=>⟨[(0,.w (.c (.o 0))),(1,.w (.c (.d (.i .i64 n)))),(5,.w (.c (.d (.i .i64 z.1))))],[(0,.ext (.ints .i64 l))],2⟩
  exact⟨by kernel_rfl,(fun _ id _=>match id with
   |0=>l0.li
   |_=>none),Sk.vd ho (.loop (l0) (fun kk=>((0:Int),big)) fun z0 =>
   .br
   (.ob (.ob (.brB
   (.exit (.obT (.rc)))
   (.next))))
   (.exit (.obT (.rc)))) (by kernel_rfl)⟩
 ·cases h)
def jA9:List (Option Cont):=[some (.ints .i64 []),some (.ints .i64 [])]
def jsb (a b:List Int) (x0:Int):Option (Int ⊕ (Unit ⊕ Unit)) :=
 if x0<(↑a.length:Int)then if 0<=x0∧x0<(↑a.length:Int)then
  if zf x0<za a then if 0<=x0∧x0<(↑b.length:Int)then
   if zf x0<za b then if(zb a x0.toNat (0:Int)!=zb b x0.toNat (0:Int))=true then some (.inr ((.inl ())))
    else
    some (.inl (wrap .i64 (x0+1)))
   else none
   else none
  else none
  else none
 else some (.inr ((.inr ())))
def jwc (u3:Unit):Option Bool :=some false
def jwd (u4:Unit):Option Bool :=some true
def jsc:(Unit ⊕ Unit)->Option Bool :=(qy (jwc) (jwd))
def jiz (a b:List Int):Option Bool :=
 if((↑a.length:Int)!=(↑b.length:Int))=true then some false
 else ze (jae (jsb a b) big (0:Int)) (jsc)
def juC:List A->Option (Prop × List RV)|[.r (.ints .i64 a),.r (.ints .i64 b)]=>some (ok (jiz a b),[.d (.b ((val (jiz a b))))])|_=>none
abbrev sp_24:jab->jab:=jal 24 true (jaK jA9 juC)
def sp_24_ok:KO sp_24:=jag (kK jaf Tryz.func24 (by kernel_rfl) fun as_ ob rs h ho=>by
 unfold juC at h;split at h
 ·rename_i a b;cases h;have ho:=jad ho
  generalize val (jiz a b)=r at ho ⊢
  let l0:=lp0 (jsb a b) jsc r fun z=>⟨[(0,.w (.c (.o 0))),(1,.w (.c (.o 1))),(5,.w (.c (.d (.i .i64 z.1))))],[(0,.ext (.ints .i64 a)),(1,.ext (.ints .i64 b))],2⟩
  exact⟨by kernel_rfl,(fun _ id _=>match id with
   |0=>l0.li
   |_=>none),Sk.vd ho (.brB
   (.obT (.rc))
   (.loop (l0) (fun kk=>((0:Int),big)) fun z0 =>
   .br
   (.ob (.ob (.ob (.ob (.brB
   (.exit (.obT (.rc)))
   (.next))))))
   (.exit (.obT (.rc))))) (by kernel_rfl)⟩
 ·cases h)
def juD:List (Option Cont):=[some (.ints .i64 [])]
def jlo (l:List Int):Option (List Int) :=
 if(0+za l)*8<=140737488355328∧0+za l<=9223372036854775807 then some ([]++l)
 else none
def jlp:List A->Option (Prop × List RV)|[.r (.ints .i64 l)]=>some (ok (jlo l),[.row 3 (.ints .i64 ((val (jlo l))))])|_=>none
abbrev sp_26:jab->jab:=jal 26 true (jaK juD jlp)
def sp_26_ok:KO sp_26:=jag (kK jaf Tryz.func26 (by kernel_rfl) fun as_ ob rs h ho=>by
 unfold jlp at h;split at h
 ·rename_i l;cases h;have ho:=jad ho
  generalize val (jlo l)=r at ho ⊢
  exact⟨by kernel_rfl,fun _ _ _=>none,Sk.vd ho (.ob (.obT (.rc))) (by kernel_rfl)⟩
 ·cases h)
def jyc:List (Option Cont):=[none,none]
def y50 (is:Bool) (e:Int):Option Int :=
 if(is)=true then some (0:Int)
 else some e
def jpS:List A->Option (Prop × List RV)|[.d (.b is),.d (.i .i64 e)]=>some (ok (y50 is e),[.d (.i .i64 ((val (y50 is e))))])|_=>none
abbrev sp_77:jab->jab:=jal 77 true (jaK jyc jpS)
def sp_77_ok:KO sp_77:=jag (kK jaf Tryz.func77 (by kernel_rfl) fun as_ ob rs h ho=>by
 unfold jpS at h;split at h
 ·rename_i is e;cases h;have ho:=jad ho
  generalize val (y50 is e)=r at ho ⊢
  exact⟨by kernel_rfl,fun _ _ _=>none,Sk.vd ho (.brB
   (.obT (.rc))
   (.obT (.rc))) (by kernel_rfl)⟩
 ·cases h)
def jwe:List SV:=[.b (.i []) 32]
def jos (l:List Int) (x0:(Int × List Nat)):Option ((Int × List Nat) ⊕ (List Nat)) :=
 if x0.1<32 then if 0<=x0.1∧x0.1<(↑(32:Nat):Int)then
  if 0<=x0.1∧x0.1<(↑(32:Nat):Int)then if 0+(0+zf x0.1*1)<32 then some (.inl ((wrap .i64 (x0.1+1),jeE (32:Nat) x0.2 (0+(0+zf x0.1*1)) (qw .f32 (zb l x0.1.toNat (0:Int))))))
   else none
  else none
  else none
 else some (.inr x0.2)
def jlq (u3:List Nat):Option (List Nat) :=some u3
def y80 (l:List Int):Option (List Nat) :=ze (jae (jos l) big (((0:Int),zO))) (jlq)
def jnG:List Lf->Option GT|[.b 32 (.i l)]=>some (.leaf (ok (y80 l)) [.b 32 (.f .f32 ((val (y80 l))))])|_=>none
abbrev sp_146:jab->jab:=jal 146 true (jak jwe jnG)
def sp_146_ok:KO sp_146:=jag (kT jaf Tryz.func146 (by kernel_rfl) fun ls t h ho=>by
 unfold jnG at h;split at h
 ·rename_i l;cases h;have ho:=jad ho
  generalize val (y80 l)=r at ho ⊢
  let l0:=lp0 (jos l) jlq r fun z=>⟨[(2,.w (.c (.p 0 0 1 0))),(3,.w (.c (.p 1 0 1 0))),(6,.w (.b 32 (.i l))),(7,.w (.c (.d (.i .i64 z.1.1))))],[(0,.arr 110 32 (.f .f32 (zO))),(1,.arr 110 32 (.f .f32 z.1.2))],2⟩
  exact⟨by kernel_rfl,(fun _ id _=>match id with
   |0=>l0.li
   |_=>none),Sk.vd ho (.obT (.loop (l0) (fun kk=>(((0:Int),zO),big)) fun z0 =>
   .br
   (.ob (.obT (.ob (.ob (.next)))))
   (.exit (.obT (.obT (.obT (.ret (fun r=>(Ob (r=z0.1.2) ∧
 True)) ⟨⟨rfl⟩,trivial⟩))))))) (by kernel_rfl)⟩
 ·cases h)
end Go.Sh
end

section
namespace Go.Sh
open Go Go.Proofs Go.RowKit Go.Sx
open Go.IntKind (wrap)
set_option maxRecDepth 100000
attribute [local irreducible] y80 jdo
def juE:List SV:=[.c (.p [.p [.d,.x (.st zS []),.r (.ints .i64 [])],.d,.x (.ff .f32 []),.x (.rr 4 []),.r (.frs .f32 32 []),.r (.ints .i64 []),.r (.frs .f32 32 []),.x (.rr 4 []),.r (.ints .i64 [])]),.c (.d),.c (.d)]
def jlr (u14 u13:List (List Nat)) (u33 k:Int):Option Int :=
 if k<0 then if 0<=u33∧u33<(↑u14.length:Int)then
  if zf u33<za u14 then if 0<=wrap .i64 (128+k)∧wrap .i64 (128+k)<(↑(za (zb u14 u33.toNat [])):Int)then
   if zf (wrap .i64 (128+k))<za (zb u14 u33.toNat [])then if jbR .f32 .i64 (zb (zb u14 u33.toNat []) (zf (wrap .i64 (128+k))) (0:Nat))=true then some (f2i .f32 (zb (zb u14 u33.toNat []) (zf (wrap .i64 (128+k))) (0:Nat)))
    else none
   else none
   else none
  else none
  else none
 else if 0<=u33∧u33<(↑u13.length:Int)then
  if 0<=k∧k<(↑(32:Nat):Int)then if zf u33<za u13∧0+zf k*1<32 then
   if jbR .f32 .i64 (zb (zb u13 u33.toNat []) (0+zf k*1) (0:Nat))=true then some (f2i .f32 (zb (zb u13 u33.toNat []) (0+zf k*1) (0:Nat)))
   else none
   else none
  else none
  else none
def jls:List Lf->Option GT|[.d (.s r_graphEngineGraphName),.x (.st [.s,.i .i64,.ints .i64,.ints .i64,.ints .i64,.i .i64,.recs 5,.i .i64] u23),.r (.ints .i64 r_graphorder),.d (.i .i64 u59),.x (.ff .f32 u14),.x (.rr 4 u50),.r (.frs .f32 32 u31),.r (.ints .i64 u51),.r (.frs .f32 32 u13),.x (.rr 4 u49),.r (.ints .i64 u29),.d (.i .i64 u33),.d (.i .i64 k)]=>some (.leaf (ok (jlr u14 u13 u33 k)) [.c (.d (.i .i64 ((val (jlr u14 u13 u33 k)))))])|_=>none
abbrev sp_149:jab->jab:=jal 149 true (jak juE jls)
def sp_149_ok:KO sp_149:=jag (kT jaf Tryz.func149 (by kernel_rfl) fun ls t h ho=>by
 unfold jls at h;split at h
 ·rename_i r_graphEngineGraphName u23 r_graphorder u59 u14 u50 u31 u51 u13 u49 u29 u33 k;cases h;have ho:=jad ho
  generalize val (jlr u14 u13 u33 k)=r at ho ⊢
  exact⟨by kernel_rfl,fun _ _ _=>none,Sk.vd ho (.br
   (.obT (.ob (.ob (.ob (.ob (.ob (.obT (.rc))))))))
   (.obT (.ob (.ob (.ob (.ob (.obT (.rc)))))))) (by kernel_rfl)⟩
 ·cases h)
attribute [irreducible] jlr
def jpT:List SV:=[.c (.p [.p [.d,.x (.st zS []),.r (.ints .i64 [])],.d,.x (.ff .f32 []),.x (.rr 4 []),.r (.frs .f32 32 []),.r (.ints .i64 []),.r (.frs .f32 32 []),.x (.rr 4 []),.r (.ints .i64 [])]),.a [.d,.d,.r (.ints .i64 []),.r (.ints .i64 []),.r (.ints .i64 []),.d,.r (.recs 5 []),.d],.c (.d),.c (.d)]
def y62 (u14 u13:List (List Nat)) (u21 u19:List Int) (u55 u56:Int) (x0:(Int × List Int)):Option ((Int × List Int) ⊕ (List Int)) :=
 if x0.1<32 then if 0<=u55∧u55<(↑u21.length:Int)then
  if zf u55<za u21 then if 0<=u55∧u55<(↑u19.length:Int)then
   if zf u55<za u19 then
    ze (jlr u14 u13 (zb u21 u55.toNat (0:Int)) (wrap .i64 (wrap .i64 (x0.1-zb u19 u55.toNat (0:Int))-u56))) fun r0 =>
    if 0<=x0.1∧x0.1<(↑(32:Nat):Int)then
    if 0+(0+zf x0.1*1)<32 then some (.inl ((wrap .i64 (x0.1+1),qz (jeH (32:Nat) x0.2) (0+(0+zf x0.1*1)) r0)))
    else none
    else none
   else none
   else none
  else none
  else none
 else some (.inr x0.2)
def jgs (u3:List Int):Option (List Int) :=some u3
def y27 (u14 u13:List (List Nat)) (u21 u19:List Int) (u55 u56:Int):Option (List Int) :=ze (jae (y62 u14 u13 u21 u19 u55 u56) big (((0:Int),zI))) (jgs)
def jhk:List Lf->Option GT|[.d (.s r_graphEngineGraphName),.x (.st [.s,.i .i64,.ints .i64,.ints .i64,.ints .i64,.i .i64,.recs 5,.i .i64] u23),.r (.ints .i64 r_graphorder),.d (.i .i64 u59),.x (.ff .f32 u14),.x (.rr 4 u50),.r (.frs .f32 32 u31),.r (.ints .i64 u51),.r (.frs .f32 32 u13),.x (.rr 4 u49),.r (.ints .i64 u29),.d (.s u34),.d (.i .i64 u17),.r (.ints .i64 u21),.r (.ints .i64 u19),.r (.ints .i64 u16),.d (.i .i64 u18),.r (.recs 5 u35),.d (.i .i64 u36),.d (.i .i64 u55),.d (.i .i64 u56)]=>some (.leaf (ok (y27 u14 u13 u21 u19 u55 u56)) [.b 32 (.i ((val (y27 u14 u13 u21 u19 u55 u56))))])|_=>none
abbrev sp_148:jab->jab:=jal 148 true (jak jpT jhk)
def sp_148_ok:KO sp_148:=jag (kT (sp_149_ok jaf) Tryz.func148 (by kernel_rfl) fun ls t h ho=>by
 unfold jhk at h;split at h
 ·rename_i r_graphEngineGraphName u23 r_graphorder u59 u14 u50 u31 u51 u13 u49 u29 u34 u17 u21 u19 u16 u18 u35 u36 u55 u56;cases h;have ho:=jad ho
  generalize val (y27 u14 u13 u21 u19 u55 u56)=r at ho ⊢
  let l0:=lp0 (y62 u14 u13 u21 u19 u55 u56) jgs r fun z=>⟨[(0,.w (.c (.p 10 0 1 0))),(2,.w (.c (.d (.i .i64 u55)))),(3,.w (.c (.d (.i .i64 u56)))),(5,.w (.c (.p 15 0 1 0))),(8,.w (.c (.p 16 0 1 0))),(9,.w (.c (.p 17 0 1 0))),(11,.w (.c (.d (.i .i64 z.1.1))))],[(10,.ebox [.p 2 0 1 0,.d (.i .i64 u59),.o 3,.o 4,.o 5,.o 6,.o 7,.o 8,.o 9]),(15,.box 118 [.d (.s u34),.d (.i .i64 u17),.o 11,.o 12,.o 13,.d (.i .i64 u18),.o 14,.d (.i .i64 u36)]),(16,.arr 206 32 (.i (zI))),(17,.arr 206 32 (.i z.1.2)),(2,.ebox [.d (.s r_graphEngineGraphName),.o 0,.o 1]),(3,.xext (XC.ff .f32 u14)),(4,.xext (XC.rr (4:Nat) u50)),(5,.ext (.frs .f32 32 u31)),(6,.ext (.ints .i64 u51)),(7,.ext (.frs .f32 32 u13)),(8,.xext (XC.rr (4:Nat) u49)),(9,.ext (.ints .i64 u29)),(11,.ext (.ints .i64 u21)),(12,.ext (.ints .i64 u19)),(13,.ext (.ints .i64 u16)),(14,.ext (.recs 5 u35)),(0,.xext (XC.st zS u23)),(1,.ext (.ints .i64 r_graphorder))],18⟩
  exact⟨by kernel_rfl,(fun _ id _=>match id with
   |0=>l0.li
   |_=>none),Sk.vd ho ((.loop (l0) (fun kk=>(((0:Int),zI),big)) fun z0 =>
   .br
   (.ob (.ob (.ob (.ob (.call (.ob (.ob (.next))))))))
   (.exit (.obT (.obT (.obT (.ret (fun r=>(Ob (r=z0.1.2) ∧
 True)) ⟨⟨rfl⟩,trivial⟩))))))) (by kernel_rfl)⟩
 ·cases h)
attribute [irreducible] y27
def jsV:List SV:=[.c (.p [.p [.d,.x (.st zS []),.r (.ints .i64 [])],.d,.x (.ff .f32 []),.x (.rr 4 []),.r (.frs .f32 32 []),.r (.ints .i64 []),.r (.frs .f32 32 []),.x (.rr 4 []),.r (.ints .i64 [])]),.a [.d,.d,.r (.ints .i64 []),.r (.ints .i64 []),.r (.ints .i64 []),.d,.r (.recs 5 []),.d]]
def jqQ (u16:List Int) (x0:Int × List Int) (r0:List Int) (x1:(Int × List Int)):Option ((Int × List Int) ⊕ (List Int)) :=
 if x1.1<32 then if 0<=x1.1∧x1.1<(↑(32:Nat):Int)then
  if 0<=x1.1∧x1.1<(↑(32:Nat):Int)then if 0+(0+zf x1.1*1)<32 then
   if 0<=x1.1∧x1.1<(↑(32:Nat):Int)then if 0+(0+zf x1.1*1)<32 then some (.inl ((wrap .i64 (x1.1+1),qz (jeH (32:Nat) x1.2) (0+(0+zf x1.1*1)) (wrap .i64 (zb x1.2 (0+(0+zf x1.1*1)) 0+wrap .i64 (zb u16 x0.1.toNat 0*zb r0 x1.1.toNat (0:Int)))))))
    else none
   else none
   else none
  else none
  else none
 else some (.inr x1.2)
def jeQ (x0:Int × List Int) (u7:List Int):Option ((Int × List Int) ⊕ (List Int)) :=some (.inl ((wrap .i64 (x0.1+1),u7)))
def y64 (u14 u13:List (List Nat)) (u21 u19 u16:List Int) (x0:(Int × List Int)):Option ((Int × List Int) ⊕ (List Int)) :=
 if x0.1<(↑u16.length:Int)then if 0<=x0.1∧x0.1<(↑u16.length:Int)then
  if zf x0.1<za u16 then
   ze (y27 u14 u13 u21 u19 x0.1 (0:Int)) fun r0 =>
   ze (jae (jqQ u16 x0 r0) big (((0:Int),x0.2))) (jeQ x0)
  else none
  else none
 else some (.inr x0.2)
def y81 (u3:List Int) (x2:(Int × Int × List Int)):Option ((Int × Int × List Int) ⊕ (Int × List Int)) :=
 if x2.2.1<32 then if 0<=x2.2.1∧x2.2.1<(↑(32:Nat):Int)then
  ze (jdo (zb u3 x2.2.1.toNat (0:Int)) (1000:Int)) fun r1 =>
  if 0<=x2.2.1∧x2.2.1<(↑(32:Nat):Int)then if 0+(0+zf x2.2.1*1)<32 then
   if 0<=x2.2.1∧x2.2.1<(↑(32:Nat):Int)then if 0+(0+zf x2.2.1*1)<32 then
    if(zb (qz (jeH (32:Nat) x2.2.2) (0+(0+zf x2.2.1*1)) (if(if r1<32767 then r1 else(32767:Int))>(-32767:Int)then if r1<32767 then r1 else(32767:Int)else(-32767:Int))) (0+(0+zf x2.2.1*1)) (0:Int)!=r1)=true then some (.inl ((wrap .i64 (x2.1+1),wrap .i64 (x2.2.1+1),qz (jeH (32:Nat) x2.2.2) (0+(0+zf x2.2.1*1)) (if(if r1<32767 then r1 else(32767:Int))>(-32767:Int)then if r1<32767 then r1 else(32767:Int)else(-32767:Int)))))
    else some (.inl ((x2.1,wrap .i64 (x2.2.1+1),qz (jeH (32:Nat) x2.2.2) (0+(0+zf x2.2.1*1)) (if(if r1<32767 then r1 else(32767:Int))>(-32767:Int)then if r1<32767 then r1 else(32767:Int)else(-32767:Int)))))
    else none
   else none
   else none
  else none
  else none
 else some (.inr (x2.1,x2.2.2))
def jeR (u22:Int × List Int):Option (List Nat × Int) :=
 ze (y80 u22.2) fun r2 =>
 some (r2,u22.1)
def jeS (u3:List Int):Option (List Nat × Int) :=ze (jae (y81 u3) big (((0:Int),0,u3))) (jeR)
def jlt (u14 u13:List (List Nat)) (u21 u19 u16:List Int):Option (List Nat × Int) :=ze (jae (y64 u14 u13 u21 u19 u16) big (((0:Int),zI))) (jeS)
def jkc:List Lf->Option GT|[.d (.s r_graphEngineGraphName),.x (.st [.s,.i .i64,.ints .i64,.ints .i64,.ints .i64,.i .i64,.recs 5,.i .i64] u23),.r (.ints .i64 r_graphorder),.d (.i .i64 u59),.x (.ff .f32 u14),.x (.rr 4 u50),.r (.frs .f32 32 u31),.r (.ints .i64 u51),.r (.frs .f32 32 u13),.x (.rr 4 u49),.r (.ints .i64 u29),.d (.s u34),.d (.i .i64 u17),.r (.ints .i64 u21),.r (.ints .i64 u19),.r (.ints .i64 u16),.d (.i .i64 u18),.r (.recs 5 u35),.d (.i .i64 u36)]=>some (.leaf (ok (jlt u14 u13 u21 u19 u16)) [.b 32 (.f .f32 ((val (jlt u14 u13 u21 u19 u16)).1)),.c (.d (.i .i64 ((val (jlt u14 u13 u21 u19 u16)).2)))])|_=>none
abbrev sp_147:jab->jab:=jal 147 true (jak jsV jkc)
def sp_147_ok:KO sp_147:=jag (kT (sp_148_ok (sp_172_ok (sp_146_ok jaf))) Tryz.func147 (by kernel_rfl) fun ls t h ho=>by
 unfold jkc at h;split at h
 ·rename_i r_graphEngineGraphName u23 r_graphorder u59 u14 u50 u31 u51 u13 u49 u29 u34 u17 u21 u19 u16 u18 u35 u36;cases h;have ho:=jad ho
  generalize val (jlt u14 u13 u21 u19 u16)=r at ho ⊢
  let l0:=lp0 (y64 u14 u13 u21 u19 u16) jeS r fun z=>⟨[(0,.w (.c (.p 10 0 1 0))),(3,.w (.c (.p 15 0 1 0))),(4,.w (.c (.p 16 0 1 0))),(6,.w (.c (.p 17 0 1 0))),(16,.w (.c (.o 13))),(17,.w (.c (.d (.i .i64 ((↑u16.length:Int)))))),(18,.w (.c (.d (.i .i64 z.1.1))))],[(10,.ebox [.p 2 0 1 0,.d (.i .i64 u59),.o 3,.o 4,.o 5,.o 6,.o 7,.o 8,.o 9]),(15,.box 118 [.d (.s u34),.d (.i .i64 u17),.o 11,.o 12,.o 13,.d (.i .i64 u18),.o 14,.d (.i .i64 u36)]),(16,.arr 110 32 (.f .f32 (zO))),(17,.arr 206 32 (.i z.1.2)),(13,.ext (.ints .i64 u16)),(2,.ebox [.d (.s r_graphEngineGraphName),.o 0,.o 1]),(3,.xext (XC.ff .f32 u14)),(4,.xext (XC.rr (4:Nat) u50)),(5,.ext (.frs .f32 32 u31)),(6,.ext (.ints .i64 u51)),(7,.ext (.frs .f32 32 u13)),(8,.xext (XC.rr (4:Nat) u49)),(9,.ext (.ints .i64 u29)),(11,.ext (.ints .i64 u21)),(12,.ext (.ints .i64 u19)),(14,.ext (.recs 5 u35)),(0,.xext (XC.st zS u23)),(1,.ext (.ints .i64 r_graphorder))],18⟩
  let l1 (m1:Nat):Lp ((Int × List Int) × Nat × (Int × List Int) × Nat) (Int × List Int) (List Int) (((Int × List Int) ⊕ (List Int))) (List Nat × Int):=⟨fun z=>z.2.2.1,fun z=>z.2.2.2,fun z x n=>(z.1,z.2.1,x,n),fun z=>jqQ u16 z.1 (val (y27 u14 u13 u21 u19 z.1.1 (0:Int))),fun z=>jeQ z.1,fun z=>(l0).cx (z.1,m1),fun z=>z.2.1,fun z=>⟨[(0,.w (.c (.p 10 0 1 0))),(3,.w (.c (.p 15 0 1 0))),(4,.w (.c (.p 16 0 1 0))),(6,.w (.c (.p 17 0 1 0))),(8,.w (.c (.d (.i .i64 (zb u16 z.1.1.toNat (0:Int)))))),(16,.w (.c (.o 13))),(17,.w (.c (.d (.i .i64 ((↑u16.length:Int)))))),(18,.w (.c (.d (.i .i64 (z.1.1))))),(26,.w (.b 32 (.i (val (y27 u14 u13 u21 u19 z.1.1 (0:Int)))))),(27,.w (.c (.d (.i .i64 z.2.2.1.1))))],[(10,.ebox [.p 2 0 1 0,.d (.i .i64 u59),.o 3,.o 4,.o 5,.o 6,.o 7,.o 8,.o 9]),(15,.box 118 [.d (.s u34),.d (.i .i64 u17),.o 11,.o 12,.o 13,.d (.i .i64 u18),.o 14,.d (.i .i64 u36)]),(16,.arr 110 32 (.f .f32 (zO))),(17,.arr 206 32 (.i z.2.2.1.2)),(13,.ext (.ints .i64 u16)),(2,.ebox [.d (.s r_graphEngineGraphName),.o 0,.o 1]),(3,.xext (XC.ff .f32 u14)),(4,.xext (XC.rr (4:Nat) u50)),(5,.ext (.frs .f32 32 u31)),(6,.ext (.ints .i64 u51)),(7,.ext (.frs .f32 32 u13)),(8,.xext (XC.rr (4:Nat) u49)),(9,.ext (.ints .i64 u29)),(11,.ext (.ints .i64 u21)),(12,.ext (.ints .i64 u19)),(14,.ext (.recs 5 u35)),(0,.xext (XC.st zS u23)),(1,.ext (.ints .i64 r_graphorder))],18⟩⟩
  let l2:Lp (List Int × (Int × Int × List Int) × Nat) (Int × Int × List Int) (Int × List Int) (List Nat × Int) (List Nat × Int):=⟨fun z=>z.2.1,fun z=>z.2.2,fun z x n=>(z.1,x,n),fun z=>y81 z.1,fun z=>jeR,fun z=>top r,fun z=>0,fun z=>⟨[(4,.w (.c (.p 15 0 1 0))),(6,.w (.c (.p 16 0 1 0))),(11,.w (.c (.d (.i .i64 z.2.1.1)))),(41,.w (.b 32 (.i z.1))),(42,.w (.c (.d (.i .i64 z.2.1.2.1))))],[(15,.arr 110 32 (.f .f32 (zO))),(16,.arr 206 32 (.i z.2.1.2.2))],17⟩⟩
  exact⟨by kernel_rfl,(fun gs id _=>match id with
   |0=>l0.li
   |2=>(l1 (gs.getD 0 0)).li
   |4=>l2.li
   |_=>none),Sk.vd ho ((.loop (l0) (fun kk=>(((0:Int),zI),big)) fun z0 =>
   .br
   (.ob (.ob (.call (.loop (l1 z0.2) (fun kk=>(z0.1,kk,((0:Int),z0.1.2),big)) fun z1 =>
   .br
   (.ob (.ob (.ob (.ob (.ob (.next))))))
   (.exit (.next))))))
   (.exit (.obT (.loop (l2) (fun kk=>(z0.1.2,((0:Int),0,z0.1.2),big)) fun z0 =>
   .br
   (.ob (.call (.ob (.ob (.ob (.ob (.brB
   (.next)
   (.next))))))))
   (.exit (.obT (.call (.obT (.obT (.obT (.ret (fun r=>(Ob (r.1=val (y80 z0.2.1.2.2)) ∧
 (Ob (z0.2.1.1=r.2) ∧
 True))) ⟨⟨rfl⟩,⟨⟨rfl⟩,trivial⟩⟩)))))))))))) (by kernel_rfl)⟩
 ·cases h)
attribute [irreducible] jlt
end Go.Sh
end

section
namespace Go.Sh
open Go Go.Proofs Go.RowKit Go.Sx
open Go.IntKind (wrap)
set_option maxRecDepth 100000
def jyd:List SV:=[.a [.d,.x (.st zS [])]]
def jqR (u1:List (List NC)) (x0:(Int × List (List NC))):Option ((Int × List (List NC)) ⊕ (List (List NC))) :=
 if x0.1<(↑u1.length:Int)then if 0<=x0.1∧x0.1<(↑u1.length:Int)then
  if zf x0.1<za u1 then
   ze (jlo (nL u1 x0.1.toNat (2:Nat))) fun r0 =>
   ze (jlo (nL u1 x0.1.toNat (3:Nat))) fun r1 =>
   ze (jlo (nL u1 x0.1.toNat (4:Nat))) fun r2 =>
   if(0+za (nR u1 x0.1.toNat (6:Nat)))*40<=140737488355328∧0+za (nR u1 x0.1.toNat (6:Nat))<=9223372036854775807 then
   if(za x0.2+za [[NC.d (D.s (nS u1 x0.1.toNat (0:Nat))),NC.d (D.i .i64 (nI u1 x0.1.toNat (1:Nat))),NC.r (Cont.ints .i64 r0),NC.r (Cont.ints .i64 r1),NC.r (Cont.ints .i64 r2),NC.d (D.i .i64 (nI u1 x0.1.toNat (5:Nat))),NC.r (Cont.recs (5:Nat) ([]++nR u1 x0.1.toNat (6:Nat))),NC.d (D.i .i64 (nI u1 x0.1.toNat (7:Nat)))]])*136<=140737488355328∧za x0.2+za [[NC.d (D.s (nS u1 x0.1.toNat (0:Nat))),NC.d (D.i .i64 (nI u1 x0.1.toNat (1:Nat))),NC.r (Cont.ints .i64 r0),NC.r (Cont.ints .i64 r1),NC.r (Cont.ints .i64 r2),NC.d (D.i .i64 (nI u1 x0.1.toNat (5:Nat))),NC.r (Cont.recs (5:Nat) ([]++nR u1 x0.1.toNat (6:Nat))),NC.d (D.i .i64 (nI u1 x0.1.toNat (7:Nat)))]]<=9223372036854775807 then some (.inl ((wrap .i64 (x0.1+1),x0.2++[[NC.d (D.s (nS u1 x0.1.toNat (0:Nat))),NC.d (D.i .i64 (nI u1 x0.1.toNat (1:Nat))),NC.r (Cont.ints .i64 r0),NC.r (Cont.ints .i64 r1),NC.r (Cont.ints .i64 r2),NC.d (D.i .i64 (nI u1 x0.1.toNat (5:Nat))),NC.r (Cont.recs (5:Nat) ([]++nR u1 x0.1.toNat (6:Nat))),NC.d (D.i .i64 (nI u1 x0.1.toNat (7:Nat)))]])))
   else none
   else none
  else none
  else none
 else some (.inr x0.2)
def jnH (u5:zY) (u3:List (List NC)):Option (ByteArray × List (List NC)) :=some (u5,u3)
def y4 (u5:zY) (u1:List (List NC)):Option (ByteArray × List (List NC)) :=ze (jae (jqR u1) big (((0:Int),[]))) (jnH u5)
def jpU:List Lf->Option GT|[.d (.s u5),.x (.st [.s,.i .i64,.ints .i64,.ints .i64,.ints .i64,.i .i64,.recs 5,.i .i64] u1)]=>some (.leaf (ok (y4 u5 u1)) [.s [.d (.s ((val (y4 u5 u1)).1)),.x 118 (.st (zS) ((val (y4 u5 u1)).2))]])|_=>none
abbrev sp_19:jab->jab:=jal 19 true (jak jyd jpU)
def sp_19_ok:KO sp_19:=jag (kT (sp_26_ok jaf) Tryz.func19 (by kernel_rfl) fun ls t h ho=>by
 unfold jpU at h;split at h
 ·rename_i u5 u1;cases h;have ho:=jad ho
  generalize val (y4 u5 u1)=r at ho ⊢
  let l0:=lp0 (jqR u1) (jnH u5) r fun z=>⟨[(1,.w (.c (.p 1 0 1 0))),(2,.w (.c (.p 2 0 1 0))),(3,.w (.c (.p 3 0 1 0))),(4,.w (.c (.d (.i .i64 z.1.1))))],[(1,.box 24 [.d (.s u5),.o 0]),(2,.box 24 [.d (.s (xd #[])),.d (.v (zx none (0:Nat) (0:Nat)))]),(3,.box 24 [.d (.s u5),.o 4]),(0,.xext (XC.st zS u1)),(4,.xrow 118 (XC.st zS z.1.2))],5⟩
  exact⟨by kernel_rfl,(fun _ id _=>match id with
   |0=>l0.li
   |_=>none),Sk.vd ho (.loopQ (l0) [.c fun _=>0,.c fun _=>0,.c fun _=>0,.c fun vv=>vv.1.1,.c fun _=>u5,.c fun _=>xd #[],.c fun _=>zx none (0:Nat) (0:Nat),.c fun _=>u5,.c fun _=>u1,.p fun vv=>za vv.1.2=(0:Nat)] (fun kk=>(((0:Int),[]),big)) (fun z0 =>
   .br
   (.ob (.ob (.call (.call (.call (.ob (.ob (.next))))))))
   (.exit (.obT (.rc)))) (fun _=>⟨rfl,trivial⟩)) (by kernel_rfl)⟩
 ·cases h)
end Go.Sh
end

section
namespace Go.Sh
open Go Go.Proofs Go.RowKit Go.Sx
open Go.IntKind (wrap)
set_option maxRecDepth 100000
def jzE:List SV:=[.a [.d,.x (.st zS [])]]
def jjQ (u1:List (List NC)) (x0:Int):Option (Int ⊕ (Unit ⊕ Unit)) :=
 if x0<(↑u1.length:Int)then if 0<=x0∧x0<(↑u1.length:Int)then
  if zf x0<za u1 then if(↑(yp (nS u1 x0.toNat (0:Nat))):Int)>20 then some (.inr ((.inl ())))
   else
   if(↑(za (nL u1 x0.toNat (2:Nat))):Int)>8 then some (.inr ((.inl ())))
   else if(↑(za (nL u1 x0.toNat (3:Nat))):Int)>8 then some (.inr ((.inl ())))
    else
    if(↑(za (nL u1 x0.toNat (4:Nat))):Int)>8 then some (.inr ((.inl ())))
    else if(↑(za (nR u1 x0.toNat (6:Nat))):Int)>8 then some (.inr ((.inl ())))
     else
     some (.inl (wrap .i64 (x0+1)))
  else none
  else none
 else some (.inr ((.inr ())))
def juF (u3:Unit):Option Bool :=some false
def juG (u4:Unit):Option Bool :=some true
def jev:(Unit ⊕ Unit)->Option Bool :=(qy (juF) (juG))
def jeT (u5:zY) (u1:List (List NC)):Option Bool :=
 if(↑(yp u5):Int)>20 then some false
 else if(↑u1.length:Int)>8 then
  if(↑u1.length:Int)<=24 then some false
  else if(↑u1.length:Int)>26 then some false
   else
   ze (jae (jjQ u1) big (0:Int)) (jev)
  else
  if(↑u1.length:Int)>26 then some false
  else ze (jae (jjQ u1) big (0:Int)) (jev)
def jsd:List Lf->Option GT|[.d (.s u5),.x (.st [.s,.i .i64,.ints .i64,.ints .i64,.ints .i64,.i .i64,.recs 5,.i .i64] u1)]=>some (.leaf (ok (jeT u5 u1)) [.c (.d (.b ((val (jeT u5 u1)))))])|_=>none
abbrev sp_17:jab->jab:=jal 17 true (jak jzE jsd)
def sp_17_ok:KO sp_17:=jag (kT jaf Tryz.func17 (by kernel_rfl) fun ls t h ho=>by
 unfold jsd at h;split at h
 ·rename_i u5 u1;cases h;have ho:=jad ho
  generalize val (jeT u5 u1)=r at ho ⊢
  let l0:=lp0 (jjQ u1) jev r fun z=>⟨[(1,.w (.c (.p 1 0 1 0))),(3,.w (.c (.d (.i .i64 z.1))))],[(1,.box 24 [.d (.s u5),.o 0]),(0,.xext (XC.st zS u1))],2⟩
  exact⟨by kernel_rfl,(fun _ id _=>match id with
   |0=>l0.li
   |_=>none),Sk.vd ho (.br
   (.obT (.rc))
   (.br
   (.br
   (.obT (.rc))
   (.br
   (.obT (.rc))
   (.loop (l0) (fun kk=>((0:Int),big)) fun z0 =>
   .br
   (.ob (.ob (.br
   (.exit (.obT (.rc)))
   (.br
   (.exit (.obT (.rc)))
   (.br
   (.exit (.obT (.rc)))
   (.br
   (.exit (.obT (.rc)))
   (.br
   (.exit (.obT (.rc)))
   (.next))))))))
   (.exit (.obT (.rc))))))
   (.br
   (.obT (.rc))
   (.loop (l0) (fun kk=>((0:Int),big)) fun z1 =>
   .br
   (.ob (.ob (.br
   (.exit (.obT (.rc)))
   (.br
   (.exit (.obT (.rc)))
   (.br
   (.exit (.obT (.rc)))
   (.br
   (.exit (.obT (.rc)))
   (.br
   (.exit (.obT (.rc)))
   (.next))))))))
   (.exit (.obT (.rc))))))) (by kernel_rfl)⟩
 ·cases h)
def jye:List (Option Cont):=[none]
def jhZ (s:zY) (x0:Int):Option (Int ⊕ (Unit ⊕ Unit)) :=
 if x0<(↑(yp s):Int)then if 0<=x0∧x0<(↑(yp s):Int)then
  if(↑(qG (qQ (qi s) x0.toNat (0:UInt8))):Int)>=97 then if(↑(qG (qQ (qi s) x0.toNat (0:UInt8))):Int)<=122 then some (.inl (wrap .i64 (x0+1)))
   else
   if(↑(qG (qQ (qi s) x0.toNat (0:UInt8))):Int)>=65 then if(!decide ((↑(qG (qQ (qi s) x0.toNat (0:UInt8))):Int)<=90))=true then
    if(x0==0)=true then some (.inr ((.inl ())))
    else if((↑(qG (qQ (qi s) x0.toNat (0:UInt8))):Int)!=45)=true then
     if(↑(qG (qQ (qi s) x0.toNat (0:UInt8))):Int)<48 then some (.inr ((.inl ())))
     else if(↑(qG (qQ (qi s) x0.toNat (0:UInt8))):Int)>57 then some (.inr ((.inl ())))
      else
      some (.inl (wrap .i64 (x0+1)))
     else
     some (.inl (wrap .i64 (x0+1)))
    else
    some (.inl (wrap .i64 (x0+1)))
   else if(x0==0)=true then some (.inr ((.inl ())))
    else
    if((↑(qG (qQ (qi s) x0.toNat (0:UInt8))):Int)!=45)=true then if(↑(qG (qQ (qi s) x0.toNat (0:UInt8))):Int)<48 then some (.inr ((.inl ())))
     else
     if(↑(qG (qQ (qi s) x0.toNat (0:UInt8))):Int)>57 then some (.inr ((.inl ())))
     else some (.inl (wrap .i64 (x0+1)))
    else some (.inl (wrap .i64 (x0+1)))
  else if(↑(qG (qQ (qi s) x0.toNat (0:UInt8))):Int)>=65 then
   if(!decide ((↑(qG (qQ (qi s) x0.toNat (0:UInt8))):Int)<=90))=true then if(x0==0)=true then some (.inr ((.inl ())))
    else
    if((↑(qG (qQ (qi s) x0.toNat (0:UInt8))):Int)!=45)=true then if(↑(qG (qQ (qi s) x0.toNat (0:UInt8))):Int)<48 then some (.inr ((.inl ())))
     else
     if(↑(qG (qQ (qi s) x0.toNat (0:UInt8))):Int)>57 then some (.inr ((.inl ())))
     else some (.inl (wrap .i64 (x0+1)))
    else some (.inl (wrap .i64 (x0+1)))
   else some (.inl (wrap .i64 (x0+1)))
   else
   if(x0==0)=true then some (.inr ((.inl ())))
   else if((↑(qG (qQ (qi s) x0.toNat (0:UInt8))):Int)!=45)=true then
    if(↑(qG (qQ (qi s) x0.toNat (0:UInt8))):Int)<48 then some (.inr ((.inl ())))
    else if(↑(qG (qQ (qi s) x0.toNat (0:UInt8))):Int)>57 then some (.inr ((.inl ())))
     else
     some (.inl (wrap .i64 (x0+1)))
    else
    some (.inl (wrap .i64 (x0+1)))
  else none
 else some (.inr ((.inr ())))
def jsW (u3:Unit):Option Bool :=some false
def jsX (u4:Unit):Option Bool :=some true
def jnI:(Unit ⊕ Unit)->Option Bool :=(qy (jsW) (jsX))
def jcX (s:zY):Option Bool :=
 if(↑(yp s):Int)<1 then some false
 else if(↑(yp s):Int)>12 then some false
  else
  ze (jae (jhZ s) big (0:Int)) (jnI)
def jpV:List A->Option (Prop × List RV)|[.d (.s s)]=>some (ok (jcX s),[.d (.b ((val (jcX s))))])|_=>none
abbrev sp_81:jab->jab:=jal 81 true (jaK jye jpV)
def sp_81_ok:KO sp_81:=jag (kK jaf Tryz.func81 (by kernel_rfl) fun as_ ob rs h ho=>by
 unfold jpV at h;split at h
 ·rename_i s;cases h;have ho:=jad ho
  generalize val (jcX s)=r at ho ⊢
  let l0:=lp0 (jhZ s) jnI r fun z=>⟨[(0,.w (.c (.d (.s s)))),(3,.w (.c (.d (.i .i64 z.1))))],[],1⟩
  exact⟨by kernel_rfl,(fun _ id _=>match id with
   |0=>l0.li
   |_=>none),Sk.vd ho (.br
   (.obT (.rc))
   (.br
   (.obT (.rc))
   (.loop (l0) (fun kk=>((0:Int),big)) fun z0 =>
   .br
   (.ob (.br
   (.br
   (.next)
   (.br
   (.brB
   (.brB
   (.exit (.obT (.rc)))
   (.brB
   (.br
   (.exit (.obT (.rc)))
   (.br
   (.exit (.obT (.rc)))
   (.next)))
   (.next)))
   (.next))
   (.brB
   (.exit (.obT (.rc)))
   (.brB
   (.br
   (.exit (.obT (.rc)))
   (.br
   (.exit (.obT (.rc)))
   (.next)))
   (.next)))))
   (.br
   (.brB
   (.brB
   (.exit (.obT (.rc)))
   (.brB
   (.br
   (.exit (.obT (.rc)))
   (.br
   (.exit (.obT (.rc)))
   (.next)))
   (.next)))
   (.next))
   (.brB
   (.exit (.obT (.rc)))
   (.brB
   (.br
   (.exit (.obT (.rc)))
   (.br
   (.exit (.obT (.rc)))
   (.next)))
   (.next))))))
   (.exit (.obT (.rc)))))) (by kernel_rfl)⟩
 ·cases h)
def jlu:List (Option Cont):=[none]
def y54 (sB0 sB1 sB2 sA0 sA1 x0:Int):Option (Int ⊕ (Unit ⊕ Unit)) :=
 if x0<(↑(za [sB0,sB1,sB2,sA0,sA1]):Int)then if 0<=x0∧x0<(↑(za [sB0,sB1,sB2,sA0,sA1]):Int)then
  if zf x0<za [sB0,sB1,sB2,sA0,sA1]then
   ze (y23 (zb [sB0,sB1,sB2,sA0,sA1] x0.toNat (0:Int)) (-32768:Int) (32768:Int)) fun r0 =>
   if(!r0)=true then
   some (.inr ((.inl ())))
   else
   some (.inl (wrap .i64 (x0+1)))
  else none
  else none
 else some (.inr ((.inr ())))
def jiA (u3:Unit):Option Int :=some (2:Int)
def jiB (u4:Unit):Option Int :=some (0:Int)
def y225:(Unit ⊕ Unit)->Option Int :=(qy (jiA) (jiB))
def y82 (sB0 sB1 sB2 sA0 sA1:Int):Option Int :=ze (jae (y54 sB0 sB1 sB2 sA0 sA1) big (0:Int)) (y225)
def y234:List A->Option (Prop × List RV)|[.s [.i .i64 sB0,.i .i64 sB1,.i .i64 sB2,.i .i64 sA0,.i .i64 sA1]]=>some (ok (y82 sB0 sB1 sB2 sA0 sA1),[.d (.i .i64 ((val (y82 sB0 sB1 sB2 sA0 sA1))))])|_=>none
abbrev sp_162:jab->jab:=jal 162 true (jaK jlu y234)
def sp_162_ok:KO sp_162:=jag (kK (sp_45_ok jaf) Tryz.func162 (by kernel_rfl) fun as_ ob rs h ho=>by
 unfold y234 at h;split at h
 ·rename_i sB0 sB1 sB2 sA0 sA1;cases h;have ho:=jad ho
  generalize val (y82 sB0 sB1 sB2 sA0 sA1)=r at ho ⊢
  let l0:=lp0 (y54 sB0 sB1 sB2 sA0 sA1) y225 r fun z=>⟨[(3,.w (.c (.o 1))),(4,.w (.c (.d (.i .i64 z.1))))],[(1,.row 3 (.ints .i64 ([sB0,sB1,sB2,sA0,sA1])))],2⟩
  exact⟨by kernel_rfl,(fun _ id _=>match id with
   |0=>l0.li
   |_=>none),Sk.vd ho (.obC ((0:Int)<=0∧(0:Int)<3) (by decide) (.obC ((0:Int)<=1∧(1:Int)<3) (by decide) (.obC ((0:Int)<=2∧(2:Int)<3) (by decide) (.obC ((0:Int)<=0∧(0:Int)<2) (by decide) (.obC ((0:Int)<=1∧(1:Int)<2) (by decide) (.loop (l0) (fun kk=>((0:Int),big)) fun z0 =>
   .br
   (.ob (.ob (.call (.brB
   (.exit (.obT (.rc)))
   (.next)))))
   (.exit (.obT (.rc))))))))) (by kernel_rfl)⟩
 ·cases h)
def jlv:List (Option Cont):=[some (.recs 5 [])]
def y55 (c:List (List Int)) (x0:Int):Option (Int ⊕ ((Int × Int) ⊕ Unit)) :=
 if x0<(↑c.length:Int)then if 0<=x0∧x0<(↑c.length:Int)then
  if zf x0<za c then
   ze (y82 (zb (zb c x0.toNat []) 0 (0:Int)) (zb (zb c x0.toNat []) 1 (0:Int)) (zb (zb c x0.toNat []) 2 (0:Int)) (zb (zb c x0.toNat []) 3 (0:Int)) (zb (zb c x0.toNat []) 4 (0:Int))) fun r0 =>
   if(r0 != 0)=true then
   some (.inr ((.inl (x0,r0))))
   else
   some (.inl (wrap .i64 (x0+1)))
  else none
  else none
 else some (.inr ((.inr ())))
def jiC (u3:Int × Int):Option (Int × Int) :=some (u3.1,u3.2)
def jiD (u4:Unit):Option (Int × Int) :=some (((0:Int),0))
def y226:((Int × Int) ⊕ Unit)->Option (Int × Int) :=(qy (jiC) (jiD))
def y42 (c:List (List Int)):Option (Int × Int) :=
 if(↑c.length:Int)>6 then some (((0:Int),8))
 else ze (jae (y55 c) big (0:Int)) (y226)
def y235:List A->Option (Prop × List RV)|[.r (.recs 5 c)]=>some (ok (y42 c),[.d (.i .i64 ((val (y42 c)).1)),.d (.i .i64 ((val (y42 c)).2))])|_=>none
abbrev sp_131:jab->jab:=jal 131 true (jaK jlv y235)
def sp_131_ok:KO sp_131:=jag (kK (sp_162_ok jaf) Tryz.func131 (by kernel_rfl) fun as_ ob rs h ho=>by
 unfold y235 at h;split at h
 ·rename_i c;cases h;have ho:=jad ho
  generalize val (y42 c)=r at ho ⊢
  let l0:=lp0 (y55 c) y226 r fun z=>⟨[(0,.w (.c (.o 0))),(4,.w (.c (.d (.i .i64 z.1))))],[(0,.ext (.recs 5 c))],1⟩
  exact⟨by kernel_rfl,(fun _ id _=>match id with
   |0=>l0.li
   |_=>none),Sk.vd ho (.br
   (.obT (.obT (.rc)))
   (.loop (l0) (fun kk=>((0:Int),big)) fun z0 =>
   .br
   (.ob (.ob (.call (.brB
   (.exit (.obT (.obT (.rc))))
   (.next)))))
   (.exit (.obT (.obT (.rc)))))) (by kernel_rfl)⟩
 ·cases h)
end Go.Sh
end
