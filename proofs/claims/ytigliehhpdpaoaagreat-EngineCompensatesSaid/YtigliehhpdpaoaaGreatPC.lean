/- Part 3 of the proof of EngineCompensates: the executor, the mirrors of the functions, the plain facts. -/
import Derived.Test.YtigliehhpdpaoaaGreatPB
set_option maxRecDepth 100000
set_option linter.unusedSectionVars false
set_option linter.unusedSimpArgs false
set_option linter.unusedVariables false
set_option linter.defProp false
open Array renaming getD_eq_getD_getElem?->qS,getElem?_eq_getElem->qE,getElem?_eq_none->gQ,getElem?_eq_some_iff->zA,getElem?_setIfInBounds->yp,getElem?_setIfInBounds_ne->yO,replicate->xe
open Bool renaming and_eq_true->zk,and_true->ky,eq_false_iff->qL,false_eq_true->qN,false_or->kA,not_eq_true'->xK,not_true->kz,or_eq_false_iff->yJ,or_eq_true->xn
open Function renaming comp_def->xq
open Go renaming Code->yb,Deferred->x7,Exit->jP,Oper->zX,Operand->zH,Program->zy,ResultVar->jc,Value->zF,World->zx,execOp->qr,getD_set_ne->gx,mem_ready->fg,rounds_succ->g7,undef->qe,wpAny->gR,wp_loop_rounds->g9,wp_mono->xG,yielded->jd
open Go.Act renaming eval->g6,put->yW
open Go.Code renaming rounds->gw
open Go.Ending renaming returned->xO
open Go.Oper renaming after->yy,dst->jj,upon->fh,wp->jv
open Go.Region renaming binds->yK,free->kL,noSelect->f9,ready->yi,wanted->xy
open Go.Result renaming andThen_ok->zh
open Go.RowKit.Below renaming refl->qO
open Go.Sem renaming run_bind->zn,run_pure->zp
open Go.World renaming ownsRow_nil->xt
open List renaming all_cons->j5,all_eq_true->zq,all_nil->kF,append_assoc->qJ,append_nil->yD,cons_append->qm,count_pos_iff->ft,eq_nil_of_length_eq_zero->qk,getD->za,getElem?_append_left->z7,getElem?_append_right->qa,getElem?_eq_getElem->zJ,getElem?_eq_none->z9,getElem?_eq_some_iff->zB,getElem?_map->zK,length_cons->z4,map_congr_left->z8,map_cons->zM,mem_cons->qv,mem_cons_of_mem->zR,mem_cons_self->zV,mem_map->qu,mem_of_getElem?->qX,nil_append->qM,range->zG,singleton_append->jS,take_succ_eq_append_getElem->xY
open List.cons renaming injEq->jw
open Nat renaming add_zero->qY,beq->zt,ble->qn,ble_eq->xd,ble_eq_true_of_le->xH,blt->qh,blt_eq->qz,eq_of_beq_eq_true->zb,le_of_lt->gO,le_refl->zu,le_trans->qx,lt_of_lt_of_le->zC,lt_or_ge->kE,lt_succ_self->zo,min_eq_left->yY,not_lt_zero->xZ,strongRecOn->hZ,zero_add->zP,zero_mul->qQ
open Option renaming bind_eq_some_iff->zD,bind_some->zw,getD_some->zU,map_some->zQ
open Option.some renaming inj->xT,injEq->zi
open Prod.mk renaming injEq->qg
section
open Go.RowKit
namespace Go.Sx
structure St where
 tm:List (Nat × V)
 hp:Hp
 nx:Nat
def jaE:List (Nat × V)->Nat->Option V
 |[],_=>none
 |(k,v)::r,t=>if k=t then some v else jaE r t
def jbC [Globs] (st:St):zH->Option V
 | .tmp t=>jaE st.tm t
 | .const v=>some (.w (ofValue v))
 | .global g=>match Globs.tab g with
  |some c=>some (.w (.c (.g g 0 c.e 0)))
  |none=>some (.w (.c (.d (.v (.pointer (some ⟨g,0,none⟩))))))
 | .func f=>some (.w (.c (.fn f [])))
structure RelD [Globs] (ds:List x7) (U:Env) (B:Kd) (N n0:Nat) (st:St) (a:Act) (w:zx):Prop where
 tm:∀t v,jaE st.tm t=some v->v.lt st.nx∧a.tmps.getD t qe=v.val U
 size:a.tmps.size=N
 defers:a.defers=ds
 heap:∃B',Grow B B' false w w∧HRel U B' st.hp st.nx w
 le:Old B w
 n0:n0<=st.nx
abbrev Rel [Globs]:=RelD []
def RelD.reads [Globs] {ds:List x7} {U:Env} {B:Kd} {N n0:Nat} {st:St} {a:Act} {w:zx} (h:RelD ds U B N n0 st a w):jav U st.nx (jbC st) a:=by
 intro x u hx;cases x with
 |tmp t=>exact h.tm t u hx
 |const v =>
  simp only[jbC,zi]at hx;subst hx;exact⟨jn8 _ v,(jmz U v).symm⟩
 |global g =>
  simp only[jbC]at hx;split at hx
  ·cases hx;exact⟨trivial,by simp[V.val,W.val,C.val,g6]⟩
  ·cases hx;exact⟨trivial,rfl⟩
 |func f =>
  simp only[jbC,zi]at hx;subst hx;exact⟨(fun _ hh=>by cases hh),by simp[V.val,W.val,C.val,g6]⟩
def Br (b:Bool) (x y:Prop):Prop:=Bool.rec (motive:=fun _=>Prop) y x b
structure Ob (p:Prop):Prop where
 h:p
def Br.intro {b:Bool} {x y:Prop} (h:b=true->x) (k:b=false->y):Br b x y:=by
 cases b
 ·exact k rfl
 ·exact h rfl
def St.put (st:St) (d:Option Nat) (r:Res):St :=
 match d with
 |some t=>⟨(t,r.v)::st.tm,r.hp,r.nx⟩
 |none=>⟨st.tm,r.hp,r.nx⟩
def jb0 (N:Nat):Option Nat->Bool
 |some t=>qh t N
 |none=>true
def ja7 (op:Op) (rd:zH->Option V) (hp:Hp):Bool :=
 match op with
 | .move _ | .assign _ | .pick _ _ _ | .unOp _ _ _ | .extract _ _ | .field _ _ _ | .nilCheck _ | .fieldAddr _ _ _ | .build _ _ | .makeFunc _ _ _ | .box _ _ | .alloc _ | .buildSlice _ _ _=>true
 | .binOp op _ x _ _=>match op with
  | .quo | .rem | .shl | .shr=>false
  | .add=>match(rd x).bind V.str?,(rd x).bind V.flt? with
   |none,none=>true
   |_,_=>false
  | .mul=>match(rd x).bind V.flt? with
   |none=>true
   |some _=>false
  |_=>true
 | .load _ x=>match rd x with
  |some (.w (.c (.p h _ (_+1) _)))=>match find hp h with
   |some (.box _ _)=>true
   |_=>false
  |_=>false
 | .store _ x _=>match rd x with
  |some (.w (.c (.p h _ (_+1) _)))=>match find hp h with
   |some (.box _ _)=>true
   |_=>false
  |_=>false
 | .call c=>match c.callee with
  | .builtin .len=>true
  | .builtin .min=>true
  | .builtin .max=>true
  |_=>false
 |_=>false
def RT.run:RT->(Res->Prop)->Prop
 | .leaf r,k=>k r
 | .br b x y,k=>Br b (x.run k) (y.run k)
def RT.run_sel:∀{t:RT} {k:Res->Prop},t.run k->k t.sel
 | .leaf _,_,h=>h
 | .br b x y,k,h=>by
  cases b
  ·exact RT.run_sel (t:=y) h
  ·exact RT.run_sel (t:=x) h
def jex [Globs] (P:zy) (sp:jaa) (N:Nat) (o:zX) (st:St) (k:St->Prop):Prop :=
 match jgm P sp o.op (jbC st) st.hp st.nx with
 |some t=>match jb0 N o.dst with
  |true=>t.run fun r=>Ob r.ob∧k (st.put o.dst r)
  |false=>False
 |none =>
 match step P sp o.op (jbC st) st.hp st.nx with
 |some r=>match jb0 N o.dst with
  |true=>match ja7 o.op (jbC st) st.hp with
   |true=>k (st.put o.dst r)
   |false=>Ob r.ob∧k (st.put o.dst r)
  |false=>False
 |none=>False
def jkS (N:Nat) (o:zX) (st:St) (k:St->Prop):Prop :=
 match jb0 N o.dst with
 |true=>k (st.put o.dst ⟨True,vu,st.hp,st.nx⟩)
 |false=>False
def je0 (all:List zX) (j:Nat) (st:St):Option (Nat × V) :=
 match(all[j]?).bind (·.dst)with
 |some t=>(jaE st.tm t).map fun v=>(t,v)
 |none=>none
def jji [Globs] (P:zy) (sp:jaa) (N:Nat) (all:List zX):List zX->St->(St->Prop)->Prop
 |[],st,k=>k st
 |o::r,st,k =>
  match o.guard with
  |none=>jex P sp N o st fun st'=>jji P sp N all r st' k
  |some (j,want) =>
   match je0 all j st with
   |some (t,.w (.c (.d (.b b)))) =>
    Br b
     (match want with
      |true=>jex P sp N o ⟨(t,vb true)::st.tm,st.hp,st.nx⟩ fun st'=>jji P sp N all r st' k
      |false=>jkS N o ⟨(t,vb true)::st.tm,st.hp,st.nx⟩ fun st'=>jji P sp N all r st' k)
     (match want with
      |true=>jkS N o ⟨(t,vb false)::st.tm,st.hp,st.nx⟩ fun st'=>jji P sp N all r st' k
      |false=>jex P sp N o ⟨(t,vb false)::st.tm,st.hp,st.nx⟩ fun st'=>jji P sp N all r st' k)
   |some (_,.w (.c (.d (.v (.tuple _)))))=>jkS N o st fun st'=>jji P sp N all r st' k
   |_=>False
inductive Ex where
 |normal
 |exit (n:Nat)
 |ret
def Ex.toExit:Ex->jP
 | .normal=>.normal
 | .exit n=>.exit n
 | .ret=>.ret
abbrev Rn:=List (Nat × Option Nat)
def jbn:Rn->Nat->Option (Option Nat)
 |[],_=>none
 |(k,v)::r,h=>if k=h then some v else jbn r h
def jrO (m:Rn) (h:Nat):Bool:=m.any fun x=>x.2==some h
def jjj (h' h:Nat) (m:Rn) (k:Rn->Prop):Prop :=
 match jbn m h' with
 |some (some s)=>if s=h then k m else False
 |some none=>False
 |none=>match jrO m h with
  |true=>False
  |false=>k ((h',some h)::m)
def jrP:List Nat->List Nat->Rn->(Rn->Prop)->Prop
 |[],[],m,k=>k m
 |h' :: r',h::r,m,k=>jjj h' h m fun m=>jrP r' r m k
 |_,_,_,_=>False
def mD:D->D->Prop
 | .i k n,.i k' n'=>if k=k' then Ob (n'=n)else False
 | .b x,.b y=>Ob (y=x)
 | .f k n,.f k' n'=>if k=k' then Ob (n'=n)else False
 | .s x,.s y=>Ob (y=x)
 | .v x,.v y=>Ob (y=x)
 | .z k' x,.z k y=>match jbN k' k with
  |true=>Ob (y=x)
  |false=>False
 |_,_=>False
def mC (x' x:C) (m:Rn) (k:Rn->Prop):Prop :=
 match x',x with
 | .d d',.d d=>mD d' d∧k m
 | .p h' i' e' j',.p h i e j=>if e'=e∧j'=j then Ob (i=i')∧jjj h' h m k else False
 | .o h',.o h=>jjj h' h m k
 | .o h',.d (.v (.slice none 0 0))=>match jbn m h' with
  |some none=>k m
  |some (some _)=>False
  |none=>k ((h',none)::m)
 | .fn f' hs',.fn f hs=>if f'=f then jrP hs' hs m k else False
 | .fb f' hs',.fb f hs=>if f'=f then jrP hs' hs m k else False
 | .g n' i' e' j',.g n i e j=>if n'=n∧e'=e∧j'=j then Ob (i=i')∧k m else False
 |_,_=>False
def mCs:List C->List C->Rn->(Rn->Prop)->Prop
 |[],[],m,k=>k m
 |x' :: r',x::r,m,k=>mC x' x m fun m=>mCs r' r m k
 |_,_,_,_=>False
def mW (x' x:W) (m:Rn) (k:Rn->Prop):Prop :=
 match x',x with
 | .c y',.c y=>mC y' y m k
 | .a l',.a l=>mCs l' l m k
 | .b k' e' r',.b k0 e r=>if k'=k0∧e'=e then Ob (r=r')∧k m else False
 |_,_=>False
def mWs:List W->List W->Rn->(Rn->Prop)->Prop
 |[],[],m,k=>k m
 |x' :: r',x::r,m,k=>mW x' x m fun m=>mWs r' r m k
 |_,_,_,_=>False
def mV (x' x:V) (m:Rn) (k:Rn->Prop):Prop :=
 match x',x with
 | .w y',.w y=>mW y' y m k
 | .t l',.t l=>mWs l' l m k
 |_,_=>False
def mT:List (Nat × V)->List (Nat × V)->Rn->(Rn->Prop)->Prop
 |[],_,m,k=>k m
 |(t,v')::r,tm,m,k=>match jaE tm t with
  |some v=>mV v' v m fun m=>mT r tm m k
  |none=>False
def jdW:Cont->Cont->Prop
 | .ints k l,.ints k' l'=>if k=k' then Ob (l'=l)else False
 | .recs e l,.recs e' l'=>if e=e' then Ob (l'=l)else False
 | .floats k l,.floats k' l'=>if k=k' then Ob (l'=l)else False
 | .strs l,.strs l'=>Ob (l'=l)
 | .bools l,.bools l'=>Ob (l'=l)
 | .lits e l,.lits e' l'=>if e=e' then Ob (l'=l)else False
 | .frs k e l,.frs k' e' l'=>if k=k'∧e=e' then Ob (l'=l)else False
 |_,_=>False
def mX:XC->XC->Prop
 | .st sh l,.st sh' l'=>if sh=sh' then Ob (l'=l)else False
 | .ii k l,.ii k' l'=>if k=k' then Ob (l'=l)else False
 | .ff k l,.ff k' l'=>if k=k' then Ob (l'=l)else False
 | .bb k e l,.bb k' e' l'=>if k=k'∧e=e' then Ob (l'=l)else False
 | .rr e l,.rr e' l'=>if e=e' then Ob (l'=l)else False
 |_,_=>False
def mO (o' o:O) (m:Rn) (k:Rn->Prop):Prop :=
 match o',o with
 | .box ty cs',.box ty' cs=>if ty=ty' then mCs cs' cs m k else False
 | .row ty c',.row ty' c=>if ty=ty' then jdW c' c∧k m else False
 | .ext c',.ext c=>jdW c' c∧k m
 | .nan q',.nan q=>match jbN q' q with
  |true=>k m
  |false=>False
 | .ebox cs',.ebox cs=>mCs cs' cs m k
 | .arr ty q e r,.arr ty' q' e' r'=>if ty=ty'∧q=q'∧e=e' then Ob (r'=r)∧k m else False
 | .xext X',.xext X=>mX X' X∧k m
 | .map es',.map es=>Ob (es=es')∧k m
 | .rrow c',.rrow c=>jdW c' c∧k m
 | .fext c',.fext c=>jdW c' c∧k m
 | .xrow ty X',.xrow ty' X=>if ty=ty' then mX X' X∧k m else False
 | .mrow ty ts X' none,.mrow ty' ts' X none=>if ty=ty'∧ts=ts' then mX X' X∧k m else False
 | .trow ty ts X' q',.trow ty' ts' X q=>if ty=ty'∧ts=ts' then mX X' X∧Ob (q'=q)∧k m else False
 | .mrow ty ts X' none,.trow ty' ts' X q=>if ty=ty'∧ts=ts' then mX X' X∧Ob (∀i j,i<X.n->j<X.e->q<=i*X.e+j->(X.sh.getD j .b).isSl=false)∧k m else False
 | .sub r' i' e' j' ty' c',.sub r i e j ty c=>if e'=e∧j'=j∧ty'=ty then Ob (i=i')∧jdW c' c∧jjj r' r m k else False
 | .view _ c' false,o=>match o.cont with
  |some c=>jdW c' c∧k m
  |none=>False
 |_,_=>False
def mH:Hp->Hp->Rn->(Rn->Prop)->Prop
 |[],_,m,k=>k m
 |(h',o')::r,hp,m,k =>
  match jbn m h' with
  |some (some h)=>match find hp h with
   |some o=>mO o' o m fun m=>mH r hp m k
   |none=>False
  |some none=>match o' with
   | .row _ c=>Ob (c.n=0)∧mH r hp m k
   | .xrow _ X=>Ob (X.n=0)∧mH r hp m k
   | .mrow _ _ X none=>Ob (X.n=0)∧mH r hp m k
   |_=>False
  |none=>match find hp h' with
   |some o=>jjj h' h' m fun m=>mO o' o m fun m=>mH r hp m k
   |none=>False
def D.ltb (_:Nat):D->Bool
 |_=>true
def C.ltb (n:Nat):C->Bool
 | .d _=>true
 | .p h _ _ _=>qh h n
 | .o h=>qh h n
 | .fn _ hs=>hs.all fun h=>qh h n
 | .fb _ hs=>hs.all fun h=>qh h n
 | .g _ _ _ _=>true
def W.ltb (n:Nat):W->Bool
 | .c x=>x.ltb n
 | .a l=>l.all (C.ltb n)
 | .b _ _ _=>true
def V.ltb (n:Nat):V->Bool
 | .w x=>x.ltb n
 | .t l=>l.all (W.ltb n)
def O.ltb (n:Nat):O->Bool
 | .box _ cs=>cs.all (C.ltb n)
 | .view r _ _=>qh r n
 | .sub r _ _ _ _ _=>qh r n
 | .ebox cs=>cs.all (C.ltb n)
 | .lbox _ _ _ cs=>cs.all (C.ltb n)
 | .lview r _ _ cs=>qh r n&&cs.all (C.ltb n)
 | .elist _ _ cs=>cs.all (C.ltb n)
 |_=>true
def St.wfb (st:St):Bool:=(st.tm.all fun x=>x.2.ltb st.nx)&&(st.hp.all fun x=>qh x.1 st.nx&&x.2.ltb st.nx)
def jx7 (n0:Nat) (m:Rn):Bool:=m.all fun x=>!(qh x.1 n0)||x.2==some x.1
def Le (n0:Nat) (st st':St):Prop :=
 match st'.wfb&&qn n0 st'.nx with
 |true=>mT st'.tm st.tm [] fun m=>mH st'.hp st.hp m fun m=>match jx7 n0 m with|true=>True|false=>False
 |false=>False
structure LI where
 X:Type
 st:X->St
 inv:X->Prop
 mu:X->Nat
abbrev jfv:=List Nat->Nat->St->Option LI
def jsw (body:St->(Ex->St->Prop)->Prop):Nat->St->(Ex->St->Prop)->Prop
 |0,_,_=>False
 |n+1,st,k=>body st fun e st'=>match e with
  | .normal=>jsw body n st' k
  |e=>k e st'
def sx [Globs] (P:zy) (sp:jaa) (N n0 fuel:Nat) (loops:jfv) (drawn:Array zX->St->(St->Prop)->Prop):yb->Nat->List Nat->St->(Ex->St->Prop)->Prop
 | .skip,_,_,st,k=>k .normal st
 | .label _,_,_,st,k=>k .normal st
 | .region _ ops draw,_,_,st,k =>
  match draw with
  |false=>jji P sp N ops.toList ops.toList st fun st'=>k .normal st'
  |true=>drawn ops st fun st'=>k .normal st'
 | .seq x y,cur,gs,st,k=>sx P sp N n0 fuel loops drawn x cur gs st fun e st'=>match e with
  | .normal=>sx P sp N n0 fuel loops drawn y cur gs st' k
  |e=>k e st'
 | .cond c x y,cur,gs,st,k =>
  match(jbC st c).bind V.bool? with
  |some b=>Br b (sx P sp N n0 fuel loops drawn x cur gs st k) (sx P sp N n0 fuel loops drawn y cur gs st k)
  |none=>False
 | .block id c,_,gs,st,k=>sx P sp N n0 fuel loops drawn c id gs st fun e st'=>match e with
  | .exit j=>if j=id then k .normal st' else k (.exit j) st'
  |e=>k e st'
 | .loop c,cur,gs,st,k =>
  match loops gs cur st with
  |some L=>(∃x,Ob (L.inv x)∧Le n0 st (L.st x))∧∀x,L.inv x->sx P sp N n0 fuel loops drawn c cur (L.mu x::gs) (L.st x) fun e st'=>match e with
   | .normal=>∃x',Ob (L.inv x')∧Ob (L.mu x'<L.mu x)∧Le n0 st' (L.st x')
   |e=>k e st'
  |none=>jsw (fun st k=>sx P sp N n0 fuel loops drawn c cur gs st k) fuel st k
 | .exit id,_,_,st,k=>k (.exit id) st
 | .ret,_,_,st,k=>k .ret st
 |_,_,_,_,_=>False
end Go.Sx
end

section
open Go.RowKit
namespace Go.Sx
section
variable [Globs] {P:zy} {U:Env} {B:Kd} {N n0:Nat} {st:St} {w:zx} {a:Act} {sp:jaa} {ds:List x7}
def jsx {d:Option Nat} (h:jb0 N d=true):∀t,d=some t->t<N:=by
 intro t ht;subst ht;simpa [jb0,qz]using h
def jbQ {a:Act} {d:Option Nat} {v:zF} {t:Nat} (hd:∀x,d=some x->x<a.tmps.size) :
  (a.put d v).tmps.getD t qe=if d=some t then v else a.tmps.getD t qe:=by
 cases d with
 |none=>simp[yW]
 |some x =>
  have:=hd x rfl;simp only[yW,zi]
  by_cases h:x=t
  ·subst h;simp[this]
  ·simp[h,yO h]
def jbD {a:Act} {d:Option Nat} {v:zF}:(a.put d v).tmps.size=a.tmps.size:=by
 cases d<;>simp[yW]
def jb9 {a:Act} {d:Option Nat} {v:zF}:(a.put d v).defers=a.defers:=by
 cases d<;>simp[yW]
def RelD.put1 {o:zX} {r:Res} {M:Bool} {U':Env} {w':zx} {B1:Kd} (h:RelD ds U B N n0 st a w) (g:Grow B B1 false w w) (hd:jb0 N o.dst=true) (hl:Left U B1 st.nx w r M U' w') :
  RelD ds U' B N n0 (st.put o.dst r) (a.put o.dst (r.v.val U')) w':=by
 have hdl:∀x,o.dst=some x->x<a.tmps.size:=fun x hx=>by rw[h.size];exact jsx hd x hx
 have hnx:(st.put o.dst r).nx=r.nx:=by cases o.dst<;>rfl
 have hhp:(st.put o.dst r).hp=r.hp:=by cases o.dst<;>rfl
 refine⟨fun t v hv=>?_,by rw[jbD];exact h.size,by rw[jb9];exact h.defers,by
  rw[hhp,hnx];obtain⟨B2,g2,h2⟩:=hl.heap;exact⟨B2,((g.trans g2.weak (zu _) hl.below.size).weak),h2⟩,(hl.below.mono g.le.kp).old h.le,by rw[hnx];exact qx h.n0 hl.le⟩
 rw[jbQ hdl,hnx]
 have hold:∀v,jaE st.tm t=some v->v.lt r.nx∧a.tmps.getD t qe=v.val U':=fun v hv=>by
  have:=h.tm t v hv;exact⟨V.lt_mono hl.le this.1,by rw[this.2,V.val_agree hl.agree this.1]⟩
 cases hdst:o.dst with
 |none =>
  simp only[hdst,St.put]at hv;simpa using hold v hv
 |some x =>
  simp only[hdst,St.put,jaE]at hv;split at hv
  ·rename_i e;subst e;cases hv;simp[hl.lt]
  ·rename_i e;simp only[zi,e,if_false];exact hold v hv
def RelD.skip {o:zX} (h:RelD ds U B N n0 st a w) (hd:jb0 N o.dst=true):RelD ds U B N n0 (st.put o.dst ⟨True,vu,st.hp,st.nx⟩) (a.put o.dst qe) w :=
 let ⟨_,g,hh⟩:=h.heap
 h.put1 (M:=true) (o:=o) (r:=⟨True,vu,st.hp,st.nx⟩) g hd ⟨jae.refl _ _,trivial,zu _,hh.gr,Bel.refl _ _,(fun _=>qO _ _),fun _ k o b hn hf _=>absurd (hh.ok k o hf).1 (by omega)⟩
def RelD.know {t:Nat} {b:Bool} (h:RelD ds U B N n0 st a w) (hb:jaE st.tm t=some (vb b)):RelD ds U B N n0 ⟨(t,vb b)::st.tm,st.hp,st.nx⟩ a w:=by
 refine⟨fun t' v hv=>?_,h.size,h.defers,h.heap,h.le,h.n0⟩;simp only[jaE]at hv;split at hv
 ·rename_i e;subst e;cases hv;exact h.tm t _ hb
 ·exact h.tm t' v hv
def Qx (ds:List x7) (U0:Env) (B:Kd) (N n0:Nat) (w0:zx) (k:Ex->St->Prop):jP->Act->zx->Prop:=fun e a w =>
 ∃x U st,e=x.toExit∧k x st∧RelD ds U B N n0 st a w∧jae n0 U0 U∧Bel B w0 w
variable {U0:Env} {w0:zx}
def juv {op:BinOp} {k k':IntKind} {m n:Int} {ob:Prop} {v:V} (ht:(match op with | .quo | .rem | .shl | .shr=>false|_=>true)=true) (h:jfJ op k m k' n=some (ob,v)):ob:=by
 unfold jfJ at h;cases op<;>simp at ht h<;>obtain⟨_,h,_⟩:=h<;>first|exact h|exact h ▸ trivial
def jbs {α:Type} {x:Option α} {f:α->Prop × V} {ob:Prop} {v:V} (h:x.map f=some (ob,v)) (hf:∀a,(f a).1=True):ob:=by
 cases x with
 |none=>cases h
 |some a =>
  simp only[zQ,zi]at h;have:=hf a;rw[h]at this;exact cast this.symm trivial
def jzD {op:Op} {rd:zH->Option V} {hp:Hp} {ob:Prop} {v:V} (ht:ja7 op rd hp=true) (h:jfs P op rd hp=some (ob,v)):ob:=by
 unfold jfs at h;unfold ja7 at ht;cases op with
 |binOp op t x y yt =>
  dsimp only at h ht;split at h
  ·rename_i u u' hx hy;split at h
   ·rename_i a b hu hu';split at h
    ·simp[hx,hu]at ht
    ·cases h
   ·split at h
    ·unfold jod at h;cases op<;>simp at h<;>exact h.1
    ·split at h
     ·unfold jfK at h;cases op<;>simp at h<;>exact h.1
     ·cases h
  ·cases h
 |load t x =>
  dsimp only at h ht;split at h
  ·rename_i hx;simp[hx]at ht
  ·cases h
 |call c =>
  dsimp only at h ht;split at h
  ·split at h
   ·split at h
    ·cases h;trivial
    ·split at h
     ·cases h;trivial
     ·cases h
   ·cases h
  ·rename_i hc _;split at h
   ·split at h
    ·cases h;trivial
    ·cases h
   ·cases h
  ·split at h
   ·cases h;trivial
   ·cases h
  ·split at h
   ·cases h;trivial
   ·cases h
  ·cases h
 |nilCheck x =>
  dsimp only at h;split at h
  ·cases h;trivial
  ·cases h
 |fieldAddr s x f =>
  dsimp only at h;split at h
  ·split at h
   ·split at h
    ·cases h;trivial
    ·cases h
   ·cases h
  ·cases h
 |slice t x lo hi mx=>simp at ht
 |convert s d x=>simp at ht
 |index t x i=>simp at ht
 |indexAddr t x i=>simp at ht
 |sliceToArrayPointer t x=>simp at ht
 |_=>simp at h
def jzE {op:Op} {rd:zH->Option V} {hp:Hp} {nx:Nat} {r:Res} (ht:ja7 op rd hp=true) (h:jdS P op rd hp nx=some r):r.ob:=by
 unfold jdS at h;unfold ja7 at ht;cases op with
 |box elem x =>
  dsimp only at h;split at h
  ·cases h;trivial
  ·cases h
 |alloc elem =>
  dsimp only at h;split at h
  ·cases h;trivial
  ·cases h
 |buildSlice t n ps =>
  dsimp only at h;split at h
  ·split at h
   ·split at h
    ·cases h;trivial
    ·cases h
   ·cases h
  ·cases h
 |slice t x lo hi mx=>simp at ht
 |convert s d x=>simp at ht
 |load t x =>
  dsimp only at h ht;split at h
  ·rename_i hx;split at h
   ·rename_i hf;simp only[hx]at ht;split at ht
    ·rename_i heq;cases heq;obtain⟨ox,hf1,hf2⟩:=zD.1 hf;cases ox<;>simp[O.xk]at hf2<;>simp[hf1]at ht
    ·cases ht
   ·cases h
  ·cases h
 |store t x y =>
  dsimp only at h ht;split at h
  ·rename_i hx hy;split at h
   ·rename_i hf;simp only[hx]at ht;split at ht
    ·rename_i heq;cases heq;simp[hf]at ht
    ·cases ht
   ·rename_i hf;simp only[hx]at ht;split at ht
    ·rename_i heq;cases heq;simp[hf]at ht
    ·cases ht
   ·cases h
  ·rename_i hx hy;split at h
   ·rename_i hf;simp only[hx]at ht;split at ht
    ·rename_i heq;cases heq;simp[hf]at ht
    ·cases ht
   ·rename_i hf;simp only[hx]at ht;split at ht
    ·rename_i heq;cases heq;simp[hf]at ht
    ·cases ht
   ·cases h
  ·rename_i hx hy;split at h
   ·rename_i hf;simp only[hx]at ht;split at ht
    ·rename_i heq;cases heq;simp[hf]at ht
    ·cases ht
   ·cases h
  ·cases h
 |makeMap t r =>
  cases r with
  |none =>
   dsimp only at h;split at h
   ·cases h;trivial
   ·cases h
  |some r=>simp at h
 |lookup t x i ok =>
  cases ok with
  |true =>
   dsimp only at h;split at h
   ·split at h
    ·cases h;trivial
    ·cases h
   ·cases h
  |false=>simp at h
 |mapUpdate t m i y =>
  dsimp only at h;split at h
  ·split at h
   ·cases h;trivial
   ·cases h
  ·cases h
 |_=>simp at h
def jzF {op:Op} {rd:zH->Option V} {hp:Hp} {nx:Nat} {r:Res} (ht:ja7 op rd hp=true) (h:jdT P op rd hp nx=some r):r.ob:=by
 unfold jdT at h;unfold ja7 at ht;cases op with
 |buildSlice t n ps =>
  dsimp only at h;split at h
  ·split at h
   ·split at h
    ·cases h;trivial
    ·cases h
   ·cases h
  ·cases h
 |makeSlice t l c=>simp at ht
 |store t x y =>
  dsimp only at h ht;split at h
  ·rename_i k i e j u hx hy;split at h
   ·rename_i ty X sz hf hs;simp only[hx]at ht;split at ht
    ·rename_i heq;cases heq;simp[hf]at ht
    ·cases ht
   ·cases h
  ·cases h
 |call c =>
  dsimp only at h ht;split at h
  ·rename_i hc _ _;simp[hc]at ht
  ·cases h
 |_=>simp at h
def jzG {op:Op} {rd:zH->Option V} {hp:Hp} {nx:Nat} {r:Res} (ht:ja7 op rd hp=true) (h:jdV P op rd hp nx=some r):r.ob:=by
 unfold jdV at h;unfold ja7 at ht;cases op with
 |load t x =>
  dsimp only at h ht;split at h
  ·rename_i k i e j hx;split at h
   ·rename_i ty ts X m hf;simp only[hx]at ht;split at ht
    ·rename_i heq;cases heq;simp[hf]at ht
    ·cases ht
   ·cases h
  ·cases h
 |store t x y =>
  dsimp only at h ht;split at h
  ·rename_i k i e j u hx hy;simp only[hx]at ht;split at h
   ·rename_i ty ts X m sz hf hs;split at ht
    ·rename_i heq;cases heq;simp[hf]at ht
    ·cases ht
   ·split at h
    ·cases h;trivial
    ·cases h
   ·cases h
  ·cases h
 |_=>simp at h
def jzH {op:Op} {rd:zH->Option V} {hp:Hp} {nx:Nat} {r:Res} (ht:ja7 op rd hp=true) (h:jdU P op rd hp nx=some r):r.ob:=by
 unfold jdU at h;unfold ja7 at ht;cases op with
 |buildSlice t n ps =>
  dsimp only at h;split at h
  ·split at h
   ·split at h
    ·split at h
     ·cases h;trivial
     ·cases h
    ·cases h
   ·cases h
  ·cases h
 |makeSlice t l c=>simp at ht
 |load t x =>
  dsimp only at h ht;split at h
  ·rename_i k i e j hx;split at h
   ·rename_i ty ts X hf;simp only[hx]at ht;split at ht
    ·rename_i heq;cases heq;simp[hf]at ht
    ·cases ht
   ·cases h
  ·cases h
 |store t x y =>
  dsimp only at h ht;split at h
  ·rename_i k i e j u hx hy;simp only[hx]at ht;split at h
   ·rename_i ty ts X ho sz hf hs;split at ht
    ·rename_i heq;cases heq;simp[hf]at ht
    ·cases ht
   ·rename_i r0 i0 e0 j0 t0 c sz hf hs;split at ht
    ·rename_i heq;cases heq;simp[hf]at ht
    ·cases ht
   ·cases h
  ·cases h
 |call c =>
  dsimp only at h ht;split at h
  ·rename_i hc _ _;simp[hc]at ht
  ·cases h
 |_=>simp at h
def jzI {op:Op} {rd:zH->Option V} {hp:Hp} {nx:Nat} {r:Res} (ht:ja7 op rd hp=true) (h:jev P op rd hp nx=some r):r.ob:=by
 unfold jev at h;unfold ja7 at ht;cases op with
 |buildSlice t n ps =>
  dsimp only at h;split at h
  ·split at h
   ·cases h;trivial
   ·cases h
  ·cases h
 |makeSlice t l c=>simp at ht
 |slice t x lo hi mx=>simp at ht
 |store t x y =>
  dsimp only at h ht;split at h
  ·split at h
   ·split at h
    ·cases h;trivial
    ·cases h
   ·cases h
  ·cases h
 |call c =>
  dsimp only at h ht;split at h
  ·rename_i hc _ _;simp[hc]at ht
  ·cases h
 |_=>simp at h
def jiz {op:Op} {rd:zH->Option V} {hp:Hp} {nx:Nat} {r:Res} (ht:ja7 op rd hp=true) (h:step P sp op rd hp nx=some r):r.ob:=by
 unfold step at h;cases hv:ja4 P op rd hp with
 |some p =>
  obtain⟨ob,v⟩:=p;simp only[hv,zi]at h;subst h
  show ob
  unfold ja4 at hv;split at hv
  rotate_left
  ·exact jzD ht hv
  rename_i p hv0;cases hv;have hv:=hv0;clear hv0;unfold ja3 at hv;unfold ja7 at ht;cases op with
  |binOp op t x y yt =>
   dsimp only at hv ht;split at hv
   ·split at hv
    ·refine juv ?_ hv;cases op<;>first|rfl|exact ht
    ·split at hv
     ·split at hv
      ·unfold jl4 at hv;cases op<;>simp at hv<;>exact hv.1
      ·cases hv
     ·split at hv
      ·unfold joa at hv;cases op<;>simp at hv<;>exact hv.1
      ·split at hv
       ·rename_i hu _;unfold jn9 at hv;split at hv
        ·cases op<;>simp at hv<;>first|exact hv.1|(simp_all)
        ·cases hv
       ·split at hv
        ·split at hv
         ·exact jbs hv (fun _=>rfl)
         ·exact jbs hv (fun _=>rfl)
         ·cases hv
        ·cases hv
   ·cases hv
  |load t x =>
   dsimp only at hv ht;split at hv
   ·rename_i k i e j hx;cases e with
    |zero=>simp[hx]at ht
    |succ e =>
    simp only[hx]at ht;split at hv
    ·rename_i o hf;simp only[hf]at ht;cases o with
     |box ty cs =>
      unfold jdd at hv;split at hv
      ·dsimp only[jet]at hv;split at hv
       ·split at hv
        ·cases hv;trivial
        ·cases hv
       ·cases hc:cs[i*(e+1)+j]? with
        |none=>simp[hc]at hv
        |some c=>simp[hc]at hv;exact hv.1
      ·cases hv
     |_=>simp at ht
    ·cases hv
   ·cases hv
  |call c =>
   dsimp only at hv ht;split at hv
   ·split at hv
    ·exact jbs hv (fun _=>rfl)
    ·split at hv
     ·cases hv;trivial
     ·cases hv
    ·exact jbs hv (fun _=>rfl)
    ·cases hv;trivial
    ·cases hv
   ·split at hv
    ·exact jbs hv (fun _=>rfl)
    ·cases hv
   ·split at hv
    ·exact jbs hv (fun _=>rfl)
    ·cases hv
   ·cases hv
  |pick c x y =>
   dsimp only at hv;split at hv
   ·exact jbs hv (fun _=>rfl)
   ·exact jbs hv (fun _=>rfl)
   ·cases hv
  |unOp op t x =>
   dsimp only at hv;split at hv
   ·exact jbs hv (fun _=>rfl)
   ·exact jbs hv (fun _=>rfl)
   ·cases hv
  |move x=>exact jbs hv (fun _=>rfl)
  |assign x=>exact jbs hv (fun _=>rfl)
  |extract t i =>
   dsimp only at hv;split at hv
   ·exact jbs hv (fun _=>rfl)
   ·cases hv
  |field t x f =>
   dsimp only at hv;split at hv
   ·split at hv
    ·exact jbs hv (fun _=>rfl)
    ·cases hv
   ·cases hv
  |nilCheck x =>
   dsimp only at hv;split at hv
   ·cases hv;trivial
   ·cases hv
  |fieldAddr s x f =>
   dsimp only at hv;split at hv
   ·split at hv
    ·split at hv
     ·cases hv;trivial
     ·cases hv
    ·cases hv
   ·cases hv
  |build t parts =>
   dsimp only at hv;split at hv
   ·exact jbs hv (fun _=>rfl)
   ·cases hv
  |makeFunc f first cap =>
   cases f with
   |func f =>
    dsimp only at hv;split at hv
    ·cases hv;trivial
    ·split at hv
     ·cases hv;trivial
     ·cases hv
    ·cases hv
   |_=>simp at hv
  |_=>simp at hv ht
 |none =>
  simp only[hv]at h;split at h
  ·rename_i r0 hR;unfold jdf at hR;split at hR
   ·simp[ja7]at ht
   ·simp[ja7]at ht
   ·cases hR
  split at h
  ·rename_i r0 hX;cases h;exact jzE ht hX
  split at h
  ·rename_i r0 hX;cases h;exact jzI ht hX
  split at h
  ·rename_i r0 hX;cases h;exact jzH ht hX
  split at h
  ·rename_i r0 hX;cases h;exact jzG ht hX
  split at h
  ·rename_i r0 hX;cases h;exact jzF ht hX
  unfold jhz at h;unfold ja7 at ht;cases op with
  |box elem x =>
   dsimp only at h;split at h
   ·split at h
    ·cases h;trivial
    ·cases h
   ·cases h
  |alloc elem =>
   dsimp only at h;split at h
   ·cases h;trivial
   ·cases h
  |buildSlice t n ps =>
   dsimp only at h;split at h
   ·split at h
    ·cases h;trivial
    ·cases h
   ·cases h
  |store t x y =>
   dsimp only at h ht;split at h
   ·rename_i k i e j u hx hy;cases e with
    |zero=>simp[hx]at ht
    |succ e =>
    simp only[hx]at ht;split at h
    ·split at h
     ·simp only[jok]at h;split at h
      ·cases h;trivial
      ·cases h
     ·rename_i hf;simp[hf]at ht
     ·cases h
    ·cases h
   ·cases h
  |call c =>
   dsimp only at h ht;split at h
   ·rename_i hc _ _;simp[hc]at ht
   ·rename_i hc;simp[hc]at ht
   ·cases h
  |_=>simp at h ht
def jcz {o:zX} {k:St->Prop} {K:Act->zx->Prop} {Q:jP->Act->zx->Prop} (hsp:jac P sp) (hr:RelD ds U B N n0 st a w) (hag:jae n0 U0 U) (hbl:Bel B w0 w) (h:jex P sp N o st k)
  (hK:∀U' st' a' w',RelD ds U' B N n0 st' a' w'->jae n0 U0 U'->Bel B w0 w'->k st'->K a' w'):o.wp P a w K Q:=by
 unfold jex at h;split at h
 ·rename_i t ht2;split at h
  ·rename_i hd;have h:=RT.run_sel h;obtain⟨B1,g,hh⟩:=hr.heap;obtain⟨M,hS⟩:=juu hsp hh (g.old hr.le) hr.reads ht2 h.1.h;refine hS K Q fun U' w' hl=>?_;exact hK U' _ _ w' (hr.put1 g hd hl) (hag.trans hl.agree hr.n0) (hbl.trans (hl.below.mono g.le.kp)) h.2
  ·exact h.elim
 split at h
 ·rename_i r hr2;split at h
  ·rename_i hd;obtain⟨B1,g,hh⟩:=hr.heap;split at h
   ·rename_i ht;refine jb8 hsp hh (g.old hr.le) hr.reads hr2 (jiz ht hr2) K Q fun U' w' hl=>?_;exact hK U' _ _ w' (hr.put1 g hd hl) (hag.trans hl.agree hr.n0) (hbl.trans (hl.below.mono g.le.kp)) h
   ·refine jb8 hsp hh (g.old hr.le) hr.reads hr2 h.1.h K Q fun U' w' hl=>?_;exact hK U' _ _ w' (hr.put1 g hd hl) (hag.trans hl.agree hr.n0) (hbl.trans (hl.below.mono g.le.kp)) h.2
  ·exact h.elim
 ·exact h.elim
def jgT {o:zX} {k:St->Prop} {K:Act->zx->Prop} (hr:RelD ds U B N n0 st a w) (hag:jae n0 U0 U) (hbl:Bel B w0 w) (h:jkS N o st k)
  (hK:∀U' st' a' w',RelD ds U' B N n0 st' a' w'->jae n0 U0 U'->Bel B w0 w'->k st'->K a' w'):K (a.put o.dst qe) w:=by
 unfold jkS at h;split at h
 ·rename_i hd;exact hK U _ _ w (hr.skip hd) hag hbl h
 ·exact h.elim
def jdX {all:List zX} {j t:Nat} {v:V} (hr:RelD ds U B N n0 st a w) (h:je0 all j st=some (t,v)) (ht:t<N∨v=v) :
  jd all.toArray a.tmps j=(match v.val U with | .bool b=>some b|_=>none)∧jaE st.tm t=some v:=by
 unfold je0 at h;cases hd:(all[j]?).bind (·.dst)with
 |none=>simp[hd]at h
 |some t' =>
  cases hg:jaE st.tm t' with
  |none=>simp[hd,hg]at h
  |some v' =>
   simp[hd,hg]at h;obtain⟨rfl,rfl⟩:=h;refine⟨?_,hg⟩;have h1:=(hr.tm t' v' hg).2;unfold jd;have hd2:((all.toArray[j]?).bind (·.dst))=some t':=by simpa using hd
   rw[hd2];simp only[zw];rw[<-h1]
   by_cases hlt:t'<a.tmps.size
   ·simp only[qS,qE hlt,zU];cases a.tmps[t']<;>rfl
   ·simp[hlt,qe]
def jow {all:List zX} {Q:jP->Act->zx->Prop} {k:St->Prop} (hsp:jac P sp)
  (hQ:∀U' st' a' w',RelD ds U' B N n0 st' a' w'->jae n0 U0 U'->Bel B w0 w'->k st'->Q .normal a' w') :
  ∀(l:List zX) (U:Env) (st:St) (a:Act) (w:zx),RelD ds U B N n0 st a w->jae n0 U0 U->Bel B w0 w->jji P sp N all l st k->wpList P all.toArray Q l a w
 |[],U,st,a,w,hr,hag,hbl,h=>hQ U st a w hr hag hbl h
 |o::r,U,st,a,w,hr,hag,hbl,h=>by
  have ih:=fun U' st' a' w' (h1:RelD ds U' B N n0 st' a' w') h2 h3 h4=>jow (all:=all) hsp hQ r U' st' a' w' h1 h2 h3 h4;unfold jji at h;unfold wpList;cases hg:o.guard with
  |none =>
   simp only[hg]at h;have hw:xy o (jd all.toArray a.tmps)=true:=by simp[xy,hg]
   rw[if_pos hw];exact .inl (jcz hsp hr hag hbl h ih)
  |some p =>
   obtain⟨j,want⟩:=p;simp only[hg]at h;have hwanted:∀ob,jd all.toArray a.tmps j=ob->xy o (jd all.toArray a.tmps)=(ob==some want):=fun ob hob=>by simp[xy,hg,hob]
   split at h
   ·rename_i t b hgo;obtain⟨hy,hget⟩:=jdX hr hgo (.inr rfl);have hw:=hwanted _ hy;have hval:(V.w (.c (.d (.b b)))).val U=.bool b:=rfl;rw[hval]at hw;have hkn:=hr.know hget;cases b<;>cases want<;>simp only[Br]at h
    ·rw[if_pos (by rw[hw];rfl)];exact .inl (jcz hsp hkn hag hbl h ih)
    ·rw[if_neg (by rw[hw];simp)];exact jgT hkn hag hbl h ih
    ·rw[if_neg (by rw[hw];simp)];exact jgT hkn hag hbl h ih
    ·rw[if_pos (by rw[hw];rfl)];exact .inl (jcz hsp hkn hag hbl h ih)
   ·rename_i t vs hgo;obtain⟨hy,hget⟩:=jdX hr hgo (.inr rfl);have hw:=hwanted _ hy;have hval:(V.w (.c (.d (.v (.tuple vs))))).val U=.tuple vs:=rfl;rw[hval]at hw;rw[if_neg (by rw[hw];simp)];exact jgT hr hag hbl h ih
   ·exact h.elim
def jcA (U:Env) (m:Rn):Env:=fun h=>match jbn m h with
 |some (some s)=>U s
 |some none=>.slice none 0 0
 |none=>U h
def Ext (m m':Rn):Prop:=∀h x,jbn m h=some x->jbn m' h=some x
def Ext.refl (m:Rn):Ext m m:=fun _ _ h=>h
def Ext.trans {a b c:Rn} (h:Ext a b) (k:Ext b c):Ext a c:=fun x y hx=>k x y (h x y hx)
def Inj (m:Rn):Prop:=∀h h' s,jbn m h=some (some s)->jbn m h'=some (some s)->h=h'
def jwj {m:Rn} {s:Nat} (h:jrO m s=false):∀x,jbn m x≠some (some s):=by
 induction m with
 |nil=>intro x hx;simp[jbn]at hx
 |cons p r ih =>
  obtain⟨k,v⟩:=p;simp only[jrO,List.any_cons,yJ]at h;intro x hx;simp only[jbn]at hx;split at hx
  ·simp only[zi]at hx;subst hx;simp at h
  ·exact ih (by simpa [jrO]using h.2) x hx
def jsy {m:Rn} {h:Nat} {x:Option Nat} (hn:jbn m h=none):Ext m ((h,x)::m):=by
 intro k y hk;simp only[jbn];split
 ·rename_i e;subst e;rw[hn]at hk;cases hk
 ·exact hk
def jey {h' h:Nat} {m:Rn} {k:Rn->Prop} (hb:jjj h' h m k) (hi:Inj m):∃m',k m'∧Ext m m'∧Inj m'∧jbn m' h'=some (some h):=by
 unfold jjj at hb;split at hb
 ·rename_i s hs;split at hb
  ·rename_i e;subst e;exact⟨m,hb,Ext.refl m,hi,hs⟩
  ·exact hb.elim
 ·exact hb.elim
 ·rename_i hn;split at hb
  ·exact hb.elim
  ·rename_i hu;have hu':=jwj hu;refine⟨_,hb,jsy hn,?_,by simp[jbn]⟩;intro x y s hx hy;simp only[jbn]at hx hy;split at hx
   ·rename_i e;subst e;simp only[zi]at hx;subst hx;split at hy
    ·rename_i e;exact e
    ·exact absurd hy (hu' y)
   ·split at hy
    ·rename_i e;subst e;simp only[zi]at hy;subst hy;exact absurd hx (hu' x)
    ·exact hi x y s hx hy
def jzJ {m:Rn} {h:Nat} (hi:Inj m):Inj ((h,none)::m):=by
 intro x y s hx hy;simp only[jbn]at hx hy;split at hx
 ·cases hx
 ·split at hy
  ·cases hy
  ·exact hi x y s hx hy
def jmb {d' d:D} (h:mD d' d):d'=d:=by
 unfold mD at h;split at h
 all_goals first
  |exact h.elim
  |(rw[h.h];done)
  |(
    split at h
    ·rename_i e;obtain⟨rfl,rfl⟩:=e;rw[h.h]
    ·exact h.elim)
  |(
    split at h
    ·rename_i e;subst e;rw[h.h]
    ·exact h.elim)
  |(
    split at h
    ·rename_i e;rw[jbz e,h.h]
    ·exact h.elim)
def je1 {c' c:XC} (h:mX c' c):c'=c:=by
 unfold mX at h;split at h
 all_goals first
  |exact h.elim
  |(
    split at h
    ·rename_i e;obtain⟨rfl,rfl⟩:=e;rw[h.h]
    ·exact h.elim)
  |(
    split at h
    ·rename_i e;subst e;rw[h.h]
    ·exact h.elim)
def Same (U:Env) (m:Rn) (f:Env->zF) (v:zF):Prop:=∀m',Ext m m'->f (jcA U m')=v
def jaw {U:Env} {m:Rn} {h s:Nat} (h1:jbn m h=some (some s)):jcA U m h=U s:=by simp[jcA,h1]
def jcd {U:Env} {m:Rn} {h:Nat} (h1:jbn m h=some none):jcA U m h=.slice none 0 0:=by simp[jcA,h1]
def jjk:∀{l' l:List Nat} {m:Rn} {k:Rn->Prop},jrP l' l m k->Inj m->∃m',k m'∧Ext m m'∧Inj m'∧∀m2,Ext m' m2->l'.map (jcA U m2)=l.map U
 |[],[],m,k,h,hi=>⟨m,h,Ext.refl m,hi,fun _ _=>rfl⟩
 |x' :: r',x::r,m,k,h,hi=>by
  obtain⟨m1,h1,hE1,hI1,hl1⟩:=jey h hi;obtain⟨m2,h2,hE2,hI2,hS2⟩:=jjk h1 hI1;refine⟨m2,h2,hE1.trans hE2,hI2,fun m3 h3=>?_⟩;simp only[zM,hS2 m3 h3,jaw (h3 _ _ (hE2 _ _ hl1))]
 |[],_::_,_,_,h,_=>h.elim
 |_::_,[],_,_,h,_=>h.elim
def jvC {x' x:C} {m:Rn} {k:Rn->Prop} (h:mC x' x m k) (hi:Inj m):∃m',k m'∧Ext m m'∧Inj m'∧Same U m' (fun U'=>x'.val U') (x.val U):=by
 unfold mC at h;split at h
 ·rename_i d' d;exact⟨m,h.2,Ext.refl m,hi,fun m' _=>by rw[jmb h.1];rfl⟩
 ·rename_i h' i' e' j' hh i e j;split at h
  ·rename_i he;obtain⟨rfl,rfl⟩:=he;obtain⟨⟨rfl⟩,hb⟩:=h;obtain⟨m',hk,hE,hI,hl⟩:=jey hb hi;exact⟨m',hk,hE,hI,fun m2 h2=>by simp only[C.val,jaw (h2 _ _ hl)]⟩
  ·exact h.elim
 ·rename_i h' hh;obtain⟨m',hk,hE,hI,hl⟩:=jey h hi;exact⟨m',hk,hE,hI,fun m2 h2=>by simp only[C.val,jaw (h2 _ _ hl)]⟩
 ·rename_i h';split at h
  ·rename_i hl;exact⟨m,h,Ext.refl m,hi,fun m2 h2=>by simp only[C.val,jcd (h2 _ _ hl),D.val]⟩
  ·exact h.elim
  ·rename_i hn;refine⟨_,h,jsy hn,jzJ hi,fun m2 h2=>?_⟩;simp only[C.val,jcd (h2 h' none (by simp[jbn])),D.val]
 ·split at h
  ·rename_i e;subst e;obtain⟨m',hk,hE,hI,hl⟩:=jjk (U:=U) h hi;exact⟨m',hk,hE,hI,fun m2 h2=>by simp only[C.val,hl m2 h2]⟩
  ·exact h.elim
 ·split at h
  ·rename_i e;subst e;obtain⟨m',hk,hE,hI,hl⟩:=jjk (U:=U) h hi;exact⟨m',hk,hE,hI,fun m2 h2=>by simp only[C.val,hl m2 h2]⟩
  ·exact h.elim
 ·split at h
  ·rename_i e;obtain⟨rfl,rfl,rfl⟩:=e;obtain⟨⟨rfl⟩,hk⟩:=h;exact⟨m,hk,Ext.refl m,hi,fun _ _=>rfl⟩
  ·exact h.elim
 ·exact h.elim
def jjl:∀{l' l:List C} {m:Rn} {k:Rn->Prop},mCs l' l m k->Inj m->∃m',k m'∧Ext m m'∧Inj m'∧∀m2,Ext m' m2->l'.map (C.val (jcA U m2))=l.map (C.val U)
 |[],[],m,k,h,hi=>⟨m,h,Ext.refl m,hi,fun _ _=>rfl⟩
 |x' :: r',x::r,m,k,h,hi=>by
  obtain⟨m1,h1,hE1,hI1,hS1⟩:=jvC (U:=U) h hi;obtain⟨m2,h2,hE2,hI2,hS2⟩:=jjl h1 hI1;refine⟨m2,h2,hE1.trans hE2,hI2,fun m3 h3=>?_⟩;simp only[zM,hS2 m3 h3,hS1 m3 (hE2.trans h3)]
 |[],_::_,_,_,h,_=>h.elim
 |_::_,[],_,_,h,_=>h.elim
def jvD {x' x:W} {m:Rn} {k:Rn->Prop} (h:mW x' x m k) (hi:Inj m):∃m',k m'∧Ext m m'∧Inj m'∧Same U m' (fun U'=>x'.val U') (x.val U):=by
 unfold mW at h;split at h
 ·exact jvC h hi
 ·obtain⟨m',h1,h2,h3,h4⟩:=jjl (U:=U) h hi;exact⟨m',h1,h2,h3,fun m2 h5=>by simp only[W.val,h4 m2 h5]⟩
 ·split at h
  ·rename_i e;obtain⟨rfl,rfl⟩:=e;obtain⟨⟨rfl⟩,hk⟩:=h;exact⟨m,hk,Ext.refl m,hi,fun _ _=>rfl⟩
  ·exact h.elim
 ·exact h.elim
def jsz:∀{l' l:List W} {m:Rn} {k:Rn->Prop},mWs l' l m k->Inj m->∃m',k m'∧Ext m m'∧Inj m'∧∀m2,Ext m' m2->l'.map (W.val (jcA U m2))=l.map (W.val U)
 |[],[],m,k,h,hi=>⟨m,h,Ext.refl m,hi,fun _ _=>rfl⟩
 |x' :: r',x::r,m,k,h,hi=>by
  obtain⟨m1,h1,hE1,hI1,hS1⟩:=jvD (U:=U) h hi;obtain⟨m2,h2,hE2,hI2,hS2⟩:=jsz h1 hI1;refine⟨m2,h2,hE1.trans hE2,hI2,fun m3 h3=>?_⟩;simp only[zM,hS2 m3 h3,hS1 m3 (hE2.trans h3)]
 |[],_::_,_,_,h,_=>h.elim
 |_::_,[],_,_,h,_=>h.elim
def jBB {x' x:V} {m:Rn} {k:Rn->Prop} (h:mV x' x m k) (hi:Inj m):∃m',k m'∧Ext m m'∧Inj m'∧Same U m' (fun U'=>x'.val U') (x.val U):=by
 unfold mV at h;split at h
 ·exact jvD h hi
 ·obtain⟨m',h1,h2,h3,h4⟩:=jsz (U:=U) h hi;exact⟨m',h1,h2,h3,fun m2 h5=>by simp only[V.val,h4 m2 h5]⟩
 ·exact h.elim
def jvE (tm:List (Nat × V)):∀{l:List (Nat × V)} {m:Rn} {k:Rn->Prop},mT l tm m k->Inj m->∃m',k m'∧Ext m m'∧Inj m' ∧
  ∀t v',jaE l t=some v'->∃v,jaE tm t=some v∧Same U m' (fun U'=>v'.val U') (v.val U)
 |[],m,k,h,hi=>⟨m,h,Ext.refl m,hi,fun _ _ hv=>by cases hv⟩
 |(t0,v0)::r,m,k,h,hi=>by
  unfold mT at h;split at h
  ·rename_i v hv;obtain⟨m1,h1,hE1,hI1,hS1⟩:=jBB (U:=U) h hi;obtain⟨m2,h2,hE2,hI2,hS2⟩:=jvE tm h1 hI1;refine⟨m2,h2,hE1.trans hE2,hI2,fun t v' hv'=>?_⟩;simp only[jaE]at hv';split at hv'
   ·rename_i e;subst e;cases hv';exact⟨v,hv,fun m3 h3=>hS1 m3 (hE2.trans h3)⟩
   ·exact hS2 t v' hv'
  ·exact h.elim
def jbS {c' c:Cont} (h:jdW c' c):c'=c:=by
 unfold jdW at h;split at h
 all_goals first
  |exact h.elim
  |(rw[h.h];done)
  |(
    split at h
    ·rename_i e;obtain⟨rfl,rfl⟩:=e;rw[h.h]
    ·exact h.elim)
  |(
    split at h
    ·rename_i e;subst e;rw[h.h]
    ·exact h.elim)
def jnn (U:Env) (B:Kd) (w:zx) (hp:Hp) (m:Rn) (h':Nat) (o':O):Prop :=
 (∀m2,Ext m m2->o'.ok (jcA U m2) B w h') ∧
 ((∃s o,jbn m h'=some (some s)∧find hp s=some o∧∀m2,Ext m m2->∀k,o'.blk (jcA U m2 h')=some k->o.blk (U s)=some k)∨(∀m2,Ext m m2->o'.blk (jcA U m2 h')=none))
def jnn.mono {hp:Hp} {m m':Rn} {h':Nat} {o':O} (h:jnn U B w hp m h' o') (hE:Ext m m'):jnn U B w hp m' h' o':=by
 refine⟨fun m2 h2=>h.1 m2 (hE.trans h2),?_⟩;rcases h.2 with ⟨s,o,h1,h2,h3⟩|h1
 ·exact .inl ⟨s,o,hE _ _ h1,h2,fun m2 h4=>h3 m2 (hE.trans h4)⟩
 ·exact .inr fun m2 h2=>h1 m2 (hE.trans h2)
def jvF {hp:Hp} {nx h' s:Nat} {o' o:O} {m:Rn} {k:Rn->Prop} (h:mO o' o m k) (hi:Inj m) (hh:HRel U B hp nx w) (hf:find hp s=some o) (hl:jbn m h'=some (some s)) :
  ∃m',k m'∧Ext m m'∧Inj m'∧jnn U B w hp m' h' o':=by
 have hok:=(hh.ok s o hf).2.2;unfold mO at h;split at h
 ·rename_i ty cs' ty' cs;split at h
  ·rename_i e;subst e;obtain⟨m1,h1,hE,hI,hS⟩:=jjl (U:=U) h hi;refine⟨m1,h1,hE,hI,fun m2 h2=>?_,.inl ⟨s,_,hE _ _ hl,hf,fun m2 h2 k hk=>?_⟩⟩
   ·obtain⟨g,h3,h4,h5⟩:=hok;exact⟨g,by rw[jaw (h2 _ _ (hE _ _ hl))];exact h3,h4,by rw[hS m2 h2];exact h5⟩
   ·rw[jaw (h2 _ _ (hE _ _ hl))]at hk;exact hk
  ·exact h.elim
 ·rename_i ty c' ty' c;split at h
  ·rename_i e;subst e;have hc:=jbS h.1;subst hc;refine⟨m,h.2,Ext.refl m,hi,fun m2 h2=>?_,.inl ⟨s,_,hl,hf,fun m2 h2 k hk=>?_⟩⟩
   ·unfold O.ok;rw[jaw (h2 _ _ hl)];exact hok
   ·rw[jaw (h2 _ _ hl)]at hk;exact hk
  ·exact h.elim
 ·rename_i c' c;have hc:=jbS h.1;subst hc;refine⟨m,h.2,Ext.refl m,hi,fun m2 h2=>?_,.inr fun _ _=>rfl⟩;unfold O.ok;rw[jaw (h2 _ _ hl)];exact hok
 ·split at h
  ·rename_i hk;have hk:=jbz hk;subst hk;refine⟨m,h,Ext.refl m,hi,fun m2 h2=>?_,.inr fun _ _=>rfl⟩;unfold O.ok;rw[jaw (h2 _ _ hl)];exact hok
  ·exact h.elim
 ·rename_i cs' cs;obtain⟨m1,h1,hE,hI,hS⟩:=jjl (U:=U) h hi;refine⟨m1,h1,hE,hI,fun m2 h2=>?_,.inr fun _ _=>rfl⟩;obtain⟨g,o,h3,h4,h5⟩:=hok;refine⟨g,o,by rw[jaw (h2 _ _ (hE _ _ hl))];exact h3,h4,fun j c hj=>?_⟩;have hj2:(List.map (C.val (jcA U m2)) cs')[j]?=some (c.val (jcA U m2)):=by rw[zK,hj];rfl
  rw[hS m2 h2,zK]at hj2;obtain⟨c0,hc0,he0⟩:=Option.map_eq_some_iff.1 hj2;rw[<-he0];exact h5 j c0 hc0
 ·split at h
  ·rename_i e;obtain⟨rfl,rfl,rfl⟩:=e;obtain⟨⟨rfl⟩,hk⟩:=h;refine⟨m,hk,Ext.refl m,hi,fun m2 h2=>?_,.inl ⟨s,_,hl,hf,fun m2 h2 k hk=>?_⟩⟩
   ·unfold O.ok;rw[jaw (h2 _ _ hl)];exact hok
   ·rw[jaw (h2 _ _ hl)]at hk;exact hk
  ·exact h.elim
 ·have hc:=je1 h.1;subst hc;refine⟨m,h.2,Ext.refl m,hi,fun m2 h2=>?_,.inr fun _ _=>rfl⟩;unfold O.ok;rw[jaw (h2 _ _ hl)];exact hok
 ·obtain⟨⟨rfl⟩,hk⟩:=h;refine⟨m,hk,Ext.refl m,hi,fun m2 h2=>?_,.inl ⟨s,_,hl,hf,fun m2 h2 k hk=>?_⟩⟩
  ·unfold O.ok;rw[jaw (h2 _ _ hl)];exact hok
  ·rw[jaw (h2 _ _ hl)]at hk;exact hk
 ·have hc:=jbS h.1;subst hc;refine⟨m,h.2,Ext.refl m,hi,fun m2 h2=>?_,.inl ⟨s,_,hl,hf,fun m2 h2 k hk=>?_⟩⟩
  ·unfold O.ok;rw[jaw (h2 _ _ hl)];exact hok
  ·rw[jaw (h2 _ _ hl)]at hk;exact hk
 ·have hc:=jbS h.1;subst hc;refine⟨m,h.2,Ext.refl m,hi,fun m2 h2=>?_,.inr fun _ _=>rfl⟩;unfold O.ok;rw[jaw (h2 _ _ hl)];exact hok
 ·split at h
  ·rename_i e;subst e;have hc:=je1 h.1;subst hc;refine⟨m,h.2,Ext.refl m,hi,fun m2 h2=>?_,.inl ⟨s,_,hl,hf,fun m2 h2 k hk=>?_⟩⟩
   ·unfold O.ok;rw[jaw (h2 _ _ hl)];exact hok
   ·rw[jaw (h2 _ _ hl)]at hk;exact hk
  ·exact h.elim
 ·split at h
  ·rename_i e;obtain⟨rfl,rfl⟩:=e;have hc:=je1 h.1;subst hc;refine⟨m,h.2,Ext.refl m,hi,fun m2 h2=>?_,.inl ⟨s,_,hl,hf,fun m2 h2 k hk=>?_⟩⟩
   ·unfold O.ok;rw[jaw (h2 _ _ hl)];exact hok
   ·rw[jaw (h2 _ _ hl)]at hk;exact hk
  ·exact h.elim
 ·split at h
  ·rename_i e;obtain⟨rfl,rfl⟩:=e;obtain⟨hc,⟨rfl⟩,hk⟩:=h;have hc:=je1 hc;subst hc;refine⟨m,hk,Ext.refl m,hi,fun m2 h2=>?_,.inl ⟨s,_,hl,hf,fun m2 h2 k hk=>?_⟩⟩
   ·unfold O.ok;rw[jaw (h2 _ _ hl)];exact hok
   ·rw[jaw (h2 _ _ hl)]at hk;exact hk
  ·exact h.elim
 ·split at h
  ·rename_i e;obtain⟨rfl,rfl⟩:=e;obtain⟨hc,⟨hs⟩,hk⟩:=h;have hc:=je1 hc;subst hc;refine⟨m,hk,Ext.refl m,hi,fun m2 h2=>?_,.inl ⟨s,_,hl,hf,fun m2 h2 k hk=>?_⟩⟩
   ·have:=jzz hok hs;unfold O.ok;rw[jaw (h2 _ _ hl)];exact this
   ·rw[jaw (h2 _ _ hl)]at hk;exact hk
  ·exact h.elim
 ·split at h
  ·rename_i e;obtain⟨rfl,rfl,rfl⟩:=e;obtain⟨⟨rfl⟩,hc,hb⟩:=h;have hc:=jbS hc;subst hc;obtain⟨m1,h1,hE,hI,hb1⟩:=jey hb hi;refine⟨m1,h1,hE,hI,fun m2 h2=>?_,.inr fun _ _=>rfl⟩;unfold O.ok;simp only;rw[jaw (h2 _ _ (hE _ _ hl)),jaw (h2 _ _ hb1)];exact hok
  ·exact h.elim
 ·rename_i r' c';split at h
  ·rename_i c hc;have he:=jbS h.1;subst he;refine⟨m,h.2,Ext.refl m,hi,fun m2 h2=>?_,.inr fun _ _=>rfl⟩;unfold O.ok;rw[jaw (h2 _ _ hl)];exact⟨jaX hok hc,fun h=>by cases h⟩
  ·exact h.elim
 ·exact h.elim
def jvG {hp:Hp} {nx:Nat} (hh:HRel U B hp nx w):∀{l:Hp} {m:Rn} {k:Rn->Prop},mH l hp m k->Inj m->∃m',k m'∧Ext m m'∧Inj m'∧∀h' o',find l h'=some o'->jnn U B w hp m' h' o'
 |[],m,k,h,hi=>⟨m,h,Ext.refl m,hi,fun _ _ hv=>by cases hv⟩
 |(h0,o0)::r,m,k,h,hi=>by
  have close:∀m1,Ext m m1->Inj m1->jnn U B w hp m1 h0 o0->mH r hp m1 k->∃m',k m'∧Ext m m'∧Inj m'∧∀h' o',find ((h0,o0)::r) h'=some o'->jnn U B w hp m' h' o':=by
   intro m1 hE1 hI1 hO1 h1;obtain⟨m2,h2,hE2,hI2,hS2⟩:=jvG hh h1 hI1;refine⟨m2,h2,hE1.trans hE2,hI2,fun h' o' hf=>?_⟩;simp only[find]at hf;split at hf
   ·rename_i e;subst e;cases hf;exact hO1.mono hE2
   ·exact hS2 h' o' hf
  unfold mH at h;split at h
  ·rename_i s hs;split at h
   ·rename_i o hf;obtain⟨m1,h1,hE1,hI1,hO1⟩:=jvF h hi hh hf hs;exact close m1 hE1 hI1 hO1 h1
   ·exact h.elim
  ·rename_i hs;split at h
   ·rename_i ty c;refine close m (Ext.refl m) hi ⟨fun m2 h2=>?_,.inr fun m2 h2=>?_⟩ h.2
    ·have hfl:c.flat=[]:=qk (by rw[Cont.flat_length,h.1.h,qQ])
     show w.ownsRow 0 ty c.e (jcA U m2 h0) c.n (c.flat.map D.val)∧∀k,(jcA U m2 h0).ownBlock=some k->¬B.all k
     rw[jcd (h2 _ _ hs),hfl,h.1.h];exact⟨xt w 0 ty c.e,fun k hk=>by cases hk⟩
    ·rw[jcd (h2 _ _ hs)];rfl
   ·rename_i ty X;refine close m (Ext.refl m) hi ⟨fun m2 h2=>?_,.inr fun m2 h2=>?_⟩ h.2
    ·refine⟨[],?_,fun i j h1 _=>?_,fun k hk=>?_⟩
     ·rw[jcd (h2 _ _ hs),h.1.h];exact xt w 0 ty X.e
     ·rw[h.1.h]at h1;exact absurd h1 (xZ _)
     ·rw[jcd (h2 _ _ hs)]at hk;cases hk
    ·rw[jcd (h2 _ _ hs)];rfl
   ·rename_i ty ts X;refine close m (Ext.refl m) hi ⟨fun m2 h2=>?_,.inr fun m2 h2=>?_⟩ h.2
    ·refine⟨[],?_,fun i j h1 _=>?_,fun i j i' j' u v k h1=>?_,fun k hk=>?_⟩
     ·rw[jcd (h2 _ _ hs),h.1.h];exact xt w 0 ty X.e
     ·rw[h.1.h]at h1;exact absurd h1 (xZ _)
     ·rw[h.1.h]at h1;exact absurd h1 (xZ _)
     ·rw[jcd (h2 _ _ hs)]at hk;cases hk
    ·rw[jcd (h2 _ _ hs)];rfl
   ·exact h.elim
  ·split at h
   ·rename_i o hf;obtain⟨m1,h1,hE1,hI1,hl1⟩:=jey h hi;obtain⟨m2,h2,hE2,hI2,hO2⟩:=jvF h1 hI1 hh hf hl1;exact close m2 (hE1.trans hE2) hI2 hO2 h2
   ·exact h.elim
def C.ltb_spec {n:Nat} {x:C} (h:x.ltb n=true):x.lt n:=by
 cases x with
 |d=>trivial
 |p=>simpa [C.ltb,C.lt,qz]using h
 |o=>simpa [C.ltb,C.lt,qz]using h
 |fn f hs=>intro y hy;have:=zq.1 h y hy;simpa [qz]using this
 |fb f hs=>intro y hy;have:=zq.1 h y hy;simpa [qz]using this
 |g=>trivial
def W.ltb_spec {n:Nat} {x:W} (h:x.ltb n=true):x.lt n:=by
 cases x with
 |c c=>exact C.ltb_spec h
 |a l=>exact fun y hy=>C.ltb_spec (zq.1 h y hy)
 |b=>trivial
def V.ltb_spec {n:Nat} {x:V} (h:x.ltb n=true):x.lt n:=by
 cases x with
 |w c=>exact W.ltb_spec h
 |t l=>exact fun y hy=>W.ltb_spec (zq.1 h y hy)
def O.ltb_spec {n:Nat} {x:O} (h:x.ltb n=true):x.lt n:=by
 cases x with
 |box ty cs=>exact fun y hy=>C.ltb_spec (zq.1 h y hy)
 |view r c _=>simpa [O.ltb,O.lt,qz]using h
 |sub r i e j ty c=>simpa [O.ltb,O.lt,qz]using h
 |ebox cs=>exact fun y hy=>C.ltb_spec (zq.1 h y hy)
 |lbox ty e n cs=>exact fun y hy=>C.ltb_spec (zq.1 h y hy)
 |elist e n cs=>exact fun y hy=>C.ltb_spec (zq.1 h y hy)
 |lview r e n cs =>
  simp only[O.ltb,zk]at h;exact⟨by simpa using h.1,fun y hy=>C.ltb_spec (zq.1 h.2 y hy)⟩
 |_=>trivial
def jzK {l:List (Nat × V)} {t:Nat} {v:V} (h:jaE l t=some v):(t,v)∈l:=by
 induction l with
 |nil=>cases h
 |cons p r ih =>
  obtain⟨k,x⟩:=p;simp only[jaE]at h;split at h
  ·rename_i e;subst e;cases h;exact zV
  ·exact zR _ (ih h)
def jjm {l:Hp} {t:Nat} {v:O} (h:find l t=some v):(t,v)∈l:=by
 induction l with
 |nil=>cases h
 |cons p r ih =>
  obtain⟨k,x⟩:=p;simp only[find]at h;split at h
  ·rename_i e;subst e;cases h;exact zV
  ·exact zR _ (ih h)
def jx8 {l:Rn} {t:Nat} {v:Option Nat} (h:jbn l t=some v):(t,v)∈l:=by
 induction l with
 |nil=>cases h
 |cons p r ih =>
  obtain⟨k,x⟩:=p;simp only[jbn]at h;split at h
  ·rename_i e;subst e;cases h;exact zV
  ·exact zR _ (ih h)
def Le.rel {st':St} (h:Le n0 st st') (hr:RelD ds U B N n0 st a w):∃U',RelD ds U' B N n0 st' a w∧jae n0 U U':=by
 unfold Le at h;split at h
 ·rename_i hwf;simp only[zk]at hwf;obtain⟨hwf,hn0⟩:=hwf;simp only[St.wfb,zk,zq]at hwf;obtain⟨m1,h1,hE1,hI1,hT⟩:=jvE (U:=U) st.tm h (fun _ _ _ hx=>by cases hx);obtain⟨B1,g,hh1⟩:=hr.heap;obtain⟨m2,h2,hE2,hI2,hO⟩:=jvG hh1 h1 hI1
  have h2:jx7 n0 m2=true:=by
   split at h2
   ·assumption
   ·exact h2.elim
  refine⟨jcA U m2,⟨fun t v' hv'=>?_,hr.size,hr.defers,⟨B1,g,⟨fun h' o' hf=>?_,fun h' o' g' p' k hf hf' hne hk hk'=>?_,hh1.glob⟩⟩,hr.le,by simpa [xd]using hn0⟩,fun h hh=>?_⟩
  ·obtain⟨v,hv,hS⟩:=hT t v' hv';refine⟨V.ltb_spec (hwf.1 (t,v') (jzK hv')),?_⟩;rw[(hr.tm t v hv).2];exact(hS m2 hE2).symm
  ·have hm:=hwf.2 (h',o') (jjm hf);simp only[qz]at hm;exact⟨hm.1,O.ltb_spec hm.2,(hO h' o' hf).1 m2 (Ext.refl _)⟩
  ·rcases(hO h' o' hf).2 with ⟨s,o,h3,h4,h5⟩|h3
   ·rcases(hO g' p' hf').2 with ⟨s',o2,h3',h4',h5'⟩|h3'
    ·have hss:s≠s':=fun e=>hne (hI2 h' g' s h3 (by rw[e];exact h3'));exact hh1.apart s o s' o2 k h4 h4' hss (h5 m2 (Ext.refl _) k hk) (h5' m2 (Ext.refl _) k hk')
    ·rw[h3' m2 (Ext.refl _)]at hk';cases hk'
   ·rw[h3 m2 (Ext.refl _)]at hk;cases hk
  ·unfold jcA;cases hl:jbn m2 h with
   |none=>rfl
   |some x =>
    have:=zq.1 h2 (h,x) (jx8 hl);have hb:h.blt n0=true:=by rw[qz];exact hh
    simp[hb]at this;subst this;rfl
 ·exact h.elim
end
end Go.Sx
end

section
open Go.RowKit
namespace Go.Sx
section
variable [Globs] {P:zy} {B:Kd} {N n0:Nat} {sp:jaa} {U0:Env} {w0:zx} {ds:List x7}
def jeo [Globs] (P:zy) (B:Kd) (N n0:Nat) (U0:Env) (w0:zx) (drawn:Array zX->St->(St->Prop)->Prop):Prop :=
 ∀⦃ds:List x7⦄ (id:Nat) (ops:Array zX) (st:St) (k:St->Prop) (U:Env) (a:Act) (w:zx) (Q:jP->Act->zx->Prop),drawn ops st k->RelD ds U B N n0 st a w->jae n0 U0 U->Bel B w0 w ->
  (∀U' st' a' w',RelD ds U' B N n0 st' a' w'->jae n0 U0 U'->Bel B w0 w'->k st'->Q .normal a' w')->(Code.region id ops true).wp P Q a w
def jkT {U:Env} {st:St} {a:Act} {w:zx} {c:zH} {b:Bool} (hr:RelD ds U B N n0 st a w) (h:(jbC st c).bind V.bool?=some b):a.eval c=.bool b:=by
 cases hc:jbC st c with
 |none=>simp[hc]at h
 |some v =>
  simp only[hc,zw]at h;rw[(hr.reads c v hc).2,V.bool?_eq h];rfl
def jkU {c:yb} {F:St->(Ex->St->Prop)->Prop} (hF:∀st k U a w,F st k->RelD ds U B N n0 st a w->jae n0 U0 U->Bel B w0 w->c.wp P (Qx ds U0 B N n0 w0 k) a w) :
  ∀(n:Nat) (st:St) (k:Ex->St->Prop) (U:Env) (a:Act) (w:zx),jsw F n st k->RelD ds U B N n0 st a w->jae n0 U0 U->Bel B w0 w->gw P c (Qx ds U0 B N n0 w0 k) n a w
 |0,_,_,_,_,_,h,_,_,_=>h.elim
 |n+1,st,k,U,a,w,h,hr,hag,hbl=>by
  rw[g7];refine xG (hF st _ U a w h hr hag hbl) ?_;rintro e a' w' ⟨x,U',st',rfl,hk,hr',hag',hbl'⟩;cases x with
  |normal=>exact jkU hF n st' k U' a' w' hk hr' hag' hbl'
  |exit j=>exact⟨.exit j,U',st',rfl,hk,hr',hag',hbl'⟩
  |ret=>exact⟨.ret,U',st',rfl,hk,hr',hag',hbl'⟩
def jba {fuel:Nat} {loops:jfv} {drawn:Array zX->St->(St->Prop)->Prop} (hsp:jac P sp) (hdr:jeo P B N n0 U0 w0 drawn) :
  ∀(c:yb) (cur:Nat) (gs:List Nat) (st:St) (k:Ex->St->Prop) (U:Env) (a:Act) (w:zx),sx P sp N n0 fuel loops drawn c cur gs st k->RelD ds U B N n0 st a w->jae n0 U0 U->Bel B w0 w ->
   c.wp P (Qx ds U0 B N n0 w0 k) a w
 | .skip,_,_,st,k,U,a,w,h,hr,hag,hbl=>wp_skip ⟨.normal,U,st,rfl,h,hr,hag,hbl⟩
 | .label _,_,_,st,k,U,a,w,h,hr,hag,hbl=>wp_label ⟨.normal,U,st,rfl,h,hr,hag,hbl⟩
 | .region id ops draw,_,_,st,k,U,a,w,h,hr,hag,hbl=>by
  unfold sx at h;cases draw with
  |false =>
   refine wp_region_list ?_;have:=jow (P:=P) (Q:=Qx ds U0 B N n0 w0 k) (k:=fun st'=>k .normal st') (all:=ops.toList) hsp (fun U' st' a' w' h1 h2 h3 h4=>⟨.normal,U',st',rfl,h4,h1,h2,h3⟩) ops.toList U st a w hr hag hbl h;simpa using this
  |true=>exact hdr id ops st _ U a w _ h hr hag hbl (fun U' st' a' w' h1 h2 h3 h4=>⟨.normal,U',st',rfl,h4,h1,h2,h3⟩)
 | .seq x y,cur,gs,st,k,U,a,w,h,hr,hag,hbl=>by
  unfold sx at h;refine wp_seq (xG (jba hsp hdr x cur gs st _ U a w h hr hag hbl) ?_);rintro e a' w' ⟨ex,U',st',rfl,hk,hr',hag',hbl'⟩;cases ex with
  |normal=>exact jba hsp hdr y cur gs st' k U' a' w' hk hr' hag' hbl'
  |exit j=>exact⟨.exit j,U',st',rfl,hk,hr',hag',hbl'⟩
  |ret=>exact⟨.ret,U',st',rfl,hk,hr',hag',hbl'⟩
 | .cond c x y,cur,gs,st,k,U,a,w,h,hr,hag,hbl=>by
  unfold sx at h;split at h
  ·rename_i b hb;have he:=jkT hr hb;cases b with
   |true=>exact wp_cond_true he (jba hsp hdr x cur gs st k U a w h hr hag hbl)
   |false=>exact wp_cond_false he (jba hsp hdr y cur gs st k U a w h hr hag hbl)
  ·exact h.elim
 | .block id c,_,gs,st,k,U,a,w,h,hr,hag,hbl=>by
  unfold sx at h;refine wp_block (xG (jba hsp hdr c id gs st _ U a w h hr hag hbl) ?_);rintro e a' w' ⟨ex,U',st',rfl,hk,hr',hag',hbl'⟩;cases ex with
  |normal=>exact⟨.normal,U',st',rfl,hk,hr',hag',hbl'⟩
  |exit j =>
   simp only[Ex.toExit,Exit.inBlock];dsimp only at hk;split
   ·rename_i e;rw[if_pos e]at hk;exact⟨.normal,U',st',rfl,hk,hr',hag',hbl'⟩
   ·rename_i e;rw[if_neg e]at hk;exact⟨.exit j,U',st',rfl,hk,hr',hag',hbl'⟩
  |ret=>exact⟨.ret,U',st',rfl,hk,hr',hag',hbl'⟩
 | .loop c,cur,gs,st,k,U,a,w,h,hr,hag,hbl=>by
  unfold sx at h;split at h
  ·rename_i L hL;obtain⟨⟨x0,⟨hx0⟩,hle0⟩,hround⟩:=h;obtain⟨U1,hr1,hag1⟩:=hle0.rel hr;have hag01:jae n0 U0 U1:=fun h hh=>(hag1 h hh).trans (hag h hh)
   have key:∀(n:Nat) (x:L.X),L.mu x=n->L.inv x->∀(U:Env) (a:Act) (w:zx),RelD ds U B N n0 (L.st x) a w->jae n0 U0 U->Bel B w0 w->gw P c (Qx ds U0 B N n0 w0 k) (n+1) a w:=by
    intro n
    induction n using hZ with
    |_ n ih =>
     intro x hn hx U a w hr hag hbl;rw[g7];refine xG (jba hsp hdr c cur (L.mu x::gs) (L.st x) _ U a w (hround x hx) hr hag hbl) ?_;rintro e a' w' ⟨ex,U',st',rfl,hk,hr',hag',hbl'⟩;cases ex with
     |normal =>
      obtain⟨x',⟨hx'⟩,⟨hmu⟩,hle⟩:=hk;obtain⟨U2,hr2,hag2⟩:=Le.rel hle hr';have hlt:L.mu x'<n:=by omega
      have:=ih (L.mu x') hlt x' rfl hx' U2 a' w' hr2 (fun h hh=>(hag2 h hh).trans (hag' h hh)) hbl';exact rounds_le (by omega) this
     |exit j=>exact⟨.exit j,U',st',rfl,hk,hr',hag',hbl'⟩
     |ret=>exact⟨.ret,U',st',rfl,hk,hr',hag',hbl'⟩
   exact g9 _ (key _ x0 rfl hx0 U1 a w hr1 hag01 hbl)
  ·refine g9 fuel (jkU (F:=fun st k=>sx P sp N n0 fuel loops drawn c cur gs st k) ?_ fuel st k U a w h hr hag hbl);intro st k U a w h hr hag hbl;exact jba hsp hdr c cur gs st k U a w h hr hag hbl
 | .exit id,_,_,st,k,U,a,w,h,hr,hag,hbl=>wp_exit ⟨.exit id,U,st,rfl,h,hr,hag,hbl⟩
 | .ret,_,_,st,k,U,a,w,h,hr,hag,hbl=>wp_ret ⟨.ret,U,st,rfl,h,hr,hag,hbl⟩
 | .scope _,_,_,_,_,_,_,_,h,_,_,_=>h.elim
 | .goto _,_,_,_,_,_,_,_,h,_,_,_=>h.elim
 | .rangeFunc _ _ _ _,_,_,_,_,_,_,_,h,_,_,_=>h.elim
 | .refuse _,_,_,_,_,_,_,_,h,_,_,_=>h.elim
 where
 rounds_le {c:yb} {Q:jP->Act->zx->Prop}:∀{n m:Nat} {a:Act} {w:zx},n<=m->gw P c Q n a w->gw P c Q m a w
  |0,_,_,_,_,h=>h.elim
  |n+1,0,_,_,hl,_=>by omega
  |n+1,m+1,a,w,hl,h=>by
   rw[g7]at *;refine xG h ?_;intro e a' w' hq;cases e<;>first|exact rounds_le (Nat.le_of_succ_le_succ hl) hq|exact hq
end
end Go.Sx
end

section
open Go.RowKit
namespace Go.Sx
def jiA (P:zy) (st:St):jc->Option (Prop × W)
 | .tmp t=>match jaE st.tm t with
  |some (.w u)=>some (True,u)
  |_=>none
 | .cell t ty=>match jaE st.tm t with
  |some (.w (.c (.p h i e j)))=>match find st.hp h with
   |some o=>match jdd P ty o i e j with
    |some (ob,.w u)=>some (ob,u)
    |_=>none
   |none=>none
  |_=>none
def jdO (P:zy) (st:St):List jc->Option (List (Prop × W))
 |[]=>some []
 |r::rs=>match jiA P st r,jdO P st rs with
  |some x,some l=>some (x::l)
  |_,_=>none
def ja0:List W->V
 |[u]=>.w u
 |l=>.t l
def jiB:List (Prop × W)->Prop->Prop
 |[],k=>k
 |x::l,k=>Ob x.1∧jiB l k
def jcm (P:zy) (rs:List jc) (post:V->Hp->Nat->Prop):Ex->St->Prop
 | .exit _,_=>False
 |_,st=>match jdO P st rs with
  |some l=>jiB l (post (ja0 (l.map (·.2))) st.hp st.nx)
  |none=>False
def jbO:Nat->List V->List (Nat × V)
 |_,[]=>[]
 |n,v::l=>(n,v)::jbO (n+1) l
def jox (tmps:Array zF):jc->Sem zF
 | .tmp t=>pure (tmps.getD t qe)
 | .cell c t=>do loadVar t (<-asAddr (tmps.getD c qe))
def jjn (fn:Func) (tmps:Array zF):results fn tmps=(fn.results.mapM (jox tmps) >>= fun vs=>pure (if h:vs.size=1 then vs[0]else .tuple vs)):=by
 unfold results
 congr 1
section
variable [Globs] {P:zy} {B:Kd} {N n0:Nat} {U:Env} {st:St} {a:Act} {w:zx} {ds:List x7}
def jwl {r:jc} {ob:Prop} {u:W} (hr:RelD ds U B N n0 st a w) (h:jiA P st r=some (ob,u)) (ho:ob) :
  (jox a.tmps r).run P w=.ok (u.val U) w∧u.lt st.nx:=by
 unfold jiA at h;split at h
 ·rename_i t;split at h
  ·rename_i u' hg;cases h;have:=hr.tm t _ hg;exact⟨by simp only[jox,zp,this.2];rfl,this.1⟩
  ·cases h
 ·rename_i t ty;split at h
  ·rename_i k i e j hg;split at h
   ·rename_i o hf;split at h
    ·rename_i ob' u' hro;cases h;have h1:=(hr.tm t _ hg).2;obtain⟨B1,g,hh1⟩:=hr.heap;have h2:=jkC hh1 hf hro ho;refine⟨?_,h2.2⟩;simp only[jox,h1,cell_val,C.val,asAddr,zn,zp,zh];exact h2.1
    ·cases h
   ·cases h
  ·cases h
def jgn (hr:RelD ds U B N n0 st a w):∀(rs:List jc) (l:List (Prop × W)) (k:Prop),jdO P st rs=some l->jiB l k ->
  (rs.mapM (jox a.tmps)).run P w=.ok (l.map fun x=>x.2.val U) w∧(∀x∈l,x.2.lt st.nx)∧k
 |[],l,k,h,ho=>by
  simp only[jdO,zi]at h;subst h;exact⟨by simp,(fun _ hx=>by cases hx),ho⟩
 |r::rs,l,k,h,ho=>by
  simp only[jdO]at h;split at h
  ·rename_i x l' hx hl;cases h;obtain⟨h1,h2⟩:=ho;have ih:=jgn hr rs l' k hl h2;have h3:=jwl hr hx h1.h;refine⟨?_,?_,ih.2.2⟩
   ·simp only[List.mapM_cons,zn,h3.1,zh,ih.1,zp,zM]
   ·intro y hy;rcases qv.1 hy with rfl|hy
    ·exact h3.2
    ·exact ih.2.1 y hy
  ·cases h
def jcR (l:List W):(ja0 l).val U=(if h:(l.map (W.val U)).toArray.size=1 then(l.map (W.val U)).toArray[0]else .tuple (l.map (W.val U)).toArray):=by
 match l with
 |[]=>rfl
 |[u]=>rfl
 |u::v::r=>simp[ja0,V.val]
def je2 {n:Nat} {l:List W} (h:∀x∈l,x.lt n):(ja0 l).lt n:=by
 match l with
 |[]=>exact h
 |[u]=>exact h u zV
 |u::v::r=>exact h
def jqF:∀(l:List V) (n t:Nat) (v:V),jaE (jbO n l) t=some v->n<=t∧l[t-n]?=some v
 |[],_,_,_,h=>by cases h
 |x::l,n,t,v,h=>by
  simp only[jbO,jaE]at h;split at h
  ·rename_i e;subst e;cases h;simp
  ·have:=jqF l (n+1) t v h;refine⟨by omega,?_⟩;have e:t-n=(t-(n+1))+1:=by omega
   rw[e];simpa using this.2
def jep {N:Nat} {args:List V} {hp0:Hp} {nx0:Nat} (hlen:args.length<=N) (hlt:∀x∈args,V.lt nx0 x) (hn0:n0<=nx0) (U:Env) (w:zx) (hh:HRel U B hp0 nx0 w) (hB:Old B w) :
  Rel U B N n0 ⟨jbO 0 args,hp0,nx0⟩ { tmps:=(args.map (V.val U)).toArray++xe (N-(args.map (V.val U)).toArray.size) qe,defers:=[] } w:=by
 refine⟨fun t v hv=>?_,by simp;omega,rfl,⟨B,Grow.refl _ _ _ _,hh⟩,hB,hn0⟩;have hg:=jqF args 0 t v hv;simp only[Nat.sub_zero]at hg;have hlt2:t<args.length:=(zB.1 hg.2).1;refine⟨hlt v (qX hg.2),?_⟩;have hv2:args[t]=v:=(zB.1 hg.2).2;have hsz:t<((args.map (V.val U)).toArray++xe (N-(args.map (V.val U)).toArray.size) qe).size:=by simp;omega
 simp only[qS,qE hsz,zU];rw[Array.getElem_append_left (by simpa using hlt2)];simp[hv2]
def jsA {sp:jaa} {fuel:Nat} {loops:jfv} {drawn:Array zX->St->(St->Prop)->Prop} {f:Nat} {fn:Func} {body:yb} {args:List V} {hp0:Hp} {nx0:Nat} {post:V->Hp->Nat->Prop}
  (hsp:jac P sp) (hdr:∀U w,jeo P B fn.ntmps n0 U w drawn) (hf:P.funcs[f]?=some fn) (hb:fn.body=some body) (hlen:args.length<=fn.ntmps)
  (h:sx P sp fn.ntmps n0 fuel loops drawn body 0 [] ⟨jbO 0 args,hp0,nx0⟩ (jcm P fn.results.toList post)) (hlt:∀x∈args,V.lt nx0 x) (hn0:n0<=nx0) (U:Env) (w:zx) (hh:HRel U B hp0 nx0 w) (hB:Old B w) :
  Calls P f (args.map (V.val U)).toArray w fun e w'=>∃U' v hp' nx',e=.returned (v.val U')∧v.lt nx'∧jae n0 U U'∧(∃B',Grow B B' false w' w'∧HRel U' B' hp' nx' w')∧Bel B w w'∧Old B w'∧post v hp' nx':=by
 refine calls_of_wp hf hb ?_;have hrel:=jep (n0:=n0) hlen hlt hn0 U w hh hB;refine xG (jba hsp (hdr U w) body 0 [] _ _ U _ w h hrel (jae.refl _ _) (Bel.refl _ _)) ?_;rintro e a' w' ⟨x,U',st',rfl,hk,hr',hag',hbl'⟩
 have fin:∀l:List (Prop × W),jdO P st' fn.results.toList=some l->jiB l (post (ja0 (l.map (·.2))) st'.hp st'.nx) ->
   a'.defers=[]∧∃v,(results fn a'.tmps).run P w'=.ok v w'∧∃U' v' hp' nx',xO v=.returned (v'.val U')∧v'.lt nx'∧jae n0 U U'∧(∃B',Grow B B' false w' w'∧HRel U' B' hp' nx' w')∧Bel B w w'∧Old B w'∧post v' hp' nx':=by
  intro l hl ho;have hra:=jgn hr' _ l _ hl ho;refine⟨hr'.defers,(ja0 (l.map (·.2))).val U',?_,U',ja0 (l.map (·.2)),st'.hp,st'.nx,rfl,je2 (fun y hy=>?_),hag',hr'.heap,hbl',hr'.le,hra.2.2⟩
  ·rw[jcR];simp only[jjn,Array.mapM_eq_mapM_toList,zn,Sem.run_map,hra.1,zh,zp,List.map_map];rfl
  ·obtain⟨z,hz,rfl⟩:=qu.1 hy;exact hra.2.1 z hz
 cases x with
 |normal =>
  simp only[jcm]at hk;split at hk
  ·rename_i l hl;exact fin l hl hk
  ·exact hk.elim
 |exit j=>exact hk.elim
 |ret =>
  simp only[jcm]at hk;split at hk
  ·rename_i l hl;exact fin l hl hk
  ·exact hk.elim
end
end Go.Sx
end

section
open Go.RowKit
namespace Go.Sx
def joy (n:Nat) (l:List Nat):List Nat:=match l.contains n with
 |true=>l
 |false=>n::l
def jjo (a b:List Nat):List Nat:=a.foldr joy b
def jc7 (acc:List (List Nat)):List Edge->List Nat
 |[]=>[]
 |e::r=>match yK .any e with
  |true=>joy e.on (jjo (acc.getD e.on []) (jc7 acc r))
  |false=>jc7 acc r
def jgU:List zX->List (List Nat)->List (List Nat)
 |[],acc=>acc
 |o::r,acc=>jgU r (acc++[jc7 acc o.after.toList])
def joz {n m:Nat} {l:List Nat}:m∈joy n l<->m=n∨m∈l:=by
 unfold joy;split
 ·rename_i h;simp at h;constructor
  ·exact .inr
  ·rintro (rfl|h')
   ·exact h
   ·exact h'
 ·simp
def jkV {m:Nat}:∀{a b:List Nat},m∈jjo a b<->m∈a∨m∈b
 |[],b=>by simp[jjo]
 |x::a,b=>by
  have:=jkV (m:=m) (a:=a) (b:=b);simp only[jjo,List.foldr_cons]at *;rw[joz,this];simp[or_assoc]
def jhV {acc:List (List Nat)} {k:Nat}:∀{es:List Edge},k∈jc7 acc es->∃e∈es,yK .any e=true∧(k=e.on∨k∈acc.getD e.on [])
 |[],h=>by cases h
 |e::r,h=>by
  unfold jc7 at h;split at h
  ·rename_i hb;rcases joz.1 h with h|h
   ·exact⟨e,zV,hb,.inl h⟩
   ·rcases jkV.1 h with h|h
    ·exact⟨e,zV,hb,.inr h⟩
    ·obtain⟨e',he',h'⟩:=jhV h;exact⟨e',zR _ he',h'⟩
  ·obtain⟨e',he',h'⟩:=jhV h;exact⟨e',zR _ he',h'⟩
def jcS (L:List zX) (tab:List (List Nat)):Prop :=
 ∀i k,k∈tab.getD i []->∃o,L[i]?=some o∧∃e∈o.after.toList,yK .any e=true∧(k=e.on∨(e.on<i∧k∈tab.getD e.on []))
def jvH (L:List zX):∀(r:List zX) (acc:List (List Nat)),L=L.take acc.length++r->jcS L acc->jcS L (jgU r acc)
 |[],acc,_,h=>h
 |o::r,acc,hL,h=>by
  unfold jgU
  have hlen:acc.length<L.length:=by
   have:=congrArg List.length hL;simp at this;omega
  have ho:L[acc.length]?=some o:=by
   rw[hL,qa (by simp;omega)];simp[yY (gO hlen)]
  refine jvH L r (acc++[jc7 acc o.after.toList]) ?_ ?_
  ·have h1:L.take (acc.length+1)=L.take acc.length++[o]:=by
    rw[xY hlen]
    congr 2
    have:=zJ hlen;rw[this]at ho;exact xT ho
   simp only[List.length_append,List.length_singleton,h1,qJ,jS];exact hL
  ·intro i k hk
   by_cases hi:i<acc.length
   ·have e1:(acc++[jc7 acc o.after.toList]).getD i []=acc.getD i []:=by simp[za,z7 hi]
    rw[e1]at hk;obtain⟨o',ho',e,he,hb,hor⟩:=h i k hk;refine⟨o',ho',e,he,hb,hor.imp id fun⟨h1,h2⟩=>⟨h1,?_⟩⟩;simpa [za,z7 (show e.on<acc.length by omega)]using h2
   ·by_cases hi2:i=acc.length
    ·subst hi2;have e1:(acc++[jc7 acc o.after.toList]).getD acc.length []=jc7 acc o.after.toList:=by simp[za]
     rw[e1]at hk;obtain⟨e,he,hb,hor⟩:=jhV hk;refine⟨o,ho,e,he,hb,hor.imp id fun h2=>?_⟩
     have hlt:e.on<acc.length:=by
      rcases kE e.on acc.length with h|h
      ·exact h
      ·simp[za,z9 h]at h2
     exact⟨hlt,by simpa [za,z7 hlt]using h2⟩
    ·have:(acc++[jc7 acc o.after.toList]).getD i []=[]:=by
      rw[za,z9 (by simp;omega)];rfl
     rw[this]at hk;cases hk
def jcJ (L:List zX) (D:Nat->Bool):Prop:=∀j o,L[j]?=some o->D j=true->∀e∈o.after.toList,yK .any e=true->D e.on=true
def jcT {L:List zX} {tab:List (List Nat)} {D:Nat->Bool} (ht:jcS L tab) (hc:jcJ L D) :
  ∀(i:Nat) (k:Nat),(∀o,L[i]?=some o->∀e∈o.after.toList,yK .any e=true->D e.on=true)->k∈tab.getD i []->D k=true:=by
 intro i
 induction i using hZ with
 |_ i ih =>
  intro k hd hk;obtain⟨o,ho,e,he,hb,hor⟩:=ht i k hk;have h1:=hd o ho e he hb;rcases hor with rfl|⟨hlt,hk'⟩
  ·exact h1
  ·exact ih e.on hlt k (fun o' ho' e' he' hb'=>hc e.on o' ho' h1 e' he' hb') hk'
structure Rec where
 v:V
 hp:Hp
 nx:Nat
 kd:Nat
 nw:Hp
 tg:Option Nat
def jaH:Op->Bool
 | .load _ _=>true
 | .binOp _ _ _ y _=>jxP y
 | .indexAddr _ _ _=>true
 | .call c=>match c.callee with
  | .builtin .len=>true
  |_=>false
 |_=>false
def loadAt (op:Op) (rd:zH->Option V):Option Nat :=
 match op with
 | .load _ x=>match rd x with
  |some (.w (.c (.p h _ _ _)))=>some h
  |_=>none
 | .binOp _ _ x _ _=>match rd x with
  |some (.w (.c (.o h)))=>some h
  |_=>none
 | .indexAddr _ x _=>match rd x with
  |some (.w (.c (.o h)))=>some h
  |_=>none
 | .call c=>match c.args.toList with
  |[x]=>match rd x with
   |some (.w (.c (.o h)))=>some h
   |_=>none
  |_=>none
 |_=>none
def storeAt (op:Op) (rd:zH->Option V):Option Nat :=
 match op with
 | .store _ x _=>match rd x with
  |some (.w (.c (.p h _ _ _)))=>some h
  |_=>none
 | .call c=>match c.callee,c.args.toList with
  | .builtin .append,[s,_]=>match rd s with
   |some (.w (.c (.o h)))=>some h
   |some (.w (.c (.d (.v (.slice none 0 0)))))=>some 1000000007
   |_=>none
  |_,_=>none
 |_=>none
def jez:Option O->Bool
 |some (.box _ _)=>true
 |some (.row _ _)=>true
 |some (.ext _)=>true
 |some (.ebox _)=>true
 |some (.arr _ _ _ _)=>true
 |some (.xext _)=>true
 |some (.fext _)=>true
 |some (.xrow _ _)=>true
 |some (.mrow _ _ _ _)=>true
 |some (.lbox _ _ _ _)=>true
 |some (.elist _ _ _)=>true
 |_=>false
def jbT (L:List zX) (j:Nat):Option Nat:=(L[j]?).bind (·.dst)
def jan (st0:St):List Rec->Hp
 |[]=>st0.hp
 |r::_=>r.hp
def jab (st0:St):List Rec->Nat
 |[]=>st0.nx
 |r::_=>r.nx
def jci (L:List zX) (bef:List Nat) (st0:St) (t:Nat):List Rec->Option V
 |[]=>jaE st0.tm t
 |r::tr=>match jbT L tr.length with
  |some d=>if d=t then(match bef.contains tr.length with|true=>some r.v|false=>none)else jci L bef st0 t tr
  |none=>jci L bef st0 t tr
def jbb [Globs] (L:List zX) (nm:List Nat) (bef:List Nat) (st0:St) (tr:List Rec):zH->Option V
 | .tmp t=>match nm.contains t with
  |true=>jci L bef st0 t tr
  |false=>none
 |x=>jbC st0 x
def jas (q:Nat->Bool) (st0:St):List Rec->Nat->Bool
 |[],_=>true
 |_::tr,h=>match qn (jab st0 tr) h with
  |true=>q tr.length
  |false=>jas q st0 tr h
def jkW:Op->Bool
 | .build _ _=>true
 |_=>false
def jb1 (st0:St):List Rec->Nat->Bool
 |[],h=>C.one st0.hp (.o h)
 |r::tr,h=>match qn (jab st0 tr) h with
  |true=>C.one r.hp (.o h)
  |false=>jb1 st0 tr h
def jfP (bef:List Nat) (st0:St) (tr:List Rec):Hp:=((jan st0 tr).filter fun x=>jas (fun j=>bef.contains j) st0 tr x.1&&jb1 st0 tr x.1).map fun x=>(x.1,O.atom)
def C.allB (p:Nat->Bool):C->Bool
 | .d _=>true
 | .p h _ _ _=>p h
 | .o h=>p h
 | .fn _ hs=>hs.all p
 | .fb _ hs=>hs.all p
 | .g _ _ _ _=>true
def W.allB (p:Nat->Bool):W->Bool
 | .c x=>x.allB p
 | .a l=>l.all (C.allB p)
 | .b _ _ _=>true
def V.allB (p:Nat->Bool):V->Bool
 | .w x=>x.allB p
 | .t l=>l.all (W.allB p)
def O.allB (p:Nat->Bool):O->Bool
 | .box _ cs=>cs.all (C.allB p)
 | .view r _ _=>p r
 | .sub r _ _ _ _ _=>p r
 | .ebox cs=>cs.all (C.allB p)
 | .lbox _ _ _ cs=>cs.all (C.allB p)
 | .lview r _ _ cs=>p r&&cs.all (C.allB p)
 | .elist _ _ cs=>cs.all (C.allB p)
 |_=>true
def ja5 (bef:List Nat) (st0:St) (tr:List Rec) (v:V) (hp:Hp) (nx:Nat):Bool :=
 qn (jab st0 tr) nx&&v.allB (fun h=>qh h nx&&(qn (jab st0 tr) h||jas (fun j=>bef.contains j) st0 tr h)) &&
  hp.all (fun x=>qh x.1 nx&&x.2.allB fun h=>qh h nx&&(qn (jab st0 tr) h||jas (fun j=>bef.contains j) st0 tr h))
def jaZ (n:Nat) (hp:Hp):Hp:=hp.filter fun x=>qn n x.1
def jaA:Op->Bool
 | .binOp _ _ _ y _=>!(jxP y)
 | .move _ | .assign _ | .pick _ _ _ | .unOp _ _ _ | .extract _ _ | .field _ _ _ | .fieldAddr _ _ _ | .nilCheck _ | .convert _ _ _ | .build _ _=>true
 |_=>false
def jjp:Op->Bool
 | .makeSlice _ _ _ | .buildSlice _ _ _ | .alloc _ | .box _ _=>true
 |_=>false
def ja9 (tab:List (List Nat)) (i:Nat) (lf mk:Bool):Nat->List zX->Bool
 |_,[]=>true
 |j,o::r=>(zt j i||jaA o.op||(tab.getD i []).contains j||(tab.getD j []).contains i||(lf&&jaH o.op)||(mk&&qh i j&&jjp o.op))&&ja9 tab i lf mk (j+1) r
def jhB:Op->Bool
 | .makeSlice _ _ _ | .alloc _ | .box _ _=>true
 |_=>false
def jfw (tab:List (List Nat)) (i:Nat):Nat->List zX->Bool
 |_,[]=>true
 |k,o::r=>(qn k i||jaA o.op||jaH o.op||(tab.getD k []).contains i||jhB o.op)&&jfw tab i (k+1) r
def je3:O->Bool
 | .row _ _=>true
 | .box _ _=>true
 | .lbox _ _ _ _=>true
 | .arr _ _ _ _=>true
 |_=>false
def jjq:O->Bool
 | .ext _=>true
 | .ebox _=>true
 | .xext _=>true
 | .elist _ _ _=>true
 | .trow _ _ _ _=>true
 |_=>false
def jpS (hp0:Hp) (nx:Nat) (tg:Option Nat) (hp:Hp):Bool :=
 match tg with
 |none=>false
 |some h=>hp.all fun x=>!(jjq x.2)||(!(zt x.1 h)&&qh x.1 nx&&match find hp0 x.1 with
  |some o=>match o.isT with
   |true=>false
   |false=>jjq o
  |none=>false)
def jaq (L:List zX) (o:zX):List Nat :=
 o.dst.toList++(o.op.operands.toList.filterMap fun | .tmp t=>some t|_=>none)++(match o.guard with|some (g,_)=>(jbT L g).toList|none=>[])
def jgo (L:List zX) (tab:List (List Nat)) (j t:Nat):Nat->List zX->Bool
 |_,[]=>true
 |i,o::r=>(!(qh i j)||!((jaq L o).contains t)||(tab.getD j []).contains i)&&jgo L tab j t (i+1) r
def jcq (L:List zX) (tab:List (List Nat)):Nat->List zX->Bool
 |_,[]=>true
 |j,o::r=>(match o.dst with|some t=>jgo L tab j t 0 L|none=>true)&&jcq L tab (j+1) r
def obT (t:Bool) (ob k:Prop):Prop:=match t with
 |true=>k
 |false=>Ob ob∧k
def jeq [Globs] (L:List zX) (tab:List (List Nat)) (st0:St) (bef:List Nat) (h:Nat):List Rec->Bool
 |[]=>true
 |_::tr=>(match L[tr.length]? with
  |none=>false
  |some o=>match jaH o.op with
   |false=>true
   |true=>bef.contains tr.length||match loadAt o.op (jbb L (jaq L o) (tab.getD tr.length []) st0 tr)with
    |none=>false
    |some x=>!(zt x h)&&jez (find (jan st0 tr) x))&&jeq L tab st0 bef h tr
def jbE (st0:St) (bef:List Nat) (h:Nat):List Rec->Bool
 |[]=>true
 |r::tr=>(!(zt r.kd 2)||bef.contains tr.length||match r.tg with
  |none=>false
  |some t=>!(zt t h)&&jez (find (jan st0 tr) h))&&jbE st0 bef h tr
def jdg (bef:List Nat):List Rec->Bool
 |[]=>true
 |r::tr=>(!(zt r.kd 2)||bef.contains tr.length)&&jdg bef tr
def jdq (bef:List Nat) (st0:St) (tr:List Rec):Hp :=
 match jdg bef tr with
 |true=>(jan st0 tr).filter fun x=>jas (fun j=>bef.contains j) st0 tr x.1
 |false=>(jan st0 tr).filter fun x=>jas (fun j=>bef.contains j) st0 tr x.1&&jbE st0 bef x.1 tr
def joA (bef:List Nat) (tr:List Rec) (nw:Hp):Bool :=
 match jdg bef tr with
 |true=>true
 |false=>nw.all fun x=>je3 x.2
def jgV (hp:Hp) (b:Bool) (v:Option V):Bool :=
 match v with
 |some (.w (.c (.o h)))=>match find hp h with
  |some (.mrow _ _ _ _)=>false
  |some (.sub _ _ _ _ _ _)=>!b
  |_=>true
 |_=>true
def jcr [Globs] (hp:Hp) (op:Op) (rd:zH->Option V):Bool :=
 match op with
 | .store _ x y=>match rd x,rd y with
  |some (.w (.c (.p h _ _ _))),some v=>match find hp h with
   |some (.xrow _ _)=>v.allB fun _=>false
   |some (.mrow _ _ _ _)=>v.allB fun _=>false
   |some (.sub _ _ _ _ _ _)=>false
   |some (.trow _ _ _ _)=>false
   |some (.box _ _)=>!(jxX hp)
   |_=>true
  |_,_=>true
 | .call c=>match c.callee,c.args.toList with
  | .builtin .append,[s,x]=>jgV hp true (rd s)&&jgV hp false (rd x)
  |_,_=>true
 |_=>true
def jbK [Globs] (L:List zX) (tab:List (List Nat)) (st0:St) (o:zX) (tr:List Rec):Option Nat :=
 match storeAt o.op (jbb L (jaq L o) (tab.getD tr.length []) st0 tr)with
 |some h=>match jeq L tab st0 (tab.getD tr.length []) h tr&&jcr (jan st0 tr) o.op (jbb L (jaq L o) (tab.getD tr.length []) st0 tr)with
  |true=>some h
  |false=>none
 |none=>none
def jpT [Globs] (L:List zX) (tab:List (List Nat)) (st0:St) (o:zX) (tr:List Rec):Option Bool :=
 match ja9 tab tr.length ((jbK L tab st0 o tr).isSome) false 0 L with
 |true=>some false
 |false=>match(jbK L tab st0 o tr).isSome&&ja9 tab tr.length ((jbK L tab st0 o tr).isSome) true 0 L with
  |true=>some true
  |false=>none
def jpU [Globs] (L:List zX) (tab:List (List Nat)) (st0:St) (o:zX) (tr:List Rec) (mk:Bool) (hp:Hp):Bool :=
 match mk with
 |false=>true
 |true=>jpS (jan st0 tr) (jab st0 tr) (jbK L tab st0 o tr) hp
def dop [Globs] (P:zy) (sp:jaa) (N:Nat) (L:List zX) (tab:List (List Nat)) (st0:St) (o:zX) (tr:List Rec) (k:Rec->Prop):Prop :=
 match jb0 N o.dst with
 |false=>False
 |true =>
  match ja4 P o.op (jbb L (jaq L o) (tab.getD tr.length []) st0 tr) []with
  |some (ob,v)=>match ja5 (tab.getD tr.length []) st0 tr v [] (jab st0 tr)with
   |true=>obT (ja7 o.op (jbb L (jaq L o) (tab.getD tr.length []) st0 tr) []) ob (k ⟨v,jan st0 tr,jab st0 tr,0,[],none⟩)
   |false=>False
  |none =>
   match jaA o.op with
   |true=>match jkW o.op with
    |true=>match ja4 P o.op (jbb L (jaq L o) (tab.getD tr.length []) st0 tr) (jfP (tab.getD tr.length []) st0 tr)with
     |some (ob,v)=>match ja5 (tab.getD tr.length []) st0 tr v [] (jab st0 tr)with
      |true=>obT (ja7 o.op (jbb L (jaq L o) (tab.getD tr.length []) st0 tr) (jfP (tab.getD tr.length []) st0 tr)) ob (k ⟨v,jan st0 tr,jab st0 tr,0,[],none⟩)
      |false=>False
     |none=>False
    |false=>False
   |false =>
    match jaH o.op with
    |true=>match loadAt o.op (jbb L (jaq L o) (tab.getD tr.length []) st0 tr)with
     |none=>False
     |some h=>match find (jan st0 tr) h with
      |none=>False
      |some x=>match jas (fun j=>(tab.getD tr.length []).contains j) st0 tr h&&jbE st0 (tab.getD tr.length []) h tr with
       |false=>False
       |true=>match ja4 P o.op (jbb L (jaq L o) (tab.getD tr.length []) st0 tr) [(h,x)]with
        |none=>match jfw tab tr.length 0 L&&jdg (tab.getD tr.length []) tr&&jam sp o.op (jbb L (jaq L o) (tab.getD tr.length []) st0 tr)with
         |false=>False
         |true=>match step P sp o.op (jbb L (jaq L o) (tab.getD tr.length []) st0 tr) (jdq (tab.getD tr.length []) st0 tr) (jab st0 tr)with
          |some res=>match ja5 (tab.getD tr.length []) st0 tr res.v (jaZ (jab st0 tr) res.hp) res.nx with
           |true=>obT (ja7 o.op (jbb L (jaq L o) (tab.getD tr.length []) st0 tr) (jdq (tab.getD tr.length []) st0 tr)) res.ob (k ⟨res.v,jaZ (jab st0 tr) res.hp++jan st0 tr,res.nx,1,jaZ (jab st0 tr) res.hp,none⟩)
           |false=>False
          |none=>False
        |some (ob,v)=>match ja5 (tab.getD tr.length []) st0 tr v [] (jab st0 tr)with
         |true=>obT (ja7 o.op (jbb L (jaq L o) (tab.getD tr.length []) st0 tr) [(h,x)]) ob (k ⟨v,jan st0 tr,jab st0 tr,0,[],none⟩)
         |false=>False
    |false =>
    match jam sp o.op (jbb L (jaq L o) (tab.getD tr.length []) st0 tr)with
    |true=>match step P sp o.op (jbb L (jaq L o) (tab.getD tr.length []) st0 tr) (jdq (tab.getD tr.length []) st0 tr) (jab st0 tr)with
     |some res=>match ja5 (tab.getD tr.length []) st0 tr res.v (jaZ (jab st0 tr) res.hp) res.nx&&joA (tab.getD tr.length []) tr (jaZ (jab st0 tr) res.hp)with
      |true=>obT (ja7 o.op (jbb L (jaq L o) (tab.getD tr.length []) st0 tr) (jdq (tab.getD tr.length []) st0 tr)) res.ob (k ⟨res.v,jaZ (jab st0 tr) res.hp++jan st0 tr,res.nx,1,jaZ (jab st0 tr) res.hp,none⟩)
      |false=>False
     |none=>False
    |false=>match jpT L tab st0 o tr with
     |none=>False
     |some mk=>match step P sp o.op (jbb L (jaq L o) (tab.getD tr.length []) st0 tr) (jan st0 tr) (jab st0 tr)with
      |some res=>match ja5 (tab.getD tr.length []) st0 tr res.v res.hp res.nx&&jpU L tab st0 o tr mk res.hp with
       |true=>obT (ja7 o.op (jbb L (jaq L o) (tab.getD tr.length []) st0 tr) (jan st0 tr)) res.ob (k ⟨res.v,res.hp,res.nx,2,[],jbK L tab st0 o tr⟩)
       |false=>False
      |none=>False
def jjr (N:Nat) (st0:St) (o:zX) (tr:List Rec) (k:Rec->Prop):Prop :=
 match jb0 N o.dst with
 |false=>False
 |true=>k ⟨vu,jan st0 tr,jab st0 tr,0,[],none⟩
def jdh (L:List zX) (t:Nat) (v:V):List Rec->List Rec
 |[]=>[]
 |r::tr=>match jbT L tr.length with
  |some d=>if d=t then { r with v:=v } :: tr else r::jdh L t v tr
  |none=>r::jdh L t v tr
def je4 [Globs] (P:zy) (sp:jaa) (N:Nat) (L:List zX) (tab:List (List Nat)) (st0:St):List zX->List Rec->(List Rec->Prop)->Prop
 |[],tr,k=>k tr
 |o::rest,tr,k =>
  match o.guard with
  |none=>dop P sp N L tab st0 o tr fun r=>je4 P sp N L tab st0 rest (r::tr) k
  |some (g,want) =>
   match jbT L g with
   |none=>False
   |some t =>
    match jci L (tab.getD tr.length []) st0 t tr with
    |some (.w (.c (.d (.b b)))) =>
     Br b
      (match want with
       |true=>dop P sp N L tab st0 o (jdh L t (vb true) tr) fun r=>je4 P sp N L tab st0 rest (r::jdh L t (vb true) tr) k
       |false=>jjr N st0 o (jdh L t (vb true) tr) fun r=>je4 P sp N L tab st0 rest (r::jdh L t (vb true) tr) k)
      (match want with
       |true=>jjr N st0 o (jdh L t (vb false) tr) fun r=>je4 P sp N L tab st0 rest (r::jdh L t (vb false) tr) k
       |false=>dop P sp N L tab st0 o (jdh L t (vb false) tr) fun r=>je4 P sp N L tab st0 rest (r::jdh L t (vb false) tr) k)
    |some (.w (.c (.d (.v (.tuple _)))))=>jjr N st0 o tr fun r=>je4 P sp N L tab st0 rest (r::tr) k
    |_=>False
def jd4 (L:List zX) (st0:St):List Rec->List (Nat × V)
 |[]=>st0.tm
 |r::tr=>match jbT L tr.length with
  |some d=>(d,r.v)::jd4 L st0 tr
  |none=>jd4 L st0 tr
def jA9 (L:List zX) (st0:St) (tr:List Rec):St:=⟨jd4 L st0 tr,jan st0 tr,jab st0 tr⟩
def jdB:Nat->List zX->Bool
 |_,[]=>true
 |i,o::r=>(o.after.toList.all fun e=>!(yK .any e)||qh e.on i)&&jdB (i+1) r
def jkX [Globs] (P:zy) (sp:jaa) (N:Nat) (ops:Array zX) (st:St) (k:St->Prop):Prop :=
 match jcq ops.toList (jgU ops.toList []) 0 ops.toList&&jdB 0 ops.toList with
 |true=>je4 P sp N ops.toList (jgU ops.toList []) st ops.toList [] fun tr=>k (jA9 ops.toList st tr)
 |false=>False
end Go.Sx
end

section
open Go.RowKit
namespace Go.Sx
section
variable [Globs] {P:zy} {sp:jaa} {B:Kd} {N n0:Nat} {L:List zX} {tab:List (List Nat)} {st0:St} {U0:Env} {w0:zx}
def jbf (L:List zX) (tab:List (List Nat)) (st0:St) (o:zX) (tr:List Rec) (b:Bool):Prop :=
 match o.guard with
 |none=>b=true
 |some (g,want)=>∃t v,jbT L g=some t∧jci L (tab.getD tr.length []) st0 t tr=some v∧((∃c,v=vb c∧(c==want)=b)∨((∃l,v=.w (.c (.d (.v (.tuple l)))))∧b=false))
inductive Kind [Globs] (P:zy) (sp:jaa) (L:List zX) (tab:List (List Nat)) (st0:St) (o:zX) (tr:List Rec) (r:Rec):Prop where
 |skip (g:jbf L tab st0 o tr false) (h:r=⟨vu,jan st0 tr,jab st0 tr,0,[],none⟩)
 |pure (g:jbf L tab st0 o tr true) (ob:Prop) (hs:ja4 P o.op (jbb L (jaq L o) (tab.getD tr.length []) st0 tr) []=some (ob,r.v)) (ho:ob) (hk:ja5 (tab.getD tr.length []) st0 tr r.v [] (jab st0 tr)=true) (h:r=⟨r.v,jan st0 tr,jab st0 tr,0,[],none⟩)
 |built (g:jbf L tab st0 o tr true) (hb:jkW o.op=true) (ob:Prop) (hs:ja4 P o.op (jbb L (jaq L o) (tab.getD tr.length []) st0 tr) (jfP (tab.getD tr.length []) st0 tr)=some (ob,r.v)) (ho:ob) (hk:ja5 (tab.getD tr.length []) st0 tr r.v [] (jab st0 tr)=true) (h:r=⟨r.v,jan st0 tr,jab st0 tr,0,[],none⟩)
 |load (g:jbf L tab st0 o tr true) (hp:jaA o.op=false) (hl:jaH o.op=true) (x:Nat) (xo:O) (hx:loadAt o.op (jbb L (jaq L o) (tab.getD tr.length []) st0 tr)=some x) (hf:find (jan st0 tr) x=some xo)
   (hb:jas (fun j=>(tab.getD tr.length []).contains j) st0 tr x=true) (hst:jbE st0 (tab.getD tr.length []) x tr=true) (ob:Prop)
   (hs:ja4 P o.op (jbb L (jaq L o) (tab.getD tr.length []) st0 tr) [(x,xo)]=some (ob,r.v)) (ho:ob) (hk:ja5 (tab.getD tr.length []) st0 tr r.v [] (jab st0 tr)=true) (h:r=⟨r.v,jan st0 tr,jab st0 tr,0,[],none⟩)
 |mono (g:jbf L tab st0 o tr true) (hp:jaA o.op=false) (hl:jaH o.op=false) (hm:jam sp o.op (jbb L (jaq L o) (tab.getD tr.length []) st0 tr)=true) (res:Res)
   (hs:step P sp o.op (jbb L (jaq L o) (tab.getD tr.length []) st0 tr) (jdq (tab.getD tr.length []) st0 tr) (jab st0 tr)=some res) (ho:res.ob)
   (hk:ja5 (tab.getD tr.length []) st0 tr res.v (jaZ (jab st0 tr) res.hp) res.nx=true) (hn:joA (tab.getD tr.length []) tr (jaZ (jab st0 tr) res.hp)=true)
   (h:r=⟨res.v,jaZ (jab st0 tr) res.hp++jan st0 tr,res.nx,1,jaZ (jab st0 tr) res.hp,none⟩)
 |mload (g:jbf L tab st0 o tr true) (hp:jaA o.op=false) (hl:jaH o.op=true) (hmk:jfw tab tr.length 0 L=true) (hal:jdg (tab.getD tr.length []) tr=true) (hm:jam sp o.op (jbb L (jaq L o) (tab.getD tr.length []) st0 tr)=true) (res:Res)
   (hs:step P sp o.op (jbb L (jaq L o) (tab.getD tr.length []) st0 tr) (jdq (tab.getD tr.length []) st0 tr) (jab st0 tr)=some res) (ho:res.ob)
   (hk:ja5 (tab.getD tr.length []) st0 tr res.v (jaZ (jab st0 tr) res.hp) res.nx=true)
   (h:r=⟨res.v,jaZ (jab st0 tr) res.hp++jan st0 tr,res.nx,1,jaZ (jab st0 tr) res.hp,none⟩)
 |effect (g:jbf L tab st0 o tr true) (hp:jaA o.op=false) (hl:jaH o.op=false) (hmo:jam sp o.op (jbb L (jaq L o) (tab.getD tr.length []) st0 tr)=false) (mk:Bool) (hf:ja9 tab tr.length ((jbK L tab st0 o tr).isSome) mk 0 L=true) (res:Res)
   (hs:step P sp o.op (jbb L (jaq L o) (tab.getD tr.length []) st0 tr) (jan st0 tr) (jab st0 tr)=some res) (ho:res.ob)
   (hk:ja5 (tab.getD tr.length []) st0 tr res.v res.hp res.nx=true) (hm:jpU L tab st0 o tr mk res.hp=true) (h:r=⟨res.v,res.hp,res.nx,2,[],jbK L tab st0 o tr⟩)
structure RecOK [Globs] (P:zy) (sp:jaa) (N:Nat) (L:List zX) (tab:List (List Nat)) (st0:St) (tr:List Rec) (r:Rec) (o:zX):Prop where
 op:L[tr.length]?=some o
 dst:jb0 N o.dst=true
 kind:Kind P sp L tab st0 o tr r
inductive GoodTr [Globs] (P:zy) (sp:jaa) (N:Nat) (L:List zX) (tab:List (List Nat)) (st0:St):List Rec->Prop where
 |nil:GoodTr P sp N L tab st0 []
 |cons {tr:List Rec} {r:Rec} (h:GoodTr P sp N L tab st0 tr) (o:zX) (hr:RecOK P sp N L tab st0 tr r o):GoodTr P sp N L tab st0 (r::tr)
def je5 {t:Bool} {ob k:Prop} (h:obT t ob k) (ht:t=true->ob):ob∧k:=by
 cases t
 ·exact⟨h.1.h,h.2⟩
 ·exact⟨ht rfl,h⟩
def jno {op:Op} {rd:zH->Option V} {hp:Hp} {ob:Prop} {v:V} (ht:ja7 op rd hp=true) (h:ja4 P op rd hp=some (ob,v)):ob :=
 jiz (sp:=fun _=>none) (nx:=0) (r:=⟨ob,v,hp,0⟩) (P:=P) ht (by unfold step;rw[h])
def jgp {bef:List Nat} {t:Nat} {v:V}:∀{tr:List Rec},jci L bef st0 t tr=some v->jdh L t v tr=tr
 |[],_=>rfl
 |r::tr,h=>by
  simp only[jci]at h;simp only[jdh];cases hd:jbT L tr.length with
  |none =>
   simp only[hd]at h;rw[jgp h]
  |some d =>
   simp only[hd]at h ⊢;split at h
   ·rename_i e;rw[if_pos e];split at h
    ·cases h;rfl
    ·cases h
   ·rename_i e;rw[if_neg e,jgp h]
def jx9 {o:zX} {tr:List Rec} {mk:Bool} (h:jpT L tab st0 o tr=some mk):ja9 tab tr.length ((jbK L tab st0 o tr).isSome) mk 0 L=true:=by
 unfold jpT at h;split at h
 ·rename_i hf;cases h;exact hf
 ·split at h
  ·rename_i hf;cases h;simp only[zk]at hf;exact hf.2
  ·cases h
def jnp {o:zX} {tr:List Rec} {k:Rec->Prop} (h:dop P sp N L tab st0 o tr k) (hg:jbf L tab st0 o tr true) (hL:L[tr.length]?=some o):∃r,k r∧RecOK P sp N L tab st0 tr r o:=by
 unfold dop at h;split at h
 ·exact h.elim
 ·rename_i hd;split at h
  ·rename_i ob v hs;split at h
   ·rename_i hok;obtain⟨ho,hk⟩:=je5 h (fun ht=>jno ht hs);exact⟨_,hk,hL,hd,.pure hg ob hs ho hok rfl⟩
   ·exact h.elim
  ·split at h
   ·split at h
    ·rename_i hbo;split at h
     ·rename_i ob v hs;split at h
      ·rename_i hok;obtain⟨ho,hk⟩:=je5 h (fun ht=>jno ht hs);exact⟨_,hk,hL,hd,.built hg hbo ob hs ho hok rfl⟩
      ·exact h.elim
     ·exact h.elim
    ·exact h.elim
   ·rename_i hsp;split at h
    ·rename_i hl;split at h
     ·exact h.elim
     ·rename_i x hx;split at h
      ·exact h.elim
      ·rename_i xo hf;split at h
       ·exact h.elim
       ·rename_i hbs;split at h
        ·split at h
         ·exact h.elim
         ·rename_i hmk;split at h
          ·rename_i res hs;split at h
           ·rename_i hok;obtain⟨ho,hk⟩:=je5 h (fun ht=>jiz ht hs);simp only[zk]at hmk;exact⟨_,hk,hL,hd,.mload hg hsp hl hmk.1.1 hmk.1.2 hmk.2 res hs ho hok rfl⟩
           ·exact h.elim
          ·exact h.elim
        ·rename_i ob v hs;split at h
         ·rename_i hok;obtain⟨ho,hk⟩:=je5 h (fun ht=>jno ht hs);simp only[zk]at hbs;exact⟨_,hk,hL,hd,.load hg hsp hl x xo hx hf hbs.1 hbs.2 ob hs ho hok rfl⟩
         ·exact h.elim
    ·rename_i hl;split at h
     ·rename_i hm;split at h
      ·rename_i res hs;split at h
       ·rename_i hok;obtain⟨ho,hk⟩:=je5 h (fun ht=>jiz ht hs);simp only[zk]at hok;exact⟨_,hk,hL,hd,.mono hg hsp hl hm res hs ho hok.1 hok.2 rfl⟩
       ·exact h.elim
      ·exact h.elim
     ·rename_i hmo;split at h
      ·exact h.elim
      ·rename_i mk hf;split at h
       ·rename_i res hs;split at h
        ·rename_i hok;obtain⟨ho,hk⟩:=je5 h (fun ht=>jiz ht hs);simp only[zk]at hok;exact⟨_,hk,hL,hd,.effect hg hsp hl hmo mk (jx9 hf) res hs ho hok.1 hok.2 rfl⟩
        ·exact h.elim
       ·exact h.elim
def jjs {o:zX} {tr:List Rec} {k:Rec->Prop} (h:jjr N st0 o tr k) (hg:jbf L tab st0 o tr false) (hL:L[tr.length]?=some o):∃r,k r∧RecOK P sp N L tab st0 tr r o:=by
 unfold jjr at h;split at h
 ·exact h.elim
 ·rename_i hd;exact⟨_,h,hL,hd,.skip hg rfl⟩
def jqG:∀(rest:List zX) (tr:List Rec) (k:List Rec->Prop),je4 P sp N L tab st0 rest tr k->GoodTr P sp N L tab st0 tr->L=L.take tr.length++rest->tr.length+rest.length=L.length ->
  ∃T,k T∧GoodTr P sp N L tab st0 T∧T.length=L.length
 |[],tr,k,h,hg,_,hlen=>⟨tr,h,hg,by simpa using hlen⟩
 |o::rest,tr,k,h,hg,hL,hlen=>by
  have hlt:tr.length<L.length:=by simp at hlen;omega
  have ho:L[tr.length]?=some o:=by
   rw[hL,qa (by simp;omega)];simp[yY (gO hlt)]
  have next:∀r,je4 P sp N L tab st0 rest (r::tr) k->RecOK P sp N L tab st0 tr r o->∃T,k T∧GoodTr P sp N L tab st0 T∧T.length=L.length:=by
   intro r hr hok;refine jqG rest (r::tr) k hr (.cons hg o hok) ?_ (by simp at hlen ⊢;omega)
   have h1:L.take (tr.length+1)=L.take tr.length++[o]:=by
    rw[xY hlt]
    congr 2
    have:=zJ hlt;rw[this]at ho;exact xT ho
   simp only[z4,h1,qJ,jS];exact hL
  unfold je4 at h;split at h
  ·rename_i hgd;obtain⟨r,hk,hok⟩:=jnp h (by unfold jbf;rw[hgd]) ho;exact next r hk hok
  ·rename_i g want hgd;split at h
   ·exact h.elim
   ·rename_i t hdt;split at h
    ·rename_i b hsl;have hset:∀c,b=c->jdh L t (vb c) tr=tr:=fun c e=>jgp (by rw[hsl,e];rfl)
     have says:∀c d,b=c->(c==want)=d->jbf L tab st0 o tr d:=fun c d e e2=>by
      unfold jbf;rw[hgd];exact⟨t,_,hdt,hsl,.inl ⟨b,rfl,by rw[e];exact e2⟩⟩
     cases b<;>cases want<;>simp only[Br,hset _ rfl]at h
     ·obtain⟨r,hk,hok⟩:=jnp h (says false true rfl rfl) ho;exact next r hk hok
     ·obtain⟨r,hk,hok⟩:=jjs (P:=P) (sp:=sp) h (says false false rfl rfl) ho;exact next r hk hok
     ·obtain⟨r,hk,hok⟩:=jjs (P:=P) (sp:=sp) h (says true false rfl rfl) ho;exact next r hk hok
     ·obtain⟨r,hk,hok⟩:=jnp h (says true true rfl rfl) ho;exact next r hk hok
    ·rename_i l hsl;obtain⟨r,hk,hok⟩:=jjs (P:=P) (sp:=sp) h (by unfold jbf;rw[hgd];exact⟨t,_,hdt,hsl,.inr ⟨⟨l,rfl⟩,rfl⟩⟩) ho;exact next r hk hok
    ·exact h.elim
def jbF (L:List zX) (D:Nat->Bool) (st0:St) (t:Nat):List Rec->Option V
 |[]=>jaE st0.tm t
 |r::tr=>if jbT L tr.length=some t∧D tr.length=true then some r.v else jbF L D st0 t tr
def jao (D:Nat->Bool) (st0:St):List Rec->Hp
 |[]=>st0.hp
 |r::tr=>if D tr.length=true then(if r.kd=2 then r.hp else r.nw++jao D st0 tr)else jao D st0 tr
def jat {a b:Hp} {h:Nat}:find (a++b) h=(find a h).or (find b h):=by
 induction a with
 |nil=>rfl
 |cons p r ih =>
  obtain⟨k,o⟩:=p;simp only[qm,find];split
  ·rfl
  ·exact ih
def jfx {hp:Hp} {p:Nat->Bool} {h:Nat}:find (hp.filter fun x=>p x.1) h=if p h=true then find hp h else none:=by
 induction hp with
 |nil=>simp[find]
 |cons x r ih =>
  obtain⟨k,o⟩:=x;simp only[List.filter_cons,find]
  by_cases hk:p k=true
  ·rw[if_pos hk];simp only[find]
   by_cases e:k=h
   ·subst e;simp[hk]
   ·rw[if_neg e,if_neg e];exact ih
  ·rw[if_neg hk]
   by_cases e:k=h
   ·subst e;rw[ih];simp[hk]
   ·rw[if_neg e];exact ih
end
end Go.Sx
end

section
open Go.RowKit
namespace Go.Sx
def C.val_eqB {p:Nat->Bool} {U U':Env} (hU:∀h,p h=true->U' h=U h):∀{x:C},x.allB p=true->x.val U'=x.val U
 | .d _,_=>rfl
 | .p h _ _ _,hx=>by have hx:p h=true:=hx;simp only[C.val,hU h hx]
 | .o h,hx=>hU h hx
 | .fn _ hs,hx=>by
  simp only[C.val]
  congr 2
  exact z8 fun a ha=>hU a (zq.1 hx a ha)
 | .g _ _ _ _,_=>rfl
 | .fb _ hs,hx=>by
  simp only[C.val]
  congr 2
  exact z8 fun a ha=>hU a (zq.1 hx a ha)
def W.val_eqB {p:Nat->Bool} {U U':Env} (hU:∀h,p h=true->U' h=U h):∀{x:W},x.allB p=true->x.val U'=x.val U
 | .c _,hx=>C.val_eqB hU hx
 | .a l,hx=>by
  simp only[W.val]
  congr 2
  exact z8 fun a ha=>C.val_eqB hU (zq.1 hx a ha)
 | .b _ _ _,_=>rfl
def V.val_eqB {p:Nat->Bool} {U U':Env} (hU:∀h,p h=true->U' h=U h):∀{x:V},x.allB p=true->x.val U'=x.val U
 | .w _,hx=>W.val_eqB hU hx
 | .t l,hx=>by
  simp only[V.val]
  congr 2
  exact z8 fun a ha=>W.val_eqB hU (zq.1 hx a ha)
def C.allB_mono {p q:Nat->Bool} (h:∀x,p x=true->q x=true):∀{x:C},x.allB p=true->x.allB q=true
 | .d _,_=>rfl
 | .p _ _ _ _,hx=>h _ hx
 | .o _,hx=>h _ hx
 | .fn _ _,hx=>zq.2 fun a ha=>h a (zq.1 hx a ha)
 | .fb _ _,hx=>zq.2 fun a ha=>h a (zq.1 hx a ha)
 | .g _ _ _ _,_=>rfl
def W.allB_mono {p q:Nat->Bool} (h:∀x,p x=true->q x=true):∀{x:W},x.allB p=true->x.allB q=true
 | .c _,hx=>C.allB_mono h hx
 | .a _,hx=>zq.2 fun a ha=>C.allB_mono h (zq.1 hx a ha)
 | .b _ _ _,_=>rfl
def V.allB_mono {p q:Nat->Bool} (h:∀x,p x=true->q x=true):∀{x:V},x.allB p=true->x.allB q=true
 | .w _,hx=>W.allB_mono h hx
 | .t _,hx=>zq.2 fun a ha=>W.allB_mono h (zq.1 hx a ha)
def O.allB_mono {p q:Nat->Bool} (h:∀x,p x=true->q x=true):∀{x:O},x.allB p=true->x.allB q=true
 | .box _ _,hx=>zq.2 fun a ha=>C.allB_mono h (zq.1 hx a ha)
 | .view _ _ _,hx=>h _ hx
 | .sub _ _ _ _ _ _,hx=>h _ hx
 | .row _ _,_=>rfl
 | .ext _,_=>rfl
 | .dead,_=>rfl
 | .nan _,_=>rfl
 | .err,_=>rfl
 | .atom,_=>rfl
 | .ebox _,hx=>zq.2 fun a ha=>C.allB_mono h (zq.1 hx a ha)
 | .arr _ _ _ _,_=>rfl
 | .xext _,_=>rfl
 | .map _,_=>rfl
 | .rrow _,_=>rfl
 | .fext _,_=>rfl
 | .xrow _ _,_=>rfl
 | .lbox _ _ _ _,hx=>zq.2 fun a ha=>C.allB_mono h (zq.1 hx a ha)
 | .elist _ _ _,hx=>zq.2 fun a ha=>C.allB_mono h (zq.1 hx a ha)
 | .lview _ _ _ _,hx=>by
  simp only[O.allB,zk]at hx ⊢;exact⟨h _ hx.1,zq.2 fun a ha=>C.allB_mono h (zq.1 hx.2 a ha)⟩
 | .mrow _ _ _ _,_=>rfl
 | .trow _ _ _ _,_=>rfl
def C.lt_of_allB {n:Nat} {p:Nat->Bool} (h:∀x,p x=true->x<n):∀{x:C},x.allB p=true->x.lt n
 | .d _,_=>trivial
 | .p _ _ _ _,hx=>h _ hx
 | .o _,hx=>h _ hx
 | .fn _ _,hx=>fun a ha=>h a (zq.1 hx a ha)
 | .fb _ _,hx=>fun a ha=>h a (zq.1 hx a ha)
 | .g _ _ _ _,_=>trivial
def W.lt_of_allB {n:Nat} {p:Nat->Bool} (h:∀x,p x=true->x<n):∀{x:W},x.allB p=true->x.lt n
 | .c _,hx=>C.lt_of_allB h hx
 | .a _,hx=>fun a ha=>C.lt_of_allB h (zq.1 hx a ha)
 | .b _ _ _,_=>trivial
def V.lt_of_allB {n:Nat} {p:Nat->Bool} (h:∀x,p x=true->x<n):∀{x:V},x.allB p=true->x.lt n
 | .w _,hx=>W.lt_of_allB h hx
 | .t _,hx=>fun a ha=>W.lt_of_allB h (zq.1 hx a ha)
def O.lt_of_allB {n:Nat} {p:Nat->Bool} (h:∀x,p x=true->x<n):∀{x:O},x.allB p=true->x.lt n
 | .box _ _,hx=>fun a ha=>C.lt_of_allB h (zq.1 hx a ha)
 | .view _ _ _,hx=>h _ hx
 | .sub _ _ _ _ _ _,hx=>h _ hx
 | .row _ _,_=>trivial
 | .ext _,_=>trivial
 | .dead,_=>trivial
 | .nan _,_=>trivial
 | .err,_=>trivial
 | .atom,_=>trivial
 | .ebox _,hx=>fun a ha=>C.lt_of_allB h (zq.1 hx a ha)
 | .arr _ _ _ _,_=>trivial
 | .xext _,_=>trivial
 | .map _,_=>trivial
 | .rrow _,_=>trivial
 | .fext _,_=>trivial
 | .xrow _ _,_=>trivial
 | .lbox _ _ _ _,hx=>fun a ha=>C.lt_of_allB h (zq.1 hx a ha)
 | .elist _ _ _,hx=>fun a ha=>C.lt_of_allB h (zq.1 hx a ha)
 | .lview _ _ _ _,hx=>by
  simp only[O.allB,zk]at hx;exact⟨h _ hx.1,fun a ha=>C.lt_of_allB h (zq.1 hx.2 a ha)⟩
 | .mrow _ _ _ _,_=>trivial
 | .trow _ _ _ _,_=>trivial
def C.allB_of_lt {n:Nat} {p:Nat->Bool} (h:∀x,x<n->p x=true):∀{x:C},x.lt n->x.allB p=true
 | .d _,_=>rfl
 | .p _ _ _ _,hx=>h _ hx
 | .o _,hx=>h _ hx
 | .fn _ _,hx=>zq.2 fun a ha=>h a (hx a ha)
 | .fb _ _,hx=>zq.2 fun a ha=>h a (hx a ha)
 | .g _ _ _ _,_=>rfl
def W.allB_of_lt {n:Nat} {p:Nat->Bool} (h:∀x,x<n->p x=true):∀{x:W},x.lt n->x.allB p=true
 | .c _,hx=>C.allB_of_lt h hx
 | .a _,hx=>zq.2 fun a ha=>C.allB_of_lt h (hx a ha)
 | .b _ _ _,_=>rfl
def V.allB_of_lt {n:Nat} {p:Nat->Bool} (h:∀x,x<n->p x=true):∀{x:V},x.lt n->x.allB p=true
 | .w _,hx=>W.allB_of_lt h hx
 | .t _,hx=>zq.2 fun a ha=>W.allB_of_lt h (hx a ha)
def O.allB_of_lt {n:Nat} {p:Nat->Bool} (h:∀x,x<n->p x=true):∀{x:O},x.lt n->x.allB p=true
 | .box _ _,hx=>zq.2 fun a ha=>C.allB_of_lt h (hx a ha)
 | .view _ _ _,hx=>h _ hx
 | .sub _ _ _ _ _ _,hx=>h _ hx
 | .row _ _,_=>rfl
 | .ext _,_=>rfl
 | .dead,_=>rfl
 | .nan _,_=>rfl
 | .err,_=>rfl
 | .atom,_=>rfl
 | .ebox _,hx=>zq.2 fun a ha=>C.allB_of_lt h (hx a ha)
 | .arr _ _ _ _,_=>rfl
 | .xext _,_=>rfl
 | .map _,_=>rfl
 | .rrow _,_=>rfl
 | .fext _,_=>rfl
 | .xrow _ _,_=>rfl
 | .lbox _ _ _ _,hx=>zq.2 fun a ha=>C.allB_of_lt h (hx a ha)
 | .elist _ _ _,hx=>zq.2 fun a ha=>C.allB_of_lt h (hx a ha)
 | .lview _ _ _ _,hx=>by
  simp only[O.allB,zk];exact⟨h _ hx.1,zq.2 fun a ha=>C.allB_of_lt h (hx.2 a ha)⟩
 | .mrow _ _ _ _,_=>rfl
 | .trow _ _ _ _,_=>rfl
section
variable [Globs] {P:zy} {sp:jaa} {B0 B:Kd} {N n0:Nat} {L:List zX} {tab:List (List Nat)} {st0:St} {U0:Env} {w0:zx} {ds:List x7}
def RecOK.nx_le {tr:List Rec} {r:Rec} {o:zX} (h:RecOK P sp N L tab st0 tr r o):jab st0 tr<=r.nx:=by
 cases h.kind with
 |skip g e=>rw[e];exact zu _
 |pure g ob hs ho hk e=>rw[e];exact zu _
 |built g hb ob hs ho hk e=>rw[e];exact zu _
 |load g hp hl x xo hx hf hb hst ob hs ho hk e=>rw[e];exact zu _
 |mono g hp hl hm res hs ho hk hnk e =>
  simp only[ja5,zk,xd]at hk;rw[e];exact hk.1.1
 |mload g hp hl hmk hal hm res hs ho hk e =>
  simp only[ja5,zk,xd]at hk;rw[e];exact hk.1.1
 |effect g hp hl hmo mk hf res hs ho hk hmk e =>
  simp only[ja5,zk,xd]at hk;rw[e];exact hk.1.1
def GoodTr.tail {later tr:List Rec} (h:GoodTr P sp N L tab st0 (later++tr)):GoodTr P sp N L tab st0 tr:=by
 induction later with
 |nil=>exact h
 |cons r l ih=>cases h with|cons h' o hr=>exact ih h'
def jdr {later tr:List Rec} (h:GoodTr P sp N L tab st0 (later++tr)):jab st0 tr<=jab st0 (later++tr):=by
 induction later with
 |nil=>exact zu _
 |cons r l ih=>cases h with|cons h' o hr=>exact qx (ih h') hr.nx_le
def jmc {tr:List Rec} (h:GoodTr P sp N L tab st0 tr):st0.nx<=jab st0 tr:=by
 have:=jdr (later:=tr) (tr:=[]) (by rw[yD];exact h);rw[yD]at this;exact this
def jBC {T:List Rec} (h:GoodTr P sp N L tab st0 T) {i:Nat} (hi:i<T.length):∃later r tr o,T=later++r::tr∧tr.length=i∧RecOK P sp N L tab st0 tr r o:=by
 induction h with
 |nil=>simp at hi
 | @cons tr r h o hr ih =>
  by_cases he:i=tr.length
  ·exact⟨[],r,tr,o,rfl,he.symm,hr⟩
  ·obtain⟨later,r',tr',o',h1,h2,h3⟩:=ih (by simp at hi;omega);exact⟨r::later,r',tr',o',by simp[h1],h2,h3⟩
def jjt {q:Nat->Bool} {later tr:List Rec} {h:Nat} (hg:GoodTr P sp N L tab st0 (later++tr)) (hh:h<jab st0 tr):jas q st0 (later++tr) h=jas q st0 tr h:=by
 induction later with
 |nil=>rfl
 |cons r l ih =>
  cases hg with
  |cons h' o hr =>
   have h1:=jdr h';simp only[qm,jas]
   have:qn (jab st0 (l++tr)) h=false:=by
    rw[qL];intro hc;rw[xd]at hc;omega
   rw[this];exact ih h'
def jvI {q:Nat->Bool} {later tr:List Rec} {r:Rec} {h:Nat} (hg:GoodTr P sp N L tab st0 (later++r::tr)) (h1:jab st0 tr<=h) (h2:h<r.nx):jas q st0 (later++r::tr) h=q tr.length:=by
 rw[jjt hg (show h<jab st0 (r::tr)from h2)];simp only[jas];have:qn (jab st0 tr) h=true:=by rw[xd];exact h1
 rw[this]
def jkc {later tr:List Rec} {h:Nat} (hg:GoodTr P sp N L tab st0 (later++tr)) (hh:h<jab st0 tr):jb1 st0 (later++tr) h=jb1 st0 tr h:=by
 induction later with
 |nil=>rfl
 |cons r l ih =>
  cases hg with
  |cons h' o hr =>
   have h1:=jdr h';simp only[qm,jb1]
   have:qn (jab st0 (l++tr)) h=false:=by
    rw[qL];intro hc;rw[xd]at hc;omega
   rw[this];exact ih h'
def jwm {later tr:List Rec} {r:Rec} {h:Nat} (hg:GoodTr P sp N L tab st0 (later++r::tr)) (h1:jab st0 tr<=h) (h2:h<r.nx):jb1 st0 (later++r::tr) h=C.one r.hp (.o h):=by
 rw[jkc hg (show h<jab st0 (r::tr)from h2)];simp only[jb1];have:qn (jab st0 tr) h=true:=by rw[xd];exact h1
 rw[this]
def jkY {h:Nat} (hh:h<st0.nx):∀{tr:List Rec},GoodTr P sp N L tab st0 tr->jb1 st0 tr h=C.one st0.hp (.o h)
 |[],_=>rfl
 |r::tr,hg=>by
  cases hg with
  |cons h' o hr =>
   have:=jmc h';simp only[jb1]
   have e:qn (jab st0 tr) h=false:=by
    rw[qL];intro hc;rw[xd]at hc;omega
   rw[e];exact jkY hh h'
def joB {q q':Nat->Bool} {x:Nat}:∀{tr:List Rec},(∀j,j<tr.length->q' j=q j)->jas q' st0 tr x=jas q st0 tr x
 |[],_=>rfl
 |r::tr,hq=>by
  simp only[jas];split
  ·exact hq _ (by simp)
  ·exact joB fun j hj=>hq j (by simp;omega)
def jzL {q q':Nat->Bool} {later tr:List Rec} {r:Rec} {x:Nat} (hq:∀j,j≠tr.length->q' j=q j) (hx:¬(jab st0 tr<=x∧x<r.nx)) (hg:GoodTr P sp N L tab st0 (later++r::tr)) (hlt:x<jab st0 (later++r::tr)) :
  jas q' st0 (later++r::tr) x=jas q st0 (later++r::tr) x:=by
 induction later with
 |nil =>
  have hlt:x<r.nx:=hlt;have h1:¬jab st0 tr<=x:=fun h=>hx ⟨h,hlt⟩
  have e:qn (jab st0 tr) x=false:=by
   rw[qL];intro hc;rw[xd]at hc;exact h1 hc
  simp only[qM,jas,e];exact joB fun j hj=>hq j (by omega)
 |cons r' l ih =>
  cases hg with
  |cons h' o hr =>
   simp only[qm,jas];split
   ·exact hq _ (by simp;omega)
   ·rename_i hb;refine ih h' ?_;have:¬jab st0 (l++r::tr)<=x:=fun hc=>by rw[xH hc]at hb;cases hb
    omega
def jfQ {q q':Nat->Bool} (hq:∀j,q j=true->q' j=true):∀(tr:List Rec) (h:Nat),jas q st0 tr h=true->jas q' st0 tr h=true
 |[],_,_=>rfl
 |r::tr,h,hb=>by
  simp only[jas]at hb ⊢;split at hb
  ·exact hq _ hb
  ·exact jfQ hq tr h hb
def jqH {q:Nat->Bool} {h:Nat} (hh:h<st0.nx):∀{tr:List Rec},GoodTr P sp N L tab st0 tr->jas q st0 tr h=true
 |[],_=>rfl
 |r::tr,hg=>by
  cases hg with
  |cons h' o hr =>
   have:=jmc h';simp only[jas]
   have e:qn (jab st0 tr) h=false:=by
    rw[qL];intro hc;rw[xd]at hc;omega
   rw[e];exact jqH hh h'
def jgW {bef:List Nat} {D:Nat->Bool} {t:Nat} (hb:∀j,j∈bef->D j=true):∀{tr:List Rec} {v:V},jci L bef st0 t tr=some v->jbF L D st0 t tr=some v
 |[],_,h=>h
 |r::tr,v,h=>by
  simp only[jci]at h;simp only[jbF];cases hd:jbT L tr.length with
  |none =>
   simp only[hd]at h;rw[if_neg (by simp)];exact jgW hb h
  |some d =>
   simp only[hd]at h;split at h
   ·rename_i e;subst e;split at h
    ·rename_i hc;rw[if_pos ⟨rfl,hb _ (by simpa using hc)⟩];exact h
    ·cases h
   ·rename_i e;rw[if_neg (by simp[e])];exact jgW hb h
def jhW {D:Nat->Bool} {t:Nat} {tr:List Rec}:∀{later:List Rec},(∀j,tr.length<=j->jbT L j=some t->D j=false)->jbF L D st0 t (later++tr)=jbF L D st0 t tr
 |[],_=>rfl
 |r::l,h=>by
  simp only[qm,jbF];rw[if_neg (fun⟨h1,h2⟩=>by rw[h _ (by simp) h1]at h2;cases h2)];exact jhW h
def jmN {D D':Nat->Bool} {t:Nat}:∀{tr:List Rec},(∀j,j<tr.length->D' j=D j)->jbF L D' st0 t tr=jbF L D st0 t tr
 |[],_=>rfl
 |r::tr,h=>by
  simp only[jbF];rw[h tr.length (by simp),jmN (fun j hj=>h j (by simp;omega))]
def jhX {D D':Nat->Bool}:∀{tr:List Rec},(∀j,j<tr.length->D' j=D j)->jao D' st0 tr=jao D st0 tr
 |[],_=>rfl
 |r::tr,h=>by
  simp only[jao];rw[h tr.length (by simp),jhX (fun j hj=>h j (by simp;omega))]
def jhC {j t:Nat}:∀{l:List zX} {i:Nat},jgo L tab j t i l=true->∀m o,l[m]?=some o->i+m<j->t∈jaq L o->(i+m)∈tab.getD j []
 |[],_,_,_,_,h,_,_=>by simp at h
 |o' :: r,i,hs,m,o,h,hlt,ht=>by
  simp only[jgo,zk]at hs;cases m with
  |zero =>
   simp at h;subst h;have h1:=hs.1;have hb:qh i j=true:=by rw[qz];omega
   have hc:(jaq L o').contains t=true:=by simpa using ht
   rw[hb,hc]at h1;simpa using h1
  |succ m =>
   have:=jhC hs.2 m o (by simpa using h) (by omega) ht;rw[show i+(m+1)=i+1+m by omega];exact this
def jkZ:∀{l:List zX} {j:Nat},jcq L tab j l=true->∀m o t,l[m]?=some o->o.dst=some t->∀i o',L[i]?=some o'->i<j+m->t∈jaq L o'->i∈tab.getD (j+m) []
 |[],_,_,_,_,_,h,_,_,_,_,_,_=>by simp at h
 |o0::r,j,hs,m,o,t,h,hd,i,o',ho',hlt,ht=>by
  simp only[jcq,zk]at hs;cases m with
  |zero =>
   simp at h;subst h;have h1:=hs.1;rw[hd]at h1;have:=jhC h1 i o' ho' (by simpa using hlt) ht;simpa using this
  |succ m =>
   have:=jkZ hs.2 m o t (by simpa using h) hd i o' ho' (by omega) ht;rw[show j+(m+1)=j+1+m by omega];exact this
def jk0 {D:Nat->Bool} {i t:Nat} {o:zX} (hs:jcq L tab 0 L=true) (ht:jcS L tab) (hc:jcJ L D) (hi:D i=false) (ho:L[i]?=some o) (hn:t∈jaq L o) :
  ∀j,i<j->jbT L j=some t->D j=false:=by
 intro j hij hd;rw[qL];intro hD;unfold jbT at hd;cases hj:L[j]? with
 |none=>simp[hj]at hd
 |some oj =>
  simp only[hj,zw]at hd;have h1:=jkZ hs j oj t (by simpa using hj) hd i o ho (by omega) hn;rw[zP]at h1;have:=jcT ht hc j i (fun o' ho' e he hb=>hc j o' ho' hD e he hb) h1;rw[this]at hi;cases hi
def jqI {D:Nat->Bool} {later tr:List Rec} {r:Rec} {o:zX} {t:Nat} {v:V} (hs:jcq L tab 0 L=true) (ht:jcS L tab) (hc:jcJ L D) (hi:D tr.length=false) (ho:L[tr.length]?=some o) (hn:t∈jaq L o)
  (hb:∀j,j∈tab.getD tr.length []->D j=true) (h:jci L (tab.getD tr.length []) st0 t tr=some v):jbF L D st0 t (later++r::tr)=some v:=by
 rw[show later++r::tr=(later++[r])++tr by simp,jhW]
 ·exact jgW hb h
 ·intro j hj hd
  by_cases he:j=tr.length
  ·rw[he];exact hi
  ·exact jk0 hs ht hc hi ho hn j (by omega) hd
def jaY (st0:St) (T:List Rec) (D:Nat->Bool) (h:Nat):Bool:=qh h (jab st0 T)&&jas D st0 T h
structure Inv [Globs] (ds:List x7) (L:List zX) (st0:St) (B0 B:Kd) (N n0:Nat) (U0:Env) (w0:zx) (T:List Rec) (D:Nat->Bool) (a:Act) (w:zx) (U:Env):Prop where
 tm:∀t v,jbF L D st0 t T=some v->v.allB (jaY st0 T D)=true∧a.tmps.getD t qe=v.val U
 size:a.tmps.size=N
 defers:a.defers=ds
 heap:HRel U B (jao D st0 T) (jab st0 T) w
 hal:∀h o,find (jao D st0 T) h=some o->jaY st0 T D h=true∧o.allB (jaY st0 T D)=true
 le:Old B w
 agree:jae n0 U0 U
 below:Bel B0 w0 w
 one:∀h,jaY st0 T D h=true->jb1 st0 T h=true->(U h).oneCell'=true
 gr:Grow B0 B false w w
 le0:Old B0 w
def jds {D:Nat->Bool} {later tr:List Rec} {r:Rec} {o:zX} {a:Act} {w:zx} {U:Env} {b:Bool} (hs:jcq L tab 0 L=true) (ht:jcS L tab) (hc:jcJ L D) (hi:D tr.length=false) (ho:L[tr.length]?=some o)
  (hb:∀j,j∈tab.getD tr.length []->D j=true) (hinv:Inv ds L st0 B0 B N n0 U0 w0 (later++r::tr) D a w U) (hg:jbf L tab st0 o tr b):xy o (jd L.toArray a.tmps)=b:=by
 unfold jbf at hg;unfold xy;cases hgd:o.guard with
 |none=>rw[hgd]at hg;exact hg.symm
 |some p =>
  obtain⟨g,want⟩:=p;rw[hgd]at hg;obtain⟨t,v,hdt,hsl,hor⟩:=hg;have hn:t∈jaq L o:=by simp[jaq,hgd,hdt]
  have hsd:=jqI (later:=later) (r:=r) hs ht hc hi ho hn hb hsl;have h1:=(hinv.tm t v hsd).2
  have hy:jd L.toArray a.tmps g=(match v.val U with | .bool b=>some b|_=>none):=by
   unfold jd;have hd2:((L.toArray[g]?).bind (·.dst))=some t:=by simpa [jbT]using hdt
   rw[hd2];simp only[zw];rw[<-h1]
   by_cases hlt:t<a.tmps.size
   ·simp only[qS,qE hlt,zU];cases a.tmps[t]<;>rfl
   ·simp[hlt,qe]
  dsimp only;rw[hy];rcases hor with ⟨c,rfl,hcw⟩|⟨⟨l,rfl⟩,rfl⟩
  ·simpa using hcw
  ·rfl
def jmd {D D':Nat->Bool} {later tr:List Rec} {r:Rec} {o:zX} {a:Act} {w:zx} {U U':Env} (hs:jcq L tab 0 L=true) (ht:jcS L tab) (hc:jcJ L D) (hi:D tr.length=false) (ho:L[tr.length]?=some o)
  (hok:jb0 N o.dst=true) (hD1:D' tr.length=true) (hD2:∀j,j≠tr.length->D' j=D j) (hinv:Inv ds L st0 B0 B N n0 U0 w0 (later++r::tr) D a w U)
  (hU:∀h,jaY st0 (later++r::tr) D h=true->U' h=U h) (hv:r.v.allB (jaY st0 (later++r::tr) D')=true) :
  ∀t v,jbF L D' st0 t (later++r::tr)=some v->v.allB (jaY st0 (later++r::tr) D')=true∧(a.put o.dst (r.v.val U')).tmps.getD t qe=v.val U':=by
 intro t v hsl;have hdl:∀x,o.dst=some x->x<a.tmps.size:=fun x hx=>by rw[hinv.size];exact jsx hok x hx
 rw[jbQ hdl];have hdst:jbT L tr.length=o.dst:=by simp[jbT,ho]
 have hal:∀h,jaY st0 (later++r::tr) D h=true->jaY st0 (later++r::tr) D' h=true:=by
  intro h hh;simp only[jaY,zk]at hh ⊢;refine⟨hh.1,jfQ (fun j hj=>?_) _ _ hh.2⟩
  by_cases he:j=tr.length
  ·rw[he];exact hD1
  ·rw[hD2 j he];exact hj
 by_cases hdt:o.dst=some t
 ·rw[if_pos hdt];have hn:t∈jaq L o:=by simp[jaq,hdt]
  have hlat:jbF L D' st0 t (later++r::tr)=jbF L D' st0 t (r::tr):=by
   apply jhW;intro j hj hd;simp at hj;rw[hD2 j (by omega)];exact jk0 hs ht hc hi ho hn j (by omega) hd
  rw[hlat]at hsl;simp only[jbF]at hsl;rw[if_pos ⟨by rw[hdst];exact hdt,hD1⟩]at hsl;cases hsl;exact⟨hv,rfl⟩
 ·rw[if_neg hdt]
  have hsame:jbF L D' st0 t (later++r::tr)=jbF L D st0 t (later++r::tr):=by
   clear hsl hinv hU hv hal
   induction later with
   |nil =>
    simp only[qM,jbF];rw[if_neg (fun h=>hdt (by rw[<-hdst];exact h.1)),if_neg (fun h=>hdt (by rw[<-hdst];exact h.1))];exact jmN fun j hj=>hD2 j (by omega)
   |cons x l ih =>
    simp only[qm,jbF];rw[hD2 _ (by simp;omega),ih]
  rw[hsame]at hsl;have h1:=hinv.tm t v hsl;refine⟨V.allB_mono hal h1.1,?_⟩;rw[h1.2];exact(V.val_eqB hU h1.1).symm
def jzM {D:Nat->Bool} {later tr:List Rec} {r:Rec} {o:zX} {a:Act} {w:zx} {U:Env} (hg:GoodTr P sp N L tab st0 (later++r::tr)) (hs:jcq L tab 0 L=true) (ht:jcS L tab) (hc:jcJ L D) (hi:D tr.length=false) (ho:L[tr.length]?=some o)
  (hb:∀j,j∈tab.getD tr.length []->D j=true) (hbase:∀t v,jaE st0.tm t=some v->v.lt st0.nx) (hinv:Inv ds L st0 B0 B N n0 U0 w0 (later++r::tr) D a w U) :
  jav U (jab st0 tr) (jbb L (jaq L o) (tab.getD tr.length []) st0 tr) a:=by
 have hgt:GoodTr P sp N L tab st0 tr:=GoodTr.tail (later:=later++[r]) (by simpa using hg)
 have slot_lt:∀(tr:List Rec),GoodTr P sp N L tab st0 tr->∀bef t v,jci L bef st0 t tr=some v->v.lt (jab st0 tr):=by
  intro tr hg
  induction hg with
  |nil=>exact fun bef t v h=>hbase t v h
  | @cons tr r h o hr ih =>
   intro bef t v hsl;simp only[jci]at hsl;have down:jci L bef st0 t tr=some v->v.lt r.nx:=fun h'=>V.lt_mono hr.nx_le (ih bef t v h');cases hd:jbT L tr.length with
   |none=>simp only[hd]at hsl;exact down hsl
   |some d =>
    simp only[hd]at hsl;split at hsl
    ·split at hsl
     ·cases hsl
      show V.lt r.nx r.v
      cases hr.kind with
      |skip g e=>rw[e];trivial
      |pure g ob hs ho hk e =>
       simp only[ja5,zk]at hk;rw[e];exact V.lt_of_allB (fun x hx=>by simp only[zk,qz]at hx;exact hx.1) hk.1.2
      |built g hb ob hs ho hk e =>
       simp only[ja5,zk]at hk;rw[e];exact V.lt_of_allB (fun x hx=>by simp only[zk,qz]at hx;exact hx.1) hk.1.2
      |load g hp hl x xo hx hf hb hst ob hs ho hk e =>
       simp only[ja5,zk]at hk;rw[e];exact V.lt_of_allB (fun x hx=>by simp only[zk,qz]at hx;exact hx.1) hk.1.2
      |mono g hp hl hm res hs ho hk hnk e =>
       simp only[ja5,zk]at hk;rw[e];exact V.lt_of_allB (fun x hx=>by simp only[zk,qz]at hx;exact hx.1) hk.1.2
      |mload g hp hl hmk hal hm res hs ho hk e =>
       simp only[ja5,zk]at hk;rw[e];exact V.lt_of_allB (fun x hx=>by simp only[zk,qz]at hx;exact hx.1) hk.1.2
      |effect g hp hl hmo mk hf res hs ho hk hmk e =>
       simp only[ja5,zk]at hk;rw[e];exact V.lt_of_allB (fun x hx=>by simp only[zk,qz]at hx;exact hx.1) hk.1.2
     ·cases hsl
    ·exact down hsl
 intro x u hx;cases x with
 |tmp t =>
  simp only[jbb]at hx;split at hx
  ·rename_i hcn;have hn:t∈jaq L o:=by simpa using hcn
   exact⟨slot_lt tr hgt _ t u hx,(hinv.tm t u (jqI hs ht hc hi ho hn hb hx)).2⟩
  ·cases hx
 |const v =>
  simp only[jbb,jbC,zi]at hx;subst hx;exact⟨jn8 _ v,(jmz U v).symm⟩
 |global g =>
  simp only[jbb,jbC]at hx;split at hx
  ·cases hx;exact⟨trivial,by simp[V.val,W.val,C.val,g6]⟩
  ·cases hx;exact⟨trivial,rfl⟩
 |func f =>
  simp only[jbb,jbC,zi]at hx;subst hx;exact⟨(fun _ hh=>by cases hh),by simp[V.val,W.val,C.val,g6]⟩
end
end Go.Sx
end

section
open Go.RowKit
namespace Go.Sx
section
variable [Globs] {P:zy} {sp:jaa} {B0 B:Kd} {N n0:Nat} {L:List zX} {tab:List (List Nat)} {st0:St} {U0:Env} {w0:zx} {ds:List x7}
def jc8 {i:Nat} {lf mk:Bool}:∀{l:List zX} {k:Nat},ja9 tab i lf mk k l=true->∀m o,l[m]?=some o->k+m=i∨jaA o.op=true∨(k+m)∈tab.getD i []∨i∈tab.getD (k+m) []∨(lf=true∧jaH o.op=true)∨(mk=true∧i<k+m∧jjp o.op=true)
 |[],_,_,_,_,h=>by simp at h
 |o' :: r,k,hs,m,o,h=>by
  simp only[ja9,zk,xn]at hs;cases m with
  |zero =>
   simp at h;subst h;rcases hs.1 with ((((h1|h1)|h1)|h1)|h1)|h1
   ·exact .inl (by simpa using zb h1)
   ·exact .inr (.inl h1)
   ·exact .inr (.inr (.inl (by simpa using h1)))
   ·exact .inr (.inr (.inr (.inl (by simpa using h1))))
   ·exact .inr (.inr (.inr (.inr (.inl h1))))
   ·exact .inr (.inr (.inr (.inr (.inr ⟨h1.1.1,by simpa [qz]using h1.1.2,h1.2⟩))))
  |succ m =>
   have:=jc8 hs.2 m o (by simpa using h);rw[show k+(m+1)=k+1+m by omega];exact this
def jju:∀{l:List zX} {k:Nat},jdB k l=true->∀m o,l[m]?=some o->∀e∈o.after.toList,yK .any e=true->e.on<k+m
 |[],_,_,_,_,h=>by simp at h
 |o' :: r,k,hs,m,o,h=>by
  simp only[jdB,zk]at hs;cases m with
  |zero =>
   simp at h;subst h;intro e he hb;have:=zq.1 hs.1 e he;rw[hb]at this;simpa using this
  |succ m =>
   have:=jju hs.2 m o (by simpa using h);rw[show k+(m+1)=k+1+m by omega];exact this
def jya (he:jdB 0 L=true) (ht:jcS L tab):∀(i k:Nat),k∈tab.getD i []->k<i:=by
 intro i
 induction i using hZ with
 |_ i ih =>
  intro k hk;obtain⟨o,ho,e,hem,hb,hor⟩:=ht i k hk;have h1:=jju he i o ho e hem hb;rw[zP]at h1;rcases hor with rfl|⟨hlt,hk'⟩
  ·exact h1
  ·exact Nat.lt_trans (ih e.on hlt k hk') hlt
def jk1 (st0:St):Prop:=∀h o,find st0.hp h=some o->h<st0.nx∧o.lt st0.nx
def jgq {bef:List Nat} {tr:List Rec} {v:V} {hp:Hp} {nx:Nat} (hk:ja5 bef st0 tr v hp nx=true) {h:Nat} {o:O} (hf:find hp h=some o) :
  h<nx∧o.allB (fun h=>qh h nx&&(qn (jab st0 tr) h||jas (fun j=>bef.contains j) st0 tr h))=true:=by
 simp only[ja5,zk]at hk;have:=zq.1 hk.2 (h,o) (jjm hf);simp only[zk,qz]at this;exact this
def jnq {bef:List Nat} {tr:List Rec} {v:V} {hp:Hp} {nx:Nat} (hk:ja5 bef st0 tr v hp nx=true) :
  v.allB (fun h=>qh h nx&&(qn (jab st0 tr) h||jas (fun j=>bef.contains j) st0 tr h))=true:=by
 simp only[ja5,zk]at hk;exact hk.1.2
def jhD {n:Nat} {hp:Hp} {h:Nat}:find (jaZ n hp) h=if qn n h=true then find hp h else none:=jfx (p:=fun k=>qn n k)
def keys {tr:List Rec} (hg:GoodTr P sp N L tab st0 tr) (hb:jk1 st0):∀h o,find (jan st0 tr) h=some o->h<jab st0 tr∧o.lt (jab st0 tr):=by
 induction hg with
 |nil=>exact hb
 | @cons tr r hgt o hr ih =>
  intro h ob hf
  show h<r.nx∧ob.lt r.nx
  have hf:find r.hp h=some ob:=hf;cases hr.kind with
  |skip g e=>rw[e]at hf ⊢;exact ih h ob hf
  |pure g ob' hs ho hk e=>rw[e]at hf ⊢;exact ih h ob hf
  |built g hb0 ob' hs ho hk e=>rw[e]at hf ⊢;exact ih h ob hf
  |load g hp hl x xo hx hf0 hb0 hst ob' hs ho hk e=>rw[e]at hf ⊢;exact ih h ob hf
  |mono g hp hl hm res hs ho hk hnk e =>
   rw[e]at hf ⊢;have hle:jab st0 tr<=res.nx:=by simp only[ja5,zk,xd]at hk;exact hk.1.1
   simp only[jat]at hf;cases hn:find (jaZ (jab st0 tr) res.hp) h with
   |some x =>
    rw[hn]at hf;cases hf;have:=jgq hk hn;exact⟨this.1,O.lt_of_allB (p:=fun h=>qh h res.nx&&(qn (jab st0 tr) h||jas (fun j=>(tab.getD tr.length []).contains j) st0 tr h)) (fun x hx=>by simp only[zk,qz]at hx;exact hx.1) this.2⟩
   |none =>
    rw[hn]at hf;have:=ih h ob hf;exact⟨zC this.1 hle,O.lt_mono hle this.2⟩
  |mload g hp hl hmk hal hm res hs ho hk e =>
   rw[e]at hf ⊢;have hle:jab st0 tr<=res.nx:=by simp only[ja5,zk,xd]at hk;exact hk.1.1
   simp only[jat]at hf;cases hn:find (jaZ (jab st0 tr) res.hp) h with
   |some x =>
    rw[hn]at hf;cases hf;have:=jgq hk hn;exact⟨this.1,O.lt_of_allB (p:=fun h=>qh h res.nx&&(qn (jab st0 tr) h||jas (fun j=>(tab.getD tr.length []).contains j) st0 tr h)) (fun x hx=>by simp only[zk,qz]at hx;exact hx.1) this.2⟩
   |none =>
    rw[hn]at hf;have:=ih h ob hf;exact⟨zC this.1 hle,O.lt_mono hle this.2⟩
  |effect g hp hl hmo mk hf' res hs ho hk hmk e =>
   rw[e]at hf ⊢;have:=jgq hk hf;exact⟨this.1,O.lt_of_allB (p:=fun h=>qh h res.nx&&(qn (jab st0 tr) h||jas (fun j=>(tab.getD tr.length []).contains j) st0 tr h)) (fun x hx=>by simp only[zk,qz]at hx;exact hx.1) this.2⟩
def GoodTr.inv {tr:List Rec} {r:Rec} (h:GoodTr P sp N L tab st0 (r::tr)):GoodTr P sp N L tab st0 tr∧∃o,RecOK P sp N L tab st0 tr r o:=by
 cases h with|cons h o hr=>exact⟨h,o,hr⟩
def jbL {tr:List Rec} {r:Rec} {o:zX} (hr:RecOK P sp N L tab st0 tr r o) (h:r.kd=2):(∃mk,ja9 tab tr.length (r.tg.isSome) mk 0 L=true)∧jaA o.op=false∧jaH o.op=false∧jhB o.op=false:=by
 cases hr.kind with
 |skip g e=>rw[e]at h;cases h
 |pure g ob hs ho hk e=>rw[e]at h;cases h
 |built g hb0 ob hs ho hk e=>rw[e]at h;cases h
 |load g hp hl x xo hx hf hb hst ob hs ho hk e=>rw[e]at h;cases h
 |mono g hp hl hm res hs ho hk hnk e=>rw[e]at h;cases h
 |mload g hp hl hmk hal hm res hs ho hk e=>rw[e]at h;cases h
 |effect g hp hl hmo mk hf res hs ho hk hmk e=>exact⟨⟨mk,by rw[e];exact hf⟩,hp,hl,by cases ho':o.op<;>first|rfl|(rw[ho']at hmo;cases hmo)⟩
def jmO {k:NK} {c:C} {x:NC} {g:Option Nat} {hp:Hp} (h:jiv hp k c=some (x,g)) (hc:c.allB (fun _=>false)=true):g=none:=by
 unfold jiv at h;split at h
 ·split at h<;>cases h;rfl
 ·split at h<;>cases h;rfl
 ·cases hc
 ·cases h
def jk2 {hp:Hp}:∀{sh:List NK} {cs:List C} {r:List NC} {hs:List Nat},jbP hp sh cs=some (r,hs)->(cs.all (C.allB fun _=>false))=true->hs=[]
 |[],[],r,hs,h,_=>by simp only[jbP,zi,qg]at h;exact h.2.symm
 |[],c::cs,r,hs,h,_=>by simp[jbP]at h
 |k::sh,[],r,hs,h,_=>by simp[jbP]at h
 |k::sh,c::cs,r,hs,h,hc=>by
  simp only[jbP]at h;simp only[j5,zk]at hc;split at h
  ·rename_i x g l gs hx hl;simp only[zi,qg]at h;obtain⟨_,rfl⟩:=h;rw[jmO hx hc.1,jk2 hl hc.2]
  ·cases h
def W.cells_allB {p:Nat->Bool} {u:W} (h:u.allB p=true):(u.cells.all (C.allB p))=true:=by
 cases u with
 |c x=>simpa [W.cells,W.allB]using h
 |a l=>exact h
 |b k e r=>simp[W.cells,C.allB]
def jyb {t x y:_} {rd:zH->Option V} {hp:Hp} {nx h i e j:Nat} {res:Res} (hs:jdT P (.store t x y) rd hp nx=some res) (hx:rd x=some (.w (.c (.p h i e j)))) (hz:jcr hp (.store t x y) rd=true):∃o',res.hp=(h,o')::jah hp:=by
 unfold jdT at hs;dsimp only at hs;rw[hx]at hs;split at hs
 ·rename_i h2 i2 e2 j2 u h3 hy;cases h3;split at hs
  ·rename_i ty X sz hf hsz
   have hu:(u.cells.all (C.allB fun _=>false))=true:=by
    unfold jcr at hz;simp only[hx,hy,hf]at hz;exact W.cells_allB hz
   split at hs
   ·split at hs
    ·split at hs
     ·rename_i hcs;cases hs;rw[jk2 hcs hu];exact⟨_,rfl⟩
     ·cases hs
    ·split at hs
     ·rename_i c0 k huc hk;split at hs
      ·rename_i hc;cases hs;rw[huc]at hu;simp only[j5,kF,ky]at hu;rw[jmO hc hu];exact⟨_,rfl⟩
      ·cases hs
     ·cases hs
   ·cases hs
  ·cases hs
 ·cases hs
def jk3 {k:NK} {t:Nat} {c:C} {x:NC} {g:Option Nat} {hp:Hp} (h:jch hp k t c=some (x,g)) (hc:c.allB (fun _=>false)=true):g=none:=by
 unfold jch at h;split at h
 ·split at h<;>cases h;rfl
 ·split at h<;>cases h;rfl
 ·cases hc
 ·cases h
def jkd {hp:Hp}:∀{sh:List NK} {ts:List Nat} {cs:List C} {r:List NC} {hs:List Nat},jaP hp sh ts cs=some (r,hs)->(cs.all (C.allB fun _=>false))=true->hs=[]
 |[],_,[],r,hs,h,_=>by simp only[jaP,zi,qg]at h;exact h.2.symm
 |[],_,c::cs,r,hs,h,_=>by simp[jaP]at h
 |k::sh,_,[],r,hs,h,_=>by simp[jaP]at h
 |k::sh,ts,c::cs,r,hs,h,hc=>by
  simp only[jaP]at h;simp only[j5,zk]at hc;split at h
  ·rename_i x g l gs hx hl;simp only[zi,qg]at h;obtain⟨_,rfl⟩:=h;rw[jk3 hx hc.1,jkd hl hc.2]
  ·cases h
def jyc {t x y:_} {rd:zH->Option V} {hp:Hp} {nx h i e j:Nat} {res:Res} (hs:jdV P (.store t x y) rd hp nx=some res) (hx:rd x=some (.w (.c (.p h i e j)))) (hz:jcr hp (.store t x y) rd=true):∃o',res.hp=(h,o')::jah hp:=by
 unfold jdV at hs;dsimp only at hs;rw[hx]at hs;split at hs
 ·rename_i h' i' e' j' u h3 hy;cases h3;split at hs
  ·rename_i ty ts X m sz hf hss;unfold jcr at hz;dsimp only at hz;rw[hx,hy]at hz;dsimp only at hz;rw[hf]at hz;cases hz
  ·rename_i ty cs sz hf hss;split at hs
   ·rename_i hsub _ _ _ _ _;unfold jcr at hz;dsimp only at hz;rw[hx,hy]at hz;dsimp only at hz;rw[hf]at hz;simp[hsub]at hz
   ·cases hs
  ·cases hs
 ·cases hs
def jyd {t x y:_} {rd:zH->Option V} {hp:Hp} {nx h i e j:Nat} {res:Res} (hs:jdU P (.store t x y) rd hp nx=some res) (hx:rd x=some (.w (.c (.p h i e j)))) (hz:jcr hp (.store t x y) rd=true):∃o',res.hp=(h,o')::jah hp:=by
 unfold jdU at hs;dsimp only at hs;rw[hx]at hs;split at hs
 ·rename_i h2 i2 e2 j2 u h3 hy;cases h3;split at hs
  ·rename_i ty ts X ho sz hf hsz
   have hu:(u.cells.all (C.allB fun _=>false))=true:=by
    unfold jcr at hz;simp only[hx,hy,hf]at hz;exact W.cells_allB hz
   split at hs
   ·have one:∀(c0:C) (k:NK) (x0:NC) (g0:Option Nat),u.cells=[c0]->jch hp k (ts.getD j 0) c0=some (x0,g0)->g0=none:=fun c0 k x0 g0 huc hc=>by
     rw[huc]at hu;simp only[j5,kF,ky]at hu;exact jk3 hc hu
    split at hs
    ·split at hs
     ·rename_i hcs;split at hs
      ·cases hs;rw[jkd hcs hu];exact⟨_,rfl⟩
      ·cases hs
     ·cases hs
    ·split at hs
     ·rename_i c0 k huc hk;split at hs
      ·rename_i hc;have:=one _ _ _ _ huc hc;subst this;split at hs
       ·cases hs;exact⟨_,rfl⟩
       ·split at hs
        ·cases hs;exact⟨_,rfl⟩
        ·cases hs
      ·cases hs
     ·cases hs
   ·cases hs
  ·rename_i hf _;unfold jcr at hz;simp only[hx,hy,hf]at hz;cases hz
  ·cases hs
 ·cases hs
def juw {t x y:_} {rd:zH->Option V} {hp:Hp} {nx h:Nat} {res:Res} (hs:step P sp (.store t x y) rd hp nx=some res) (hz:jcr hp (.store t x y) rd=true) (ht:storeAt (.store t x y) rd=some h):∃o',res.hp=(h,o')::jah hp:=by
 unfold storeAt at ht;dsimp only at ht;split at ht
 ·rename_i h' i e j hx;cases ht;unfold step at hs;have hv:ja4 P (.store t x y) rd hp=none:=by simp[ja4,ja3,jfs]
  have hR:jdf P (.store t x y) rd hp nx=none:=by simp[jdf]
  simp only[hv,hR]at hs;split at hs
  ·rename_i r0 hX;cases hs;unfold jdS at hX;dsimp only at hX;rw[hx]at hX;split at hX
   ·rename_i h3 _;cases h3;split at hX
    ·split at hX
     ·cases hX;exact⟨_,rfl⟩
     ·cases hX
    ·split at hX
     ·cases hX;exact⟨_,rfl⟩
     ·cases hX
    ·cases hX
   ·rename_i h3 _;cases h3;split at hX
    ·split at hX
     ·cases hX;exact⟨_,rfl⟩
     ·cases hX
    ·split at hX
     ·cases hX;exact⟨_,rfl⟩
     ·cases hX
    ·cases hX
   ·rename_i h3 _;cases h3;split at hX
    ·split at hX
     ·split at hX
      ·cases hX;exact⟨_,rfl⟩
      ·cases hX
     ·cases hX
    ·cases hX
   ·cases hX
  split at hs
  ·rename_i r0 hX;cases hs;unfold jev at hX;dsimp only at hX;rw[hx]at hX;split at hX
   ·rename_i h3 _;cases h3;split at hX
    ·split at hX
     ·cases hX;exact⟨_,rfl⟩
     ·cases hX
    ·cases hX
   ·cases hX
  split at hs
  ·rename_i r0 hX;cases hs;exact jyd hX hx hz
  split at hs
  ·rename_i r0 hX;cases hs;exact jyc hX hx hz
  split at hs
  ·rename_i r0 hX;cases hs;exact jyb hX hx hz
  unfold jhz at hs;dsimp only at hs;rw[hx]at hs;split at hs
  ·rename_i h2 i2 e2 j2 u h3 hy;cases h3;split at hs
   ·split at hs
    ·split at hs
     ·cases hs;exact⟨_,rfl⟩
     ·split at hs
      ·cases hs;exact⟨_,rfl⟩
      ·cases hs
    ·split at hs
     ·split at hs
      ·split at hs
       ·cases hs;exact⟨_,rfl⟩
       ·cases hs
      ·cases hs
     ·cases hs
    ·cases hs
   ·cases hs
  ·cases hs
 ·cases ht
def jbM {hp:Hp} {x:Nat} {ob:O} (hpl:jez (some ob)=true):find (jah hp) x=some ob<->find hp x=some ob:=by
 rw[jaz];cases hf:find hp x with
 |none=>simp
 |some o =>
  simp only[zQ,zi];cases o<;>cases ob<;>simp_all [jez]
def jux {op:Op} {rd:zH->Option V} {hp:Hp} {nx h:Nat} {res:Res} (hs:step P sp op rd hp nx=some res) (hz:jcr hp op rd=true) (ht:storeAt op rd=some h) {x:Nat} {ob:O} (hx:x≠h) (hn:x<nx) (hp1:jez (some ob)=true) (hf:find hp x=some ob):find res.hp x=some ob:=by
 cases op with
 |store t a b =>
  obtain⟨o',ho'⟩:=juw hs hz ht;rw[ho'];simp only[find];rw[if_neg (fun e=>hx e.symm)];exact(jbM hp1).2 hf
 |call c =>
  have hna:c.callee=.builtin .append∧∃s y,c.args.toList=[s,y]∧∀k,rd s=some (.w (.c (.o k)))->k=h:=by
   unfold storeAt at ht;dsimp only at ht;split at ht
   ·rename_i s y hc ha;refine⟨hc,s,y,ha,fun k hk=>?_⟩;rw[hk]at ht;cases ht;rfl
   ·cases ht
  obtain⟨hcal,s,y,hargs,hk⟩:=hna;unfold step at hs;have h1:ja4 P (.call c) rd hp=none:=by simp[ja4,ja3,jfs,hcal]
  have h2:jdS P (.call c) rd hp nx=none:=by simp[jdS]
  have hR:jdf P (.call c) rd hp nx=none:=by simp[jdf]
  simp only[h1,hR,h2]at hs;split at hs
  ·rename_i r0 hX;cases hs;unfold jev at hX;dsimp only at hX;rw[hcal,hargs]at hX;split at hX
   ·rename_i s' y' t t' _ e _;simp only[jw,and_true]at e;obtain⟨rfl,rfl⟩:=e;split at hX
    ·split at hX
     ·split at hX
      ·rename_i hs' ty e1 n1 cs1 n2 cs2 hss hsx;split at hX
       ·cases hX;cases hs' with
        |none =>
         simp only[find];rw[if_neg (by omega)];exact(jbM hp1).2 hf
        |some k =>
         have hkh:k=h:=by
          cases hrs:rd s with
          |none=>simp[hrs]at hss
          |some us =>
           simp only[hrs,zw]at hss;unfold lOf at hss;split at hss
           ·split at hss
            ·cases hss;exact hk _ hrs
            ·cases hss
           ·cases hss
           ·cases hss
         subst hkh;simp only[find];rw[if_neg (by omega),if_neg (fun e=>hx e.symm)];exact(jbM hp1).2 hf
       ·cases hX
      ·cases hX
     ·cases hX
    ·cases hX
   ·cases hX
  split at hs
  ·rename_i r0 hX;cases hs;unfold jcr at hz;simp only[hcal,hargs,zk]at hz;unfold jdU at hX;dsimp only at hX;rw[hcal,hargs]at hX;split at hX
   ·rename_i s' y' t t' _ e _;simp only[jw,and_true]at e;obtain⟨rfl,rfl⟩:=e;split at hX
    ·rename_i elem _ _
     have outer:jfM P t elem (rd s) (rd y) hp nx=some res->find res.hp x=some ob:=by
      intro hX;unfold jfM at hX;split at hX
      ·split at hX
       ·rename_i hs0 ty t1 X1 hx0 ty' t2 X2 g1 g2;split at hX
        ·cases hX
         have e1:hs0=none:=by
          obtain⟨us,hus,hus'⟩:=zD.1 g1;unfold mOf at hus';split at hus'
          ·split at hus'
           ·rename_i hf' ;unfold jgV at hz;simp only[hus,hf']at hz;cases hz.1
           ·cases hus'
          ·cases hus';rfl
          ·cases hus'
         have e2:hx0=none:=by
          obtain⟨us,hus,hus'⟩:=zD.1 g2;unfold mOf at hus';split at hus'
          ·split at hus'
           ·rename_i hf' ;have h9:=hz.2;unfold jgV at h9;simp only[hus,hf']at h9;cases h9
           ·cases hus'
          ·cases hus';rfl
          ·cases hus'
         subst e1;subst e2;simp only[jcG,find];rw[if_neg (by omega)];exact(jbM hp1).2 hf
        ·cases hX
       ·cases hX
      ·cases hX
     split at hX
     ·rename_i hs0 hob0;split at hX
      ·rename_i r0 i0 e0 j0 t0 c1 hf';obtain⟨us,hus,hus'⟩:=zD.1 hob0
       have hus2:rd s=some (.w (.c (.o hs0))):=by
        unfold V.obj? at hus';split at hus'
        ·cases hus';exact hus
        ·cases hus'
       have h9:=hz.1;unfold jgV at h9;simp only[hus2,hf']at h9;cases h9
      ·exact outer hX
     ·exact outer hX
    ·cases hX
   ·cases hX
  split at hs
  ·rename_i r0 hX;simp[jdV]at hX
  split at hs
  ·rename_i r0 hX;cases hs;unfold jdT at hX;dsimp only at hX;rw[hcal,hargs]at hX;split at hX
   ·rename_i s' y' t t' _ e _;simp only[jw,and_true]at e;obtain⟨rfl,rfl⟩:=e;split at hX
    ·split at hX
     ·split at hX
      ·rename_i hs' ty X1 hx' ty' X2 hss hsx;split at hX
       ·cases hX;cases hs' with
        |none =>
         simp only[find];rw[if_neg (by omega)];exact(jbM hp1).2 hf
        |some k =>
         have hkh:k=h:=by
          cases hrs:rd s with
          |none=>simp[hrs]at hss
          |some us =>
           simp only[hrs,zw]at hss;unfold xOf at hss;split at hss
           ·split at hss
            ·cases hss;exact hk _ hrs
            ·cases hss
           ·cases hss
           ·cases hss
         subst hkh;simp only[find];rw[if_neg (by omega),if_neg (fun e=>hx e.symm)];exact(jbM hp1).2 hf
       ·cases hX
      ·cases hX
     ·cases hX
    ·cases hX
   ·cases hX
  unfold jhz at hs;dsimp only at hs;rw[hcal,hargs]at hs;split at hs
  ·rename_i s' y' t t' _ e _;simp only[jw,and_true]at e;obtain⟨rfl,rfl⟩:=e;split at hs
   ·split at hs
    ·unfold jfu at hs;split at hs
     ·split at hs
      ·split at hs
       ·split at hs
        ·split at hs
         ·cases hs;simp only[find];rw[if_neg (by omega)];exact hf
         ·cases hs
        ·cases hs
       ·cases hs
      ·cases hs
     ·cases hs
    ·split at hs
     ·rename_i elem hs' cs hx' cx hu hss hsx;split at hs
      ·split at hs
       ·split at hs
        ·split at hs
         ·cases hs;cases hs' with
          |none =>
           simp only[find];rw[if_neg (by omega)];exact(jbM hp1).2 hf
          |some k =>
           have hkh:k=h:=by
            cases hrs:rd s with
            |none=>simp[hrs]at hss
            |some us =>
             simp only[hrs,zw]at hss;unfold jcg at hss;split at hss
             ·split at hss
              ·cases hss;exact hk _ hrs
              ·cases hss
             ·cases hss
             ·cases hss
           subst hkh;simp only[find];rw[if_neg (by omega),if_neg (fun e=>hx e.symm)];exact(jbM hp1).2 hf
         ·cases hs
        ·cases hs
       ·cases hs
      ·cases hs
     ·cases hs
   ·cases hs
  ·rename_i hc2;cases hc2
  ·cases hs
 |_=>simp[storeAt]at ht
def jnr {tr:List Rec} {r:Rec} {o:zX} {t:Nat} (hr:RecOK P sp N L tab st0 tr r o) (h:r.kd=2) (ht:r.tg=some t) :
  (∀x ob,x≠t->x<jab st0 tr->jez (some ob)=true->find (jan st0 tr) x=some ob->find r.hp x=some ob)∧jeq L tab st0 (tab.getD tr.length []) t tr=true:=by
 cases hr.kind with
 |skip g e=>rw[e]at h;cases h
 |pure g ob hs ho hk e=>rw[e]at h;cases h
 |built g hb0 ob hs ho hk e=>rw[e]at h;cases h
 |load g hp hl x xo hx hf hb hst ob hs ho hk e=>rw[e]at h;cases h
 |mono g hp hl hm res hs ho hk hnk e=>rw[e]at h;cases h
 |mload g hp hl hmk hal hm res hs ho hk e=>rw[e]at h;cases h
 |effect g hp hl hmo mk hf res hs ho hk hmk e =>
  have ht2:jbK L tab st0 o tr=some t:=by rw[e]at ht;exact ht
  unfold jbK at ht2;split at ht2
  ·rename_i h' hst;split at ht2
   ·rename_i hlf;cases ht2;simp only[zk]at hlf;refine⟨fun x ob hx hn hpl hfx=>?_,hlf.1⟩;rw[e];exact jux hs hlf.2 hst hx hn hpl hfx
   ·cases ht2
  ·cases ht2
def jb3 {tr:List Rec} {r:Rec} {o:zX} (hr:RecOK P sp N L tab st0 tr r o) (h:r.kd≠2):r.hp=r.nw++jan st0 tr∧(∀k ob,find r.nw k=some ob->jab st0 tr<=k∧k<r.nx)∧((r.nw=[]∧r.nx=jab st0 tr)∨(jaA o.op||jaH o.op)=false∨(jfw tab tr.length 0 L=true∧jdg (tab.getD tr.length []) tr=true)):=by
 cases hr.kind with
 |skip g e=>rw[e];exact⟨rfl,(fun k ob h=>by cases h),.inl ⟨rfl,rfl⟩⟩
 |pure g ob hs ho hk e=>rw[e];exact⟨rfl,(fun k ob h=>by cases h),.inl ⟨rfl,rfl⟩⟩
 |built g hb0 ob hs ho hk e=>rw[e];exact⟨rfl,(fun k ob h=>by cases h),.inl ⟨rfl,rfl⟩⟩
 |load g hp hl x xo hx hf hb hst ob hs ho hk e=>rw[e];exact⟨rfl,(fun k ob h=>by cases h),.inl ⟨rfl,rfl⟩⟩
 |mono g hp hl hm res hs ho hk hnk e =>
  rw[e];refine⟨rfl,fun k ob hf=>?_,.inr (.inl (by rw[hp,hl];rfl))⟩;have h1:=(jgq hk hf).1;have hf:find (jaZ (jab st0 tr) res.hp) k=some ob:=hf;rw[jhD]at hf;split at hf
  ·rename_i hle;exact⟨by simpa [xd]using hle,h1⟩
  ·cases hf
 |mload g hp hl hmk hal hm res hs ho hk e =>
  rw[e];refine⟨rfl,fun k ob hf=>?_,.inr (.inr ⟨hmk,hal⟩)⟩;have h1:=(jgq hk hf).1;have hf:find (jaZ (jab st0 tr) res.hp) k=some ob:=hf;rw[jhD]at hf;split at hf
  ·rename_i hle;exact⟨by simpa [xd]using hle,h1⟩
  ·cases hf
 |effect g hp hl hmo mk hf res hs ho hk hmk e=>rw[e]at h;exact absurd rfl h
def jjv {i:Nat}:∀{l:List zX} {k:Nat},jfw tab i k l=true->∀m o,l[m]?=some o->k+m<=i∨(jaA o.op||jaH o.op)=true∨i∈tab.getD (k+m) []∨jhB o.op=true
 |[],_,_,_,_,h=>by simp at h
 |o' :: r,k,hs,m,o,h=>by
  simp only[jfw,zk,xn]at hs;cases m with
  |zero =>
   simp at h;subst h;rcases hs.1 with (((h1|h1)|h1)|h1)|h1
   ·exact .inl (by simpa [xd]using h1)
   ·exact .inr (.inl (by rw[h1];rfl))
   ·exact .inr (.inl (by rw[h1,Bool.or_true]))
   ·exact .inr (.inr (.inl (by simpa using h1)))
   ·exact .inr (.inr (.inr h1))
  |succ m =>
   have:=jjv hs.2 m o (by simpa using h);rw[show k+(m+1)=k+1+m by omega];exact this
def jk4 {x:Nat} {o:O}:∀{hp:Hp},find hp x=some o->(x,o)∈hp
 |[],h=>by cases h
 |(k,o')::r,h=>by
  simp only[find]at h;split at h
  ·rename_i e;subst e;cases h;exact zV ..
  ·exact zR _ (jk4 h)
def jBD {D:Nat->Bool} {i:Nat} (hbase:jk1 st0) (hb:∀j,j∈tab.getD i []->D j=true) {tr:List Rec} (hg:GoodTr P sp N L tab st0 tr) :
  jdg (tab.getD i []) tr=true->tr.length<=i->∀h ob,find (jan st0 tr) h=some ob->jas (fun j=>(tab.getD i []).contains j) st0 tr h=true->find (jao D st0 tr) h=some ob:=by
 induction hg with
 |nil=>exact fun _ _ h ob hf _=>hf
 | @cons tr r hgt o' hr ih =>
  intro hal hl h ob hf hbn;simp only[jdg,zk]at hal;have hl:tr.length+1<=i:=hl;have hf:find r.hp h=some ob:=hf;simp only[jao]
  by_cases hk:r.kd=2
  ·have hD:D tr.length=true:=by
    have h1:=hal.1;rw[hk]at h1;exact hb _ (by simpa using h1)
   rw[if_pos hD,if_pos hk];exact hf
  ·have ho:=jb3 hr hk;rw[ho.1,jat]at hf;rw[if_neg hk];cases hn:find r.nw h with
   |some x =>
    rw[hn]at hf;cases hf;have h1:=(ho.2.1 h ob hn).1
    have hD:D tr.length=true:=by
     simp only[jas]at hbn;rw[show qn (jab st0 tr) h=true from xH h1]at hbn;exact hb _ (by simpa using hbn)
    rw[if_pos hD,jat,hn];rfl
   |none =>
    rw[hn]at hf;have hf:find (jan st0 tr) h=some ob:=hf;have h1:=(keys hgt hbase h ob hf).1
    have hbn':jas (fun j=>(tab.getD i []).contains j) st0 tr h=true:=by
     simp only[jas]at hbn
     have e:qn (jab st0 tr) h=false:=by
      rw[qL];intro hc;rw[xd]at hc;omega
     rw[e]at hbn;exact hbn
    have:=ih hal.2 (by omega) h ob hf hbn';split
    ·rw[jat,hn];exact this
    ·exact this
def jye {D:Nat->Bool} (hbase:jk1 st0) {tr:List Rec} (hg:GoodTr P sp N L tab st0 tr):∀h ob,find (jao D st0 tr) h=some ob->h<jab st0 tr:=by
 induction hg with
 |nil=>exact fun h ob hf=>(hbase h ob hf).1
 | @cons tr r hgt o hr ih =>
  intro h ob hf;have hle:=hr.nx_le;simp only[jao]at hf;split at hf
  ·split at hf
   ·exact(keys (.cons hgt o hr) hbase h ob hf).1
   ·rename_i hk;rw[jat]at hf;cases hn:find r.nw h with
    |some x=>exact((jb3 hr hk).2.1 h x hn).2
    |none=>rw[hn]at hf;exact zC (ih h ob hf) hle
  ·exact zC (ih h ob hf) hle
def jyf {D:Nat->Bool} {i k:Nat} {o:zX} {lf mk:Bool} (hns:jaA o.op=false) (hnl:jaH o.op=false) (ho:L[i]?=some o) (hlow:∀i k,k∈tab.getD i []->k<i) (ht:jcS L tab) (hc:jcJ L D) (hi:D i=false) (hik:i<k)
  (hf:ja9 tab k lf mk 0 L=true):D k=false:=by
 have hor:i∈tab.getD k []:=by
  rcases jc8 hf i o ho with h1|h1|h1|h1|h1|h1
  ·omega
  ·rw[hns]at h1;cases h1
  ·rw[zP]at h1;exact h1
  ·rw[zP]at h1;have:=hlow _ _ h1;omega
  ·rw[hnl]at h1;cases h1.2
  ·have:=h1.2.1;omega
 rw[qL];intro hD;have:=jcT ht hc k i (fun o' ho' e he hb=>hc k o' ho' hD e he hb) hor;rw[this]at hi;cases hi
def jwn {D:Nat->Bool} {i k:Nat} {ok:zX} {lf mk:Bool} (hok:L[k]?=some ok) (hnk:jaA ok.op=false) (hlk:jaH ok.op=false) (hlow:∀i k,k∈tab.getD i []->k<i) (ht:jcS L tab) (hc:jcJ L D) (hi:D i=false) (hik:i<k)
  (hf:ja9 tab i lf mk 0 L=true) (hD:D k=true):mk=true∧jjp ok.op=true∧i∉tab.getD k []:=by
 have hni:i∉tab.getD k []:=fun hor=>by
  have:=jcT ht hc k i (fun o' ho' e he hb=>hc k o' ho' hD e he hb) hor;rw[this]at hi;cases hi
 rcases jc8 hf k ok hok with h1|h1|h1|h1|h1|h1
 ·omega
 ·rw[hnk]at h1;cases h1
 ·rw[zP]at h1;have:=hlow _ _ h1;omega
 ·rw[zP]at h1;exact absurd h1 hni
 ·rw[hlk]at h1;cases h1.2
 ·exact⟨h1.1,h1.2.2,hni⟩
def jvJ {D:Nat->Bool} {i:Nat} (hlow:∀i k,k∈tab.getD i []->k<i) (hbase:jk1 st0) (hb:∀j,j∈tab.getD i []->D j=true) {h:Nat} {ob:O} {tr:List Rec} (hg:GoodTr P sp N L tab st0 tr) :
  find (jan st0 tr) h=some ob->jas (fun j=>(tab.getD i []).contains j) st0 tr h=true->jbE st0 (tab.getD i []) h tr=true->find (jao D st0 tr) h=some ob:=by
 induction hg with
 |nil=>exact fun hf _ _=>hf
 | @cons tr r hgt o' hr ih =>
  intro hf hbn hst;simp only[jbE,zk]at hst;have hf:find r.hp h=some ob:=hf;simp only[jao]
  by_cases hk:r.kd=2
  ·rw[if_pos hk]
   by_cases hD:D tr.length=true
   ·rw[if_pos hD];exact hf
   ·rw[if_neg hD];have h1:=hst.1
    have hc:(tab.getD i []).contains tr.length=false:=by
     cases hcc:(tab.getD i []).contains tr.length with
     |false=>rfl
     |true=>exact absurd (hb _ (by simpa using hcc)) hD
    have hkb:zt r.kd 2=true:=by rw[hk];rfl
    rw[hc,hkb]at h1;simp only[kz,kA]at h1;split at h1
    ·cases h1
    ·rename_i t htg;simp only[zk,xK]at h1
     have hne:h≠t:=fun e=>by
      have h2:=h1.1;subst e;have:zt h h=true:=by simp
      rw[this]at h2;cases h2
     have hs:=jnr hr hk htg
     have hpl:∃o1,find (jan st0 tr) h=some o1∧jez (some o1)=true:=by
      cases hq:find (jan st0 tr) h with
      |none=>rw[hq]at h1;cases h1.2
      |some o1=>rw[hq]at h1;exact⟨o1,rfl,h1.2⟩
     obtain⟨o1,hq,hp1⟩:=hpl;have hlt:=(keys hgt hbase h o1 hq).1;have:=hs.1 h o1 hne hlt hp1 hq;rw[this]at hf;cases hf;refine ih hq ?_ hst.2
     have e:qn (jab st0 tr) h=false:=by
      rw[qL];intro hcc;rw[xd]at hcc;omega
     simp only[jas]at hbn;rw[e]at hbn;exact hbn
  ·have ho:=jb3 hr hk;rw[ho.1,jat]at hf;rw[if_neg hk];cases hn:find r.nw h with
   |some x =>
    rw[hn]at hf;cases hf;have h1:=(ho.2.1 h ob hn).1
    have hD:D tr.length=true:=by
     simp only[jas]at hbn;rw[show qn (jab st0 tr) h=true from xH h1]at hbn;exact hb _ (by simpa using hbn)
    rw[if_pos hD,jat,hn];rfl
   |none =>
    rw[hn]at hf;have hf:find (jan st0 tr) h=some ob:=hf;have h1:=(keys hgt hbase h ob hf).1
    have hbn':jas (fun j=>(tab.getD i []).contains j) st0 tr h=true:=by
     simp only[jas]at hbn
     have e:qn (jab st0 tr) h=false:=by
      rw[qL];intro hc;rw[xd]at hc;omega
     rw[e]at hbn;exact hbn
    have:=ih hf hbn' hst.2;split
    ·rw[jat,hn];exact this
    ·exact this
def joC {bef:List Nat} {t:Nat} {r0:Rec} {tr:List Rec} {o:zX} (ho:L[tr.length]?=some o) (hl:jaH o.op=true):∀{l:List Rec},jeq L tab st0 bef t (l++r0::tr)=true ->
  bef.contains tr.length=true∨∃x,loadAt o.op (jbb L (jaq L o) (tab.getD tr.length []) st0 tr)=some x∧x≠t∧jez (find (jan st0 tr) x)=true
 |[],h=>by
  simp only[qM,jeq,ho,hl,zk,xn]at h;rcases h.1 with h1|h1
  ·exact .inl h1
  ·split at h1
   ·cases h1
   ·rename_i x hx;simp only[zk,xK]at h1;refine .inr ⟨x,hx,fun e=>?_,h1.2⟩;have h2:=h1.1;rw[e]at h2;have:zt t t=true:=by simp
    rw[this]at h2;cases h2
 |r::l,h=>by
  simp only[qm,jeq,zk]at h;exact joC ho hl h.2
def jqJ {D:Nat->Bool} {tr:List Rec} {r0:Rec} {o:zX} {x:Nat} {xo:O} (ho:L[tr.length]?=some o) (hlo:jaH o.op=true) (hns:jaA o.op=false) (hx:loadAt o.op (jbb L (jaq L o) (tab.getD tr.length []) st0 tr)=some x) (hf:find (jan st0 tr) x=some xo) (hr0:r0.hp=jan st0 tr)
  (hlow:∀i k,k∈tab.getD i []->k<i) (ht:jcS L tab) (hc:jcJ L D) (hi:D tr.length=false) (hxl:x<jab st0 tr) (hin:find (jao D st0 tr) x=some xo) :
  ∀{later:List Rec},GoodTr P sp N L tab st0 (later++r0::tr)->find (jao D st0 (later++r0::tr)) x=some xo ∧
   ((∀k,tr.length<k->k<(later++r0::tr).length->∀ok,L[k]?=some ok->jaA ok.op=false->jaH ok.op=false->tr.length∈tab.getD k []->False)->True) ∧
   (find (jan st0 (later++r0::tr)) x=some xo∨∃l1 rk trk,later++r0::tr=l1++rk::trk∧tr.length<trk.length∧rk.kd=2∧tr.length∈tab.getD trk.length [])
 |[],_=>by
  refine⟨?_,fun _=>trivial,.inl ?_⟩
  ·simp only[qM,jao,hi,qN,if_false];exact hin
  ·show find r0.hp x=_
   rw[hr0];exact hf
 |r::l,hg=>by
  obtain⟨hgt,o',hr⟩:=GoodTr.inv (tr:=l++r0::tr) hg;obtain⟨ih1,_,ih3⟩:=jqJ ho hlo hns hx hf hr0 hlow ht hc hi hxl hin hgt;have hlen:tr.length<(l++r0::tr).length:=by simp;omega
  by_cases hk:r.kd=2
  ·have hfo:=jbL hr hk
   by_cases hw:tr.length∈tab.getD (l++r0::tr).length []
   ·have hDk:D (l++r0::tr).length=false:=by
     rw[qL];intro hD;have:=jcT ht hc (l++r0::tr).length tr.length (fun o' ho' e he hb=>hc _ o' ho' hD e he hb) hw;rw[this]at hi;cases hi
    refine⟨?_,fun _=>trivial,.inr ⟨[],r,l++r0::tr,rfl,hlen,hk,hw⟩⟩;simp only[qm,jao,hDk,qN,if_false];exact ih1
   ·have htg:r.tg.isSome=true:=by
     obtain⟨mk,hfm⟩:=hfo.1;rcases jc8 hfm tr.length o ho with h1|h1|h1|h1|h1|h1
     ·omega
     ·rw[hns]at h1;cases h1
     ·rw[zP]at h1;exact absurd h1 hw
     ·rw[zP]at h1;have:=hlow _ _ h1;omega
     ·exact h1.1
     ·have:=h1.2.1;omega
    cases htt:r.tg with
    |none=>rw[htt]at htg;cases htg
    |some t =>
     have hst:=jnr hr hk htt;have hsp:=joC ho hlo hst.2;rcases hsp with hsp|⟨x',hx',hne,hpl⟩
     ·exact absurd (by simpa using hsp) hw
     ·rw[hx]at hx';cases hx';have hplx:jez (some xo)=true:=by rw[hf]at hpl;exact hpl
      rcases ih3 with h3|⟨l1,rk,trk,e1,e2,e3,e4⟩
      ·have hr':find r.hp x=some xo:=by
        refine hst.1 x xo hne ?_ hplx h3;have h2:=jdr (later:=l++[r0]) (tr:=tr) (by simpa using hgt);have h4:jab st0 tr<=jab st0 (l++r0::tr):=by simpa using h2
        omega
       refine⟨?_,fun _=>trivial,.inl hr'⟩;simp only[qm,jao];split
       ·first|exact hr' | (rw[if_pos hk];exact hr')
       ·exact ih1
      ·-- an earlier store waits for the load;this one waits for that one
       have hgk:GoodTr P sp N L tab st0 (rk::trk):=GoodTr.tail (later:=l1) (by rw[<-e1];exact hgt);obtain⟨_,ok,hrk⟩:=hgk.inv;have hkk:=jbL hrk e3;have hlt:trk.length<(l++r0::tr).length:=by rw[e1];simp;omega
       have hDk:D (l++r0::tr).length=false:=by
        rw[qL];intro hD
        have hdk:D trk.length=true:=by
         obtain⟨mk,hfm⟩:=hfo.1;rcases jc8 hfm trk.length ok hrk.op with h1|h1|h1|h1|h1|h1
         ·omega
         ·rw[hkk.2.1]at h1;cases h1
         ·rw[zP]at h1;exact jcT ht hc _ trk.length (fun o' ho' e he hb=>hc _ o' ho' hD e he hb) h1
         ·rw[zP]at h1;have:=hlow _ _ h1;omega
         ·rw[hkk.2.2.1]at h1;cases h1.2
         ·have:=h1.2.1;omega
        have:=jcT ht hc trk.length tr.length (fun o' ho' e he hb=>hc _ o' ho' hdk e he hb) e4;rw[this]at hi;cases hi
       refine⟨?_,fun _=>trivial,.inr ⟨r::l1,rk,trk,by rw[qm,e1];rfl,e2,e3,e4⟩⟩;simp only[qm,jao,hDk,qN,if_false];exact ih1
  ·have hoth:=jb3 hr hk
   have hnone:find r.nw x=none:=by
    cases hn:find r.nw x with
    |none=>rfl
    |some y =>
     have h1:=(hoth.2.1 x y hn).1;have h2:=jdr (later:=l++[r0]) (tr:=tr) (by simpa using hgt);have h3:jab st0 tr<=jab st0 (l++r0::tr):=by simpa using h2
     omega
   refine⟨?_,fun _=>trivial,?_⟩
   ·simp only[qm,jao];split
    ·first|(rw[jat,hnone];exact ih1)|(rw[if_neg hk,jat,hnone];exact ih1)
    ·exact ih1
   ·rcases ih3 with h3|⟨l1,rk,trk,e1,e2,e3,e4⟩
    ·left
     show find r.hp x=_
     rw[hoth.1,jat,hnone];exact h3
    ·right;exact⟨r::l1,rk,trk,by rw[qm,e1];rfl,e2,e3,e4⟩
def jeA [Globs] (P:zy) (sp:jaa) (N:Nat) (L:List zX) (tab:List (List Nat)) (st0:St) (D:Nat->Bool) (later tr:List Rec):Prop :=
 ∀l1 rk l2 ok,later=l1++rk::l2->RecOK P sp N L tab st0 (l2++tr) rk ok->rk.kd=2->D (l2++tr).length=false
def jeA.tail {D:Nat->Bool} {r:Rec} {l tr:List Rec} (h:jeA P sp N L tab st0 D (r::l) tr):jeA P sp N L tab st0 D l tr:=fun l1 rk l2 ok e=>h (r::l1) rk l2 ok (by rw[e];rfl)
def jqK {D:Nat->Bool} {tr:List Rec} {h:Nat} (hh:h<jab st0 tr) :
  ∀{later:List Rec},jeA P sp N L tab st0 D later tr->GoodTr P sp N L tab st0 (later++tr)->find (jao D st0 (later++tr)) h=find (jao D st0 tr) h
 |[],_,_=>rfl
 |r::l,hno,hg=>by
   obtain⟨hgt,o',hr⟩:=GoodTr.inv (tr:=l++tr) hg;have ih:=jqK hh hno.tail hgt;simp only[qm,jao];split
   ·rename_i hD;split
    ·rename_i hk;rw[hno [] r l o' rfl hr hk]at hD;cases hD
    ·rename_i hk;rw[jat]
     have:find r.nw h=none:=by
      cases hn:find r.nw h with
      |none=>rfl
      |some x =>
       have h1:=((jb3 hr hk).2.1 h x hn).1;have h2:=jdr hgt;omega
     rw[this];exact ih
   ·exact ih
def jmP {D D':Nat->Bool} {tr:List Rec} {r:Rec} (hi:D tr.length=false) (hbase:jk1 st0)
  (hD1:D' tr.length=true) (hD2:∀j,j≠tr.length->D' j=D j) (hk:r.kd≠2) {h:Nat} :
  ∀{later:List Rec},jeA P sp N L tab st0 D later (r::tr)->GoodTr P sp N L tab st0 (later++r::tr)->find (jao D' st0 (later++r::tr)) h=(find (jao D st0 (later++r::tr)) h).or (find r.nw h)
 |[],_,hg=>by
  cases hg with
  |cons hgt o' hr =>
   simp only[qM,jao,hD1,hi,if_true,if_neg hk,jat,qN,if_false];rw[jhX (D:=D) (D':=D') (fun j hj=>hD2 j (by omega))];cases hn:find r.nw h with
   |none=>simp
   |some x =>
    have h1:=((jb3 hr hk).2.1 h x hn).1;cases hd:find (jao D st0 tr) h with
    |none=>rfl
    |some y =>
     have:=jye hbase hgt h y hd;omega
 |r' :: l,hno,hg=>by
   obtain⟨hgt,o',hr⟩:=GoodTr.inv (tr:=l++r::tr) hg;have ih:=jmP hi hbase hD1 hD2 hk (h:=h) hno.tail hgt;simp only[qm,jao];rw[hD2 _ (by simp;omega)];split
   ·rename_i hD;split
    ·rename_i hk';rw[hno [] r' l o' rfl hr hk']at hD;cases hD
    ·simp only[jat,ih,Option.or_assoc]
   ·exact ih
def jqL {D D':Nat->Bool} {tr:List Rec} {r:Rec} (hi:D tr.length=false)
  (hD1:D' tr.length=true) (hD2:∀j,j≠tr.length->D' j=D j) (hk:r.kd≠2) (hn:r.nw=[]) :
  ∀{later:List Rec},jao D' st0 (later++r::tr)=jao D st0 (later++r::tr)
 |[]=>by
  simp only[qM,jao,hD1,hi,if_true,if_neg hk,hn,qN,if_false];exact jhX (fun j hj=>hD2 j (by omega))
 |r' :: l=>by
  have ih:=jqL hi hD1 hD2 hk hn (later:=l);simp only[qm,jao];rw[hD2 _ (by simp;omega),ih]
def jfy {D:Nat->Bool} {i:Nat} (hall:∀j oj,j<i->L[j]?=some oj->(jaA oj.op||jaH oj.op)=false->D j=true) (hmk:∀j,j<i->jfw tab j 0 L=true->D j=true) {tr:List Rec} (hg:GoodTr P sp N L tab st0 tr) :
  tr.length<=i->jao D st0 tr=jan st0 tr∧∀h,h<jab st0 tr->jas D st0 tr h=true:=by
 induction hg with
 |nil=>exact fun _=>⟨rfl,fun _ _=>rfl⟩
 | @cons tr r hgt o hr ih =>
  intro hl;have hl:tr.length+1<=i:=hl;have ih:=ih (by omega)
  have key:r.kd≠2->D tr.length=true∨(r.nw=[]∧r.nx=jab st0 tr):=fun hk=>by
   rcases(jb3 hr hk).2.2 with h1|h1|h1
   ·exact .inr h1
   ·exact .inl (hall _ o (by omega) hr.op h1)
   ·exact .inl (hmk _ (by omega) h1.1)
  constructor
  ·simp only[jao]
   show _=r.hp
   by_cases hk:r.kd=2
   ·rw[if_pos (hall _ o (by omega) hr.op (by rw[(jbL hr hk).2.1,(jbL hr hk).2.2.1];rfl)),if_pos hk]
   ·have h1:=jb3 hr hk;rw[h1.1,if_neg hk,ih.1];split
    ·rfl
    ·rename_i hD;rcases key hk with h2|h2
     ·exact absurd h2 hD
     ·rw[h2.1];rfl
  ·intro h hh;have hh:h<r.nx:=hh;simp only[jas];split
   ·rename_i e;rw[xd]at e
    by_cases hk:r.kd=2
    ·exact hall _ o (by omega) hr.op (by rw[(jbL hr hk).2.1,(jbL hr hk).2.2.1];rfl)
    ·rcases key hk with h2|h2
     ·exact h2
     ·omega
   ·rename_i e;apply ih.2;rw[qL]at e;have:¬(jab st0 tr<=h):=fun hc=>e (xH hc);omega
def jjw {D:Nat->Bool} {tr:List Rec}:∀{later:List Rec},(∀l1 rk l2 ok,later=l1++rk::l2->RecOK P sp N L tab st0 (l2++tr) rk ok->D (l2++tr).length=true->rk.kd≠2∧rk.nw=[])->GoodTr P sp N L tab st0 (later++tr)->jao D st0 (later++tr)=jao D st0 tr
 |[],_,_=>rfl
 |r::l,hall,hg=>by
   obtain⟨hgt,o,hr⟩:=GoodTr.inv (tr:=l++tr) hg;have ih:=jjw (fun l1 rk l2 ok e=>hall (r::l1) rk l2 ok (by rw[e];rfl)) hgt;simp only[qm,jao];split
   ·rename_i hD;have h1:=hall [] r l o rfl hr hD;rw[if_neg h1.1,h1.2,ih];rfl
   ·exact ih
def jjx {bef:List Nat} {r:Rec} {tr:List Rec} (hk:r.kd=2):∀{l:List Rec},jdg bef (l++r::tr)=true->tr.length∈bef
 |[],h=>by
  simp only[qM,jdg,hk,zk]at h;simpa using h.1
 |r' :: l,h=>by
  simp only[qm,jdg,zk]at h;exact jjx hk h.2
def jmQ {D:Nat->Bool} {tr:List Rec}:∀{later:List Rec},(∀l1 rk l2 ok,later=l1++rk::l2->RecOK P sp N L tab st0 (l2++tr) rk ok->D (l2++tr).length=true->rk.kd≠2∧rk.nw.all (fun x=>je3 x.2)=true)->GoodTr P sp N L tab st0 (later++tr) ->
  ∀x,(x<jab st0 tr->find (jao D st0 (later++tr)) x=find (jao D st0 tr) x)∧(∀ob,find (jao D st0 (later++tr)) x=some ob->jab st0 tr<=x->(∀ob,find (jao D st0 tr) x=some ob->x<jab st0 tr)->je3 ob=true) ∧
   (∀D',(∀j,tr.length<=j->D' j=D j)->jab st0 tr<=x->(∀ob,find (jao D st0 tr) x=some ob->x<jab st0 tr)->(∀ob,find (jao D' st0 tr) x=some ob->x<jab st0 tr)->find (jao D' st0 (later++tr)) x=find (jao D st0 (later++tr)) x) ∧
   (x<jab st0 tr->∀D',(∀j,tr.length<=j->D' j=D j)->find (jao D' st0 (later++tr)) x=find (jao D' st0 tr) x)
 |[],_,_,x=>⟨fun _=>rfl,fun ob hf hx hk=>absurd (hk ob hf) (by omega),fun D' hD hx h1 h2=>by
   cases hf:find (jao D' st0 tr) x with
   |some ob=>exact absurd (h2 ob hf) (by omega)
   |none=>cases hg:find (jao D st0 tr) x with
    |some ob=>exact absurd (h1 ob hg) (by omega)
    |none=>simp[hf,hg],fun _ _ _=>rfl⟩
 |r::l,hall,hg,x=>by
   obtain⟨hgt,o,hr⟩:=GoodTr.inv (tr:=l++tr) hg;have ih:=jmQ (later:=l) (fun l1 rk l2 ok e=>hall (r::l1) rk l2 ok (by rw[e];rfl)) hgt x;have hnx:jab st0 tr<=jab st0 (l++tr):=jdr hgt;simp only[qm,jao]
   by_cases hD:D (l++tr).length=true
   ·have hk2:r.kd≠2∧r.nw.all (fun x=>je3 x.2)=true:=hall [] r l o rfl hr hD;have hoth:=jb3 hr hk2.1
    have hnone:x<jab st0 tr->find r.nw x=none:=fun hx=>by
     cases hn:find r.nw x with
     |none=>rfl
     |some y=>have:=(hoth.2.1 x y hn).1;omega
    rw[if_pos hD,if_neg hk2.1];refine⟨fun hx=>by rw[jat,hnone hx];exact ih.1 hx,fun ob hf hx hkey=>?_,fun D' hD' hx h1 h2=>?_,fun hx D' hD'=>?_⟩
    ·rw[jat]at hf;cases hn:find r.nw x with
     |some y =>
      rw[hn]at hf;cases hf;exact zq.1 hk2.2 _ (jk4 hn)
     |none=>rw[hn]at hf;exact ih.2.1 ob hf hx hkey
    ·rw[if_pos (by rw[hD' _ (by simp)];exact hD),if_neg hk2.1,jat,jat,ih.2.2.1 D' hD' hx h1 h2]
    ·rw[if_pos (by rw[hD' _ (by simp)];exact hD),if_neg hk2.1,jat,hnone hx];exact ih.2.2.2 hx D' hD'
   ·rw[if_neg hD];refine⟨ih.1,ih.2.1,fun D' hD' hx h1 h2=>?_,fun hx D' hD'=>?_⟩
    ·rw[if_neg (by rw[hD' _ (by simp)];exact hD)];exact ih.2.2.1 D' hD' hx h1 h2
    ·rw[if_neg (by rw[hD' _ (by simp)];exact hD)];exact ih.2.2.2 hx D' hD'
end
end Go.Sx
end

section
open Go.RowKit
namespace Go.Sx
def O.ok_eqB {p:Nat->Bool} {U U':Env} {B:Kd} {h:Nat} {w:zx} (ha:∀x,p x=true->U' x=U x) (hh:U' h=U h):∀{o:O},o.allB p=true->o.ok U B w h->o.ok U' B w h
 | .box ty cs,hl,⟨k,h1,h2,h3⟩=>⟨k,hh.trans h1,h2,by
   rw[h3];congr 3;exact z8 fun a ha'=>(C.val_eqB ha (zq.1 hl a ha')).symm⟩
 | .row ty c,_,hr=>by unfold O.ok at *;rw[hh];exact hr
 | .ext c,_,hr=>by unfold O.ok at *;rw[hh];exact hr
 | .view r c _,hl,hr=>by
  have hl':p r=true:=hl;unfold O.ok at *;rw[hh];simp only;exact hr
 | .lbox ty e n cs,hl,hr=>by
  have e1:cs.map (C.val U')=cs.map (C.val U):=z8 fun a ha'=>C.val_eqB ha (zq.1 hl a ha');unfold O.ok at *;simp only;rw[hh,e1];exact hr
 | .elist e n cs,hl,⟨h1,h2,h3,h4⟩=>by
  unfold O.ok;simp only;rw[hh];exact⟨h1,h2,h3,fun m c hc=>by rw[C.val_eqB ha (zq.1 hl c (qX hc))];exact h4 m c hc⟩
 | .lview r e n cs,hl,⟨h1,h2,h3⟩=>by
  simp only[O.allB,zk]at hl;unfold O.ok;simp only;rw[hh];exact⟨h1,h2,fun m c hc=>by rw[C.val_eqB ha (zq.1 hl.2 c (qX hc))];exact h3 m c hc⟩
 | .dead,_,_=>trivial
 | .nan _,_,hr=>by unfold O.ok at *;rw[hh];exact hr
 | .err,_,hr=>by unfold O.ok at *;rw[hh];exact hr
 | .atom,_,hr=>by unfold O.ok at *;rw[hh];exact hr
 | .ebox cs,hl,⟨k,o,h1,h2,h3⟩=>⟨k,o,hh.trans h1,h2,fun j c hj=>by rw[C.val_eqB ha (zq.1 hl c (qX hj))];exact h3 j c hj⟩
 | .arr _ _ _ _,_,hr=>by unfold O.ok at *;rw[hh];exact hr
 | .xext _,_,hr=>by unfold O.ok at *;rw[hh];exact hr
 | .map _,_,hr=>by unfold O.ok at *;rw[hh];exact hr
 | .rrow _,_,hr=>by unfold O.ok at *;rw[hh];exact hr
 | .fext _,_,hr=>by unfold O.ok at *;rw[hh];exact hr
 | .xrow _ _,_,hr=>by unfold O.ok at *;rw[hh];exact hr
 | .mrow _ _ _ _,_,hr=>by unfold O.ok at *;rw[hh];exact hr
 | .trow _ _ _ _,_,hr=>by unfold O.ok at *;rw[hh];exact hr
 | .sub r i e j ty c,hl,hr=>by
  have hl':p r=true:=hl;unfold O.ok at *;simp only;rw[hh,ha r hl'];exact hr
def jb4 (U U':Env) (lo hi:Nat):Env:=fun h=>match qn lo h&&qh h hi with
 |true=>U' h
 |false=>U h
section
variable [Globs] {P:zy} {sp:jaa} {B0 B B2:Kd} {N n0:Nat} {L:List zX} {tab:List (List Nat)} {st0:St} {U0:Env} {w0:zx} {ds:List x7}
structure At [Globs] (P:zy) (sp:jaa) (N:Nat) (L:List zX) (tab:List (List Nat)) (st0:St) (D D':Nat->Bool) (later:List Rec) (r:Rec) (tr:List Rec) (o:zX):Prop where
 good:GoodTr P sp N L tab st0 (later++r::tr)
 len:(later++r::tr).length=L.length
 ok:RecOK P sp N L tab st0 tr r o
 slots:jcq L tab 0 L=true
 edges:jdB 0 L=true
 tabok:jcS L tab
 closed:jcJ L D
 out:D tr.length=false
 bef:∀j,j∈tab.getD tr.length []->D j=true
 D1:D' tr.length=true
 D2:∀j,j≠tr.length->D' j=D j
 base:jk1 st0
 baseTm:∀t v,jaE st0.tm t=some v->v.lt st0.nx
 n0:n0<=st0.nx
variable {D D':Nat->Bool} {later tr:List Rec} {r:Rec} {o:zX} {a:Act} {w w':zx} {U U':Env}
def At.low (h:At (n0:=n0) P sp N L tab st0 D D' later r tr o):∀i k,k∈tab.getD i []->k<i:=jya h.edges h.tabok
def At.gr (h:At (n0:=n0) P sp N L tab st0 D D' later r tr o):GoodTr P sp N L tab st0 (r::tr):=GoodTr.tail h.good
def At.gt (h:At (n0:=n0) P sp N L tab st0 D D' later r tr o):GoodTr P sp N L tab st0 tr:=h.gr.inv.1
def At.mono (h:At (n0:=n0) P sp N L tab st0 D D' later r tr o):∀j,D j=true->D' j=true:=fun j hj=>by
 by_cases e:j=tr.length
 ·rw[e];exact h.D1
 ·rw[h.D2 j e];exact hj
def At.nx (h:At (n0:=n0) P sp N L tab st0 D D' later r tr o):r.nx<=jab st0 (later++r::tr):=jdr (tr:=r::tr) h.good
def At.alive_mono (h:At (n0:=n0) P sp N L tab st0 D D' later r tr o) {x:Nat} (hx:jaY st0 (later++r::tr) D x=true):jaY st0 (later++r::tr) D' x=true:=by
 simp only[jaY,zk]at hx ⊢;exact⟨hx.1,jfQ h.mono _ _ hx.2⟩
def At.alive_out (h:At (n0:=n0) P sp N L tab st0 D D' later r tr o) {x:Nat} (hx:jaY st0 (later++r::tr) D x=true):¬(jab st0 tr<=x∧x<r.nx):=by
 rintro ⟨h1,h2⟩;simp only[jaY,zk]at hx;rw[jvI h.good h1 h2,h.out]at hx;cases hx.2
def At.alive_new (h:At (n0:=n0) P sp N L tab st0 D D' later r tr o) {q:Nat->Bool} (hq:∀j,q j=true->D' j=true) {x:Nat}
  (hx:(qh x r.nx&&(qn (jab st0 tr) x||jas q st0 tr x))=true):jaY st0 (later++r::tr) D' x=true:=by
 simp only[zk,qz,xn]at hx;simp only[jaY,zk,qz];refine⟨zC hx.1 h.nx,?_⟩
 by_cases hle:jab st0 tr<=x
 ·rw[jvI h.good hle hx.1];exact h.D1
 ·have h1:jas q st0 tr x=true:=by
   rcases hx.2 with h1|h1
   ·rw[xd]at h1;exact absurd h1 hle
   ·exact h1
  have:later++r::tr=(later++[r])++tr:=by simp
  rw[this,jjt (by rw[<-this];exact h.good) (by omega)];exact jfQ hq _ _ h1
def jjy (h:At (n0:=n0) P sp N L tab st0 D D' later r tr o) {x:Nat} (hx:jaY st0 (later++r::tr) D x=true):jb4 U U' (jab st0 tr) r.nx x=U x:=by
 have:=h.alive_out hx;unfold jb4;split
 ·rename_i e;simp only[zk,xd,qz]at e;exact absurd e this
 ·rfl
def jd5 {lo hi:Nat} (ha:jae lo U U'):jae hi U' (jb4 U U' lo hi):=by
 intro x hx;unfold jb4;split
 ·rfl
 ·rename_i e
  have:¬lo<=x:=fun hc=>by
   rw[qL]at e;exact e (by simp only[zk,xd,qz];exact⟨hc,hx⟩)
  exact(ha x (by omega)).symm
def jk5 {lo hi:Nat} {m:Nat} (hm:m<=lo) (ha:jae m U0 U):jae m U0 (jb4 U U' lo hi):=by
 intro x hx;unfold jb4;split
 ·rename_i e;simp only[zk,xd,qz]at e;omega
 ·exact ha x hx
def At.n0le (h:At (n0:=n0) P sp N L tab st0 D D' later r tr o):n0<=jab st0 tr:=qx h.n0 (jmc h.gt)
def joD:∀{hp:Hp} {x:Nat},find (hp.map fun y=>(y.1,O.atom)) x=(find hp x).map fun _=>O.atom
 |[],_=>rfl
 |(k,o)::hp,x=>by
  simp only[zM,find];split
  ·rfl
  ·exact joD
def jjz (h:At (n0:=n0) P sp N L tab st0 D D' later r tr o) (hinv:Inv ds L st0 B0 B N n0 U0 w0 (later++r::tr) D a w U) {U2:Env} (hE:∀x,jaY st0 (later++r::tr) D x=true->U2 x=U x)
  (hnew:∀x,jab st0 tr<=x->x<r.nx->C.one r.hp (.o x)=true->(U2 x).oneCell'=true):∀x,jaY st0 (later++r::tr) D' x=true->jb1 st0 (later++r::tr) x=true->(U2 x).oneCell'=true:=by
 intro x hx hb
 by_cases hn:jab st0 tr<=x∧x<r.nx
 ·rw[jwm h.good hn.1 hn.2]at hb;exact hnew x hn.1 hn.2 hb
 ·have hx2:=hx;simp only[jaY,zk,qz]at hx2
  have hal:jaY st0 (later++r::tr) D x=true:=by
   simp only[jaY,zk,qz];refine⟨hx2.1,?_⟩;rw[jzL (q:=D') (q':=D) (fun j hj=>(h.D2 j hj).symm) hn h.good hx2.1];exact hx2.2
  rw[hE x hal];exact hinv.one x hal hb
def jjA (h:At (n0:=n0) P sp N L tab st0 D D' later r tr o) (hinv:Inv ds L st0 B0 B N n0 U0 w0 (later++r::tr) D a w U) (hk:r.kd≠2) (hn:r.nw=[]) (hnx:r.nx=jab st0 tr)
  (hv:r.v.allB (fun x=>qh x r.nx&&(qn (jab st0 tr) x||jas (fun j=>(tab.getD tr.length []).contains j) st0 tr x))=true) :
  Inv ds L st0 B0 B N n0 U0 w0 (later++r::tr) D' (a.put o.dst (r.v.val U)) w U:=by
 have he:=jqL (st0:=st0) (later:=later) h.out h.D1 h.D2 hk hn;have hv':r.v.allB (jaY st0 (later++r::tr) D')=true:=V.allB_mono (fun x hx=>h.alive_new (fun j hj=>h.mono j (h.bef j (by simpa using hj))) hx) hv;refine⟨jmd h.slots h.tabok h.closed h.out h.ok.op h.ok.dst h.D1 h.D2 hinv (fun _ _=>rfl) hv',by rw[jbD];exact hinv.size,by rw[jb9];exact hinv.defers,by rw[he];exact hinv.heap,?_,hinv.le,hinv.agree,hinv.below,jjz h hinv (fun _ _=>rfl) (fun x h1 h2 _=>by omega),hinv.gr,hinv.le0⟩;intro x ob hf;rw[he]at hf;have:=hinv.hal x ob hf;exact⟨h.alive_mono this.1,O.allB_mono (fun y hy=>h.alive_mono hy) this.2⟩
def jsB (h:At (n0:=n0) P sp N L tab st0 D D' later r tr o) (hinv:Inv ds L st0 B0 B N n0 U0 w0 (later++r::tr) D a w U) (hno:jeA P sp N L tab st0 D later (r::tr)) (hk:r.kd≠2)
  (hv:r.v.allB (fun x=>qh x r.nx&&(qn (jab st0 tr) x||jas (fun j=>(tab.getD tr.length []).contains j) st0 tr x))=true)
  (hnw:∀x ob,find r.nw x=some ob->ob.allB (fun x=>qh x r.nx&&(qn (jab st0 tr) x||jas (fun j=>(tab.getD tr.length []).contains j) st0 tr x))=true)
  (hag:jae (jab st0 tr) U U') (hbl:Bel B w w') (hbw:Below w.heap.size w w') (g:Grow B B2 true w w') (hnew:HRel U' B2 r.nw r.nx w') (hfresh:∀x ob k,find r.nw x=some ob->ob.blk (U' x)=some k->w.heap.size<=k) :
  Inv ds L st0 B0 B2 N n0 U0 w0 (later++r::tr) D' (a.put o.dst (r.v.val (jb4 U U' (jab st0 tr) r.nx))) w' (jb4 U U' (jab st0 tr) r.nx):=by
 have hbl0:Bel B0 w w':=hbl.mono hinv.gr.le.kp;have hq:∀j,(tab.getD tr.length []).contains j=true->D' j=true:=fun j hj=>h.mono j (h.bef j (by simpa using hj));have hv':r.v.allB (jaY st0 (later++r::tr) D')=true:=V.allB_mono (fun x hx=>h.alive_new hq hx) hv;have hE1:∀x,jaY st0 (later++r::tr) D x=true->jb4 U U' (jab st0 tr) r.nx x=U x:=fun x hx=>jjy h hx;have hE2:jae r.nx U' (jb4 U U' (jab st0 tr) r.nx):=jd5 hag
 have hins:∀x,find (jao D' st0 (later++r::tr)) x=(find (jao D st0 (later++r::tr)) x).or (find r.nw x):=fun x =>
  jmP h.out h.base h.D1 h.D2 hk hno h.good
 have hkey:∀k ob,find r.nw k=some ob->jab st0 tr<=k∧k<r.nx:=(jb3 h.ok hk).2.1;have hnew':=hnew.agree hE2
 refine⟨jmd h.slots h.tabok h.closed h.out h.ok.op h.ok.dst h.D1 h.D2 hinv hE1 hv',by rw[jbD];exact hinv.size,by rw[jb9];exact hinv.defers,⟨?_,?_,(hinv.heap.glob.bel hbl).sub g.le.kp⟩,?_,g.old (hbl.old hinv.le),jk5 h.n0le hinv.agree,hinv.below.trans hbl0,jjz h hinv hE1 (fun x h1 h2 h3=>by
  rw[hE2 x h2];refine C.one_val (c:=.o x) hnew ?_;have hh:=(jb3 h.ok hk).1
  have hnone:find (jan st0 tr) x=none:=by
   cases hf:find (jan st0 tr) x with
   |none=>rfl
   |some y=>have:=(keys h.gt h.base x y hf).1;omega
  simp only[C.one,hh,jat,hnone]at h3;simp only[C.one];cases hf:find r.nw x with
  |none=>rw[hf]at h3;cases h3
  |some y=>rw[hf]at h3;exact h3),(hinv.gr.trans g.weak (zu _) hbl.size).weak,hbl0.old hinv.le0⟩
 ·intro x ob hf;rw[hins]at hf;cases hd:find (jao D st0 (later++r::tr)) x with
  |some y =>
   rw[hd]at hf;cases hf;have h1:=hinv.heap.ok x ob hd;have h2:=hinv.hal x ob hd
   exact⟨h1.1,h1.2.1,O.ok_eqB hE1 (hE1 x h2.1) h2.2 (O.ok_moreB g.le (g.mono rfl).2 (O.ok_below hbw hinv.le h1.2.2) fun k hk hB2=>by
    have hb:=O.blk_lt h1.2.2 hk;rcases(g.mono rfl).1 k hB2 with h3|h3
    ·exact hb.2 h3
    ·exact absurd hb.1 (by omega))⟩
  |none =>
   rw[hd]at hf;have hf:find r.nw x=some ob:=hf;have h1:=hnew'.ok x ob hf;exact⟨zC h1.1 h.nx,O.lt_mono h.nx h1.2.1,h1.2.2⟩
 ·intro x ob x' ob' k hf hf' hne hb;rw[hins]at hf hf'
  have old:∀y oy,find (jao D st0 (later++r::tr)) y=some oy->∀k,oy.blk (jb4 U U' (jab st0 tr) r.nx y)=some k->k<w.heap.size:=fun y oy hy k hk=>by
   rw[hE1 y (hinv.hal y oy hy).1]at hk;exact(O.blk_lt (hinv.heap.ok y oy hy).2.2 hk).1
  have new:∀y oy,find r.nw y=some oy->∀k,oy.blk (jb4 U U' (jab st0 tr) r.nx y)=some k->w.heap.size<=k:=fun y oy hy k hk=>by
   rw[hE2 y (hkey y oy hy).2]at hk;exact hfresh y oy k hy hk
  cases hd:find (jao D st0 (later++r::tr)) x with
  |some y =>
   rw[hd]at hf;cases hf;cases hd':find (jao D st0 (later++r::tr)) x' with
   |some y' =>
    rw[hd']at hf';cases hf';rw[hE1 x (hinv.hal x ob hd).1]at hb;rw[hE1 x' (hinv.hal x' ob' hd').1];exact hinv.heap.apart x ob x' ob' k hd hd' hne hb
   |none =>
    rw[hd']at hf';intro hb';have h1:=old x ob hd k hb;have h2:=new x' ob' hf' k hb';omega
  |none =>
   rw[hd]at hf;cases hd':find (jao D st0 (later++r::tr)) x' with
   |some y' =>
    rw[hd']at hf';cases hf';intro hb';have h1:=old x' ob' hd' k hb';have h2:=new x ob hf k hb;omega
   |none =>
    rw[hd']at hf';exact hnew'.apart x ob x' ob' k hf hf' hne hb
 ·intro x ob hf;rw[hins]at hf;cases hd:find (jao D st0 (later++r::tr)) x with
  |some y =>
   rw[hd]at hf;cases hf;have:=hinv.hal x ob hd;exact⟨h.alive_mono this.1,O.allB_mono (fun y hy=>h.alive_mono hy) this.2⟩
  |none =>
   rw[hd]at hf;have hf:find r.nw x=some ob:=hf;have h1:=hkey x ob hf;refine⟨h.alive_new (q:=fun _=>false) (fun _ hj=>by cases hj) ?_,O.allB_mono (fun y hy=>h.alive_new hq hy) (hnw x ob hf)⟩;simp only[zk,qz,xn];exact⟨h1.2,.inl (xH h1.1)⟩
def jhE (h:At (n0:=n0) P sp N L tab st0 D D' later r tr o) {lf mk:Bool} (hf:ja9 tab tr.length lf mk 0 L=true):∀j oj,j<tr.length->L[j]?=some oj->(jaA oj.op||jaH oj.op)=false->D j=true:=fun j oj hij hj hs=>by
 simp only[yJ]at hs;rcases jc8 hf j oj hj with h1|h1|h1|h1|h1|h1
 ·omega
 ·rw[hs.1]at h1;cases h1
 ·rw[zP]at h1;exact h.bef _ h1
 ·rw[zP]at h1;have:=h.low _ _ h1;omega
 ·rw[hs.2]at h1;cases h1.2
 ·have:=h1.2.1;omega
def jhF (h:At (n0:=n0) P sp N L tab st0 D D' later r tr o) (hns:jaA o.op=false) (hnl:jaH o.op=false) (hna:jhB o.op=false):∀j,j<tr.length->jfw tab j 0 L=true->D j=true:=fun j hij hm=>by
 rcases jjv hm tr.length o h.ok.op with h1|h1|h1|h1
 ·omega
 ·rw[hns,hnl]at h1;cases h1
 ·rw[zP]at h1;exact h.bef _ h1
 ·rw[hna]at h1;cases h1
def jvK (h:At (n0:=n0) P sp N L tab st0 D D' later r tr o) (hns:jaA o.op=false) (hnl:jaH o.op=false):jeA P sp N L tab st0 D later (r::tr):=fun l1 rk l2 ok e hr hk=>by
 obtain⟨mk,hf⟩:=(jbL hr hk).1;exact jyf hns hnl h.ok.op h.low h.tabok h.closed h.out (by simp;omega) hf
def jBE (h:At (n0:=n0) P sp N L tab st0 D D' later r tr o) (hm:jfw tab tr.length 0 L=true):jeA P sp N L tab st0 D later (r::tr):=fun l1 rk l2 ok e hr hk=>by
 have hke:=jbL hr hk;rcases jjv hm _ ok hr.op with h1|h1|h1|h1
 ·simp at h1;omega
 ·rw[hke.2.1,hke.2.2.1]at h1;cases h1
 rotate_left
 ·rw[hke.2.2.2]at h1;cases h1
 ·rw[zP]at h1;rw[qL];intro hD;have:=jcT h.tabok h.closed _ tr.length (fun o' ho' e he hb=>h.closed _ o' ho' hD e he hb) h1;rw[h.out]at this;cases this
def joE (B:Kd) (E:Nat->Prop) (hE:∀k,E k->¬B.all k):Kd :=
 ⟨fun k=>B.kp k∨E k,B.fr,B.mu,fun k h=>.inl (B.sub k h),fun k h=>h.elim (B.dis k) fun h=>by
  cases hm:B.mu k with
  |none=>rfl
  |some g=>exact absurd (.inr (by rw[hm];simp)) (hE k h)⟩
def jiC (B:Kd) (E:Nat->Prop) (hE:∀k,B.fr k->¬E k):Kd :=
 ⟨fun k=>B.kp k∧¬E k,B.fr,B.mu,fun k h=>⟨B.sub k h,hE k h⟩,fun k h=>B.dis k h.1⟩
def O.ok_minus {E:Nat->Prop} {hE:∀k,B.fr k->¬E k} {x:Nat} (hn:∀k,¬B.all k->¬(jiC B E hE).all k):∀{o:O},o.ok U B w x->jjq o=false->o.ok U (jiC B E hE) w x
 | .box _ _,⟨k,h1,h2,h3⟩,_=>⟨k,h1,hn k h2,h3⟩
 | .row _ _,⟨h1,h2⟩,_=>⟨h1,fun k hk=>hn k (h2 k hk)⟩
 | .ext _,_,hd=>by cases hd
 | .view _ _ _,h,_=>h
 | .dead,_,_=>trivial
 | .nan _,h,_=>h
 | .ebox _,_,hd=>by cases hd
 | .arr _ _ _ _,⟨b,h1,h2,h3⟩,_=>⟨b,h1,hn b h2,h3⟩
 | .xext _,_,hd=>by cases hd
 | .map _,⟨b,e,c,h1,h2,h3⟩,_=>⟨b,e,c,h1,hn b h2,h3⟩
 | .rrow _,⟨h1,h2⟩,_=>⟨h1,fun k hk=>⟨hn k (h2 k hk).1,(h2 k hk).2⟩⟩
 | .fext _,h,_=>h
 | .xrow _ _,⟨us,h1,h2,h3⟩,_=>⟨us,h1,h2,fun k hk=>hn k (h3 k hk)⟩
 | .mrow _ _ _ _,⟨us,h1,h2,h3,h4⟩,_=>⟨us,h1,fun i j a b c=>let ⟨u,p,q⟩:=h2 i j a b c; ⟨u,p,NC.own_mono (B:=B) (B':=jiC B E hE) (fun _ _ h=>h) q⟩,h3,fun k hk=>hn k (h4 k hk)⟩
 | .trow _ _ _ _,_,hd=>by cases hd
 | .sub _ _ _ _ _ _,h,_=>h
 | .lbox _ _ _ _,⟨h1,h2⟩,_=>⟨h1,fun k hk=>hn k (h2 k hk)⟩
 | .lview _ _ _ _,h,_=>h
 | .elist _ _ _,_,hd=>by cases hd
 | .err,h,_=>h
 | .atom,h,_=>h
def jwo {o:O} {x:Nat} (hd:jjq o=true) (ht:o.isT=false) (hb:Bel B.kp w w') (hs:∀k,B.kp k->B2.kp k) (h:o.ok U B w x):o.ok U B2 w' x:=by
 cases o with
 |ext c=>exact⟨h.1.below hb h.2,jaS hs h.2⟩
 |ebox cs =>
  obtain⟨k,o,h1,h2,h3⟩:=h;exact⟨k,o,h1,hs k h2,fun j c hj=>(hb.cell (p:=⟨k,o+j,none⟩) h2).trans (h3 j c hj)⟩
 |xext X=>exact(IsX.bel h hb).mono hs
 |elist e n cs =>
  obtain⟨⟨q,cap,h0,h1,h2⟩,h3,h4,h5⟩:=h;refine⟨⟨q,cap,h0,h1,h2⟩,jaS hs h3,h4,fun m c hc=>?_⟩
  have hn:0<n:=by
   rcases Nat.eq_zero_or_pos n with e0|e0
   ·subst e0;rw[qQ]at h4;rw[List.length_eq_zero_iff.1 h4]at hc;cases hc
   ·exact e0
  obtain⟨b,off,rfl⟩:=h2 hn;have hB:=h3 _ _ _ h0 hn;refine(hb.cell ?_).trans (h5 m c hc);rw[h0];exact hB
 |trow=>cases ht
 |_=>cases hd
def jzN {o:O} {x:Nat} (ho:je3 o=true) (hw:∀k,o.blk (U x)=some k->w'.heap[k]?=w.heap[k]?) (hB:∀k,o.blk (U x)=some k->¬B2.all k) (h:o.ok U B w x):o.ok U B2 w' x:=by
 have own:∀{ty e n:Nat} {v:zF} {cs:List zF},(∀k,v.ownBlock=some k->w'.heap[k]?=w.heap[k]?)->w.ownsRow 0 ty e v n cs->w'.ownsRow 0 ty e v n cs:=fun hw hr=>by
  refine⟨hr.1,?_⟩;rcases hr.2 with hn|⟨g,cap,cur,h1,h2,h3,h4⟩
  ·exact .inl hn
  ·exact .inr ⟨g,cap,cur,h1,h2,(hw g (by rw[h1];rfl)).trans h3,h4⟩
 cases o with
 |row ty c=>exact⟨own (fun k hk=>hw k hk) h.1,fun k hk=>hB k hk⟩
 |box ty cs=>obtain⟨k,h1,h2,h3⟩:=h;exact⟨k,h1,hB k (by simp[O.blk,h1,base]),(hw k (by simp[O.blk,h1,base])).trans h3⟩
 |lbox ty e n cs=>exact⟨own (fun k hk=>hw k hk) h.1,fun k hk=>hB k hk⟩
 |arr ty k e r=>obtain⟨g,h1,h2,h3⟩:=h;exact⟨g,h1,hB g (by simp[O.blk,h1,base]),(hw g (by simp[O.blk,h1,base])).trans h3⟩
 |_=>cases ho
def jdY (st0:St) (T:List Rec) (D:Nat->Bool) (U:Env) (n k:Nat):Prop:=∃x ob,n<=x∧find (jao D st0 T) x=some ob∧ob.blk (U x)=some k
def jpV (h:At (n0:=n0) P sp N L tab st0 D D' later r tr o) (hk:r.kd=2) (hns:jaA o.op=false) (hnl:jaH o.op=false) {lf mk:Bool} (hf:ja9 tab tr.length lf mk 0 L=true) :
  ∀l1 rk l2 ok,later=l1++rk::l2->RecOK P sp N L tab st0 (l2++r::tr) rk ok->D (l2++r::tr).length=true->rk.kd≠2∧rk.nw.all (fun x=>je3 x.2)=true∧(mk=false->rk.nw=[]):=by
 intro l1 rk l2 ok e hr hD;have hlt:tr.length<(l2++r::tr).length:=by simp;omega
 have hk2:rk.kd≠2:=fun hk2=>by
  rw[jvK h hns hnl l1 rk l2 ok e hr hk2]at hD;cases hD
 refine⟨hk2,?_⟩;have mkr:jaA ok.op=false->jaH ok.op=false->mk=true∧jjp ok.op=true∧tr.length∉tab.getD (l2++r::tr).length []:=fun h1 h2=>jwn hr.op h1 h2 h.low h.tabok h.closed h.out hlt hf hD;cases hr.kind with
 |skip g e=>rw[e];exact⟨rfl,fun _=>rfl⟩
 |pure g ob hs ho hk e=>rw[e];exact⟨rfl,fun _=>rfl⟩
 |built g hb0 ob hs ho hk e=>rw[e];exact⟨rfl,fun _=>rfl⟩
 |load g hp hl x xo hx hf hb hst ob hs ho hk e=>rw[e];exact⟨rfl,fun _=>rfl⟩
 |mono g hp hl hm res hs ho hk hnk e =>
  have hlm:=mkr hp hl;rw[e];refine⟨?_,fun hc=>by rw[hlm.1]at hc;cases hc⟩;unfold joA at hnk;split at hnk
  ·rename_i hal;exact absurd (jjx ‹r.kd=2› hal) hlm.2.2
  ·exact hnk
 |mload g hp hl hmk hal hm res hs ho hk e =>
  have h1:=jjx ‹r.kd=2› hal;have:=jcT h.tabok h.closed _ tr.length (fun o' ho' e he hb=>h.closed _ o' ho' hD e he hb) h1;rw[h.out]at this;cases this
 |effect g hp hl hmo mk hf res hs ho hk hmk e=>exact absurd (by rw[e]) hk2
def jsC (h:At (n0:=n0) P sp N L tab st0 D D' later r tr o) (hk:r.kd=2) (hns:jaA o.op=false) (hnl:jaH o.op=false) {lf mk:Bool} (hf:ja9 tab tr.length lf mk 0 L=true) (hkey:∀x ob,find r.hp x=some ob->x<r.nx) (x:Nat) :
  (x<r.nx->find (jao D st0 (later++r::tr)) x=find (jan st0 tr) x)∧(x<r.nx->find (jao D' st0 (later++r::tr)) x=find r.hp x) ∧
   (r.nx<=x->find (jao D' st0 (later++r::tr)) x=find (jao D st0 (later++r::tr)) x∧∀ob,find (jao D st0 (later++r::tr)) x=some ob->je3 ob=true):=by
 have e1:jao D st0 (r::tr)=jan st0 tr:=by
  simp only[jao,h.out,qN,if_false];exact(jfy (jhE h hf) (jhF h hns hnl (jbL h.ok hk).2.2.2) h.gt (zu _)).1
 have e2:jao D' st0 (r::tr)=r.hp:=by simp only[jao,h.D1,hk,if_true]
 have hm:=jmQ (D:=D) (tr:=r::tr) (later:=later) (fun l1 rk l2 ok e hr hD=>let q:=jpV h hk hns hnl hf l1 rk l2 ok e hr hD; ⟨q.1,q.2.1⟩) h.good x;have hD':∀j,(r::tr).length<=j->D' j=D j:=fun j hj=>h.D2 j (by simp at hj;omega)
 have hk1:∀ob,find (jao D st0 (r::tr)) x=some ob->x<r.nx:=fun ob hf=>by
  rw[e1]at hf;exact zC (keys h.gt h.base x ob hf).1 h.ok.nx_le
 have hk2:∀ob,find (jao D' st0 (r::tr)) x=some ob->x<r.nx:=fun ob hf=>by
  rw[e2]at hf;exact hkey x ob hf
 refine⟨fun hx=>by rw[<-e1];exact hm.1 hx,fun hx=>by rw[<-e2];exact hm.2.2.2 hx D' hD',fun hx=>⟨hm.2.2.1 D' hD' hx hk1 hk2,fun ob hob=>hm.2.1 ob hob hx hk1⟩⟩
def jd6 (hinv:Inv ds L st0 B0 B N n0 U0 w0 (later++r::tr) D a w U):∀k,jdY st0 (later++r::tr) D U r.nx k->¬B.all k:=fun k ⟨x,ob,_,hf,hb⟩=>(O.blk_lt (hinv.heap.ok x ob hf).2.2 hb).2
def jzO (h:At (n0:=n0) P sp N L tab st0 D D' later r tr o) (hinv:Inv ds L st0 B0 B N n0 U0 w0 (later++r::tr) D a w U) (hk:r.kd=2) (hns:jaA o.op=false) (hnl:jaH o.op=false) {lf mk:Bool} (hf:ja9 tab tr.length lf mk 0 L=true) (hkey:∀x ob,find r.hp x=some ob->x<r.nx) :
  HRel U (joE B (jdY st0 (later++r::tr) D U r.nx) (jd6 hinv)) (jan st0 tr) (jab st0 tr) w∧Old (joE B (jdY st0 (later++r::tr) D U r.nx) (jd6 hinv)) w:=by
 have at1:∀x ob,find (jan st0 tr) x=some ob->find (jao D st0 (later++r::tr)) x=some ob:=fun x ob hx=>by
  rw[(jsC h hk hns hnl hf hkey x).1 (zC (keys h.gt h.base x ob hx).1 h.ok.nx_le)];exact hx
 constructor
 ·refine⟨fun x ob hx=>⟨(keys h.gt h.base x ob hx).1,(keys h.gt h.base x ob hx).2,?_⟩,fun x ob x' ob' k hx hx'=>hinv.heap.apart x ob x' ob' k (at1 x ob hx) (at1 x' ob' hx'),hinv.heap.glob.sub fun k hk=>.inl hk⟩;have h1:=(hinv.heap.ok x ob (at1 x ob hx)).2.2;refine O.ok_moreB (B2:=joE B (jdY st0 (later++r::tr) D U r.nx) (jd6 hinv)) ⟨fun k hk=>.inl hk,fun k hk=>hk⟩ (fun k g hg=>hg) h1 fun k hk' hc=>?_;have h2:=O.blk_lt h1 hk';rcases hc with (hc|⟨x',ob',hx',hf',hb'⟩)|hc
  ·exact h2.2 (.inl hc)
  ·refine hinv.heap.apart x ob x' ob' k (at1 x ob hx) hf' (fun e=>?_) hk' hb';have:=(keys h.gt h.base x ob hx).1;have:=h.ok.nx_le;omega
  ·exact h2.2 (.inr hc)
 ·intro k hc;rcases hc with (hc|⟨x',ob',hx',hf',hb'⟩)|hc
  ·exact hinv.le k (.inl hc)
  ·exact(O.blk_lt (hinv.heap.ok x' ob' hf').2.2 hb').1
  ·exact hinv.le k (.inr hc)
def juy {B3:Kd} (h:At (n0:=n0) P sp N L tab st0 D D' later r tr o) (hinv:Inv ds L st0 B0 B N n0 U0 w0 (later++r::tr) D a w U) (hk:r.kd=2) (hns:jaA o.op=false) (hnl:jaH o.op=false) {lf mk:Bool} (hf:ja9 tab tr.length lf mk 0 L=true)
  (hv:r.v.allB (fun x=>qh x r.nx&&(qn (jab st0 tr) x||jas (fun j=>(tab.getD tr.length []).contains j) st0 tr x))=true)
  (hnw:∀x ob,find r.hp x=some ob->x<r.nx∧ob.allB (fun x=>qh x r.nx&&(qn (jab st0 tr) x||jas (fun j=>(tab.getD tr.length []).contains j) st0 tr x))=true)
  (hdep:∀x ob,find r.hp x=some ob->jjq ob=true->find (jan st0 tr) x=some ob∧ob.isT=false)
  (hag:jae (jab st0 tr) U U') (hbl:Bel (joE B (jdY st0 (later++r::tr) D U r.nx) (jd6 hinv)).kp w w') (g:Grow (joE B (jdY st0 (later++r::tr) D U r.nx) (jd6 hinv)) B3 false w w') (hnew:HRel U' B3 r.hp r.nx w') :
  ∃B2,Inv ds L st0 B0 B2 N n0 U0 w0 (later++r::tr) D' (a.put o.dst (r.v.val (jb4 U U' (jab st0 tr) r.nx))) w' (jb4 U U' (jab st0 tr) r.nx):=by
 have hkey:∀x ob,find r.hp x=some ob->x<r.nx:=fun x ob hx=>(hnw x ob hx).1;have hps:=jsC h hk hns hnl hf hkey;have hq:∀j,(tab.getD tr.length []).contains j=true->D' j=true:=fun j hj=>h.mono j (h.bef j (by simpa using hj));have hv':r.v.allB (jaY st0 (later++r::tr) D')=true:=V.allB_mono (fun x hx=>h.alive_new hq hx) hv;have hE1:∀x,jaY st0 (later++r::tr) D x=true->jb4 U U' (jab st0 tr) r.nx x=U x:=fun x hx=>jjy h hx;have hE2:jae r.nx U' (jb4 U U' (jab st0 tr) r.nx):=jd5 hag
 have hE3:∀k,B3.fr k->¬jdY st0 (later++r::tr) D U r.nx k:=fun k hfr hc=>by
  rcases g.out k hfr with h1|h1
  ·exact jd6 hinv k hc (.inl (B.sub k h1))
  ·exact h1 (.inr hc)
 have hbB:Bel B.kp w w':=hbl.mono fun k hk=>.inl hk;have hbl0:Bel B0 w w':=hbB.mono hinv.gr.le.kp
 have g':Grow B (jiC B3 (jdY st0 (later++r::tr) D U r.nx) hE3) false w w':=by
  refine⟨⟨fun k hk=>⟨g.le.kp k (.inl hk),fun hc=>jd6 hinv k hc (.inl hk)⟩,fun k hk=>g.le.fr k hk⟩,fun k hk=>?_,fun k hk=>?_,fun hc=>by cases hc⟩
  ·have h3:B3.all k:=hk.elim (fun hk=>.inl hk.1) .inr;rcases g.new k h3 with ((h4|⟨x',ob',hx',hf',hb'⟩)|h4)|h4
   ·exact .inl (.inl h4)
   ·exact .inr (zC (O.blk_lt (hinv.heap.ok x' ob' hf').2.2 hb').1 hbl.size)
   ·exact .inl (.inr h4)
   ·exact .inr h4
  ·rcases g.out k hk with h4|h4
   ·exact .inl h4
   ·exact .inr fun hc=>h4 (.inl hc)
 have hnew':=hnew.agree hE2;have hn:∀k,¬B3.all k->¬(jiC B3 (jdY st0 (later++r::tr) D U r.nx) hE3).all k:=fun k hk hc=>hk (hc.elim (fun hc=>.inl hc.1) .inr)
 have lateB:∀x ob k,r.nx<=x->find (jao D st0 (later++r::tr)) x=some ob->ob.blk (jb4 U U' (jab st0 tr) r.nx x)=some k->jdY st0 (later++r::tr) D U r.nx k:=fun x ob k hx hfx hb=>by
  rw[hE1 x (hinv.hal x ob hfx).1]at hb;exact⟨x,ob,hx,hfx,hb⟩
 refine⟨jiC B3 (jdY st0 (later++r::tr) D U r.nx) hE3,jmd h.slots h.tabok h.closed h.out h.ok.op h.ok.dst h.D1 h.D2 hinv hE1 hv',by rw[jbD];exact hinv.size,by rw[jb9];exact hinv.defers,⟨?_,?_,(hinv.heap.glob.bel hbB).sub g'.le.kp⟩,?_,g'.old (hbB.old hinv.le),jk5 h.n0le hinv.agree,hinv.below.trans hbl0,jjz h hinv hE1 (fun x h1 h2 h3=>by rw[hE2 x h2];exact C.one_val (c:=.o x) hnew h3),(hinv.gr.trans g' (zu _) hbl.size).weak,hbl0.old hinv.le0⟩
 ·intro x ob hfx
  by_cases hx:x<r.nx
  ·rw[(hps x).2.1 hx]at hfx;have h1:=hnew'.ok x ob hfx;refine⟨zC h1.1 h.nx,O.lt_mono h.nx h1.2.1,?_⟩;cases hd:jjq ob with
   |false=>exact O.ok_minus hn h1.2.2 hd
   |true =>
    obtain⟨h2,hT⟩:=hdep x ob hfx hd;rw[<-(hps x).1 hx]at h2;have h3:=hinv.hal x ob h2;exact O.ok_eqB hE1 (hE1 x h3.1) h3.2 (jwo hd hT hbB g'.le.kp (hinv.heap.ok x ob h2).2.2)
  ·have hx:r.nx<=x:=by omega
   rw[((hps x).2.2 hx).1]at hfx;have h1:=hinv.heap.ok x ob hfx;have h3:=hinv.hal x ob hfx;refine⟨h1.1,h1.2.1,O.ok_eqB hE1 (hE1 x h3.1) h3.2 (jzN (((hps x).2.2 hx).2 ob hfx) (fun k hb=>hbl.block k (.inr ⟨x,ob,hx,hfx,hb⟩)) (fun k hb hc=>?_) h1.2.2)⟩;have hl:jdY st0 (later++r::tr) D U r.nx k:=⟨x,ob,hx,hfx,hb⟩
   rcases hc with hc|hc
   ·exact hc.2 hl
   ·exact hc (B3.dis k (g.le.kp k (.inr hl)))
 ·intro x ob x' ob' k hfx hfx' hne hb
  by_cases hx:x<r.nx
  ·rw[(hps x).2.1 hx]at hfx
   by_cases hx':x'<r.nx
   ·rw[(hps x').2.1 hx']at hfx';exact hnew'.apart x ob x' ob' k hfx hfx' hne hb
   ·have hx':r.nx<=x':=by omega
    rw[((hps x').2.2 hx').1]at hfx';intro hb';exact(O.blk_lt (hnew'.ok x ob hfx).2.2 hb).2 (.inl (g.le.kp k (.inr (lateB x' ob' k hx' hfx' hb'))))
  ·have hx:r.nx<=x:=by omega
   rw[((hps x).2.2 hx).1]at hfx
   by_cases hx':x'<r.nx
   ·rw[(hps x').2.1 hx']at hfx';intro hb';exact(O.blk_lt (hnew'.ok x' ob' hfx').2.2 hb').2 (.inl (g.le.kp k (.inr (lateB x ob k hx hfx hb))))
   ·have hx':r.nx<=x':=by omega
    rw[((hps x').2.2 hx').1]at hfx';rw[hE1 x (hinv.hal x ob hfx).1]at hb;rw[hE1 x' (hinv.hal x' ob' hfx').1];exact hinv.heap.apart x ob x' ob' k hfx hfx' hne hb
 ·intro x ob hfx
  by_cases hx:x<r.nx
  ·rw[(hps x).2.1 hx]at hfx;refine⟨h.alive_new (q:=D) h.mono ?_,O.allB_mono (fun y hy=>h.alive_new hq hy) (hnw x ob hfx).2⟩;simp only[zk,qz,xn];refine⟨hx,?_⟩
   by_cases hle:jab st0 tr<=x
   ·exact .inl (xH hle)
   ·exact .inr ((jfy (jhE h hf) (jhF h hns hnl (jbL h.ok hk).2.2.2) h.gt (zu _)).2 x (by omega))
  ·have hx:r.nx<=x:=by omega
   rw[((hps x).2.2 hx).1]at hfx;have:=hinv.hal x ob hfx;exact⟨h.alive_mono this.1,O.allB_mono (fun y hy=>h.alive_mono hy) this.2⟩
def jwp (h:At (n0:=n0) P sp N L tab st0 D D' later r tr o) (hinv:Inv ds L st0 B0 B N n0 U0 w0 (later++r::tr) D a w U) (hk:r.kd=2) (hns:jaA o.op=false) (hnl:jaH o.op=false) {lf:Bool} (hf:ja9 tab tr.length lf false 0 L=true)
  (hv:r.v.allB (fun x=>qh x r.nx&&(qn (jab st0 tr) x||jas (fun j=>(tab.getD tr.length []).contains j) st0 tr x))=true)
  (hnw:∀x ob,find r.hp x=some ob->ob.allB (fun x=>qh x r.nx&&(qn (jab st0 tr) x||jas (fun j=>(tab.getD tr.length []).contains j) st0 tr x))=true)
  (hag:jae (jab st0 tr) U U') (hbl:Bel B w w') (g:Grow B B2 false w w') (hnew:HRel U' B2 r.hp r.nx w') :
  Inv ds L st0 B0 B2 N n0 U0 w0 (later++r::tr) D' (a.put o.dst (r.v.val (jb4 U U' (jab st0 tr) r.nx))) w' (jb4 U U' (jab st0 tr) r.nx):=by
 have hbl0:Bel B0 w w':=hbl.mono hinv.gr.le.kp;have hq:∀j,(tab.getD tr.length []).contains j=true->D' j=true:=fun j hj=>h.mono j (h.bef j (by simpa using hj));have hv':r.v.allB (jaY st0 (later++r::tr) D')=true:=V.allB_mono (fun x hx=>h.alive_new hq hx) hv;have hE1:∀x,jaY st0 (later++r::tr) D x=true->jb4 U U' (jab st0 tr) r.nx x=U x:=fun x hx=>jjy h hx;have hE2:jae r.nx U' (jb4 U U' (jab st0 tr) r.nx):=jd5 hag
 have hall:∀l1 rk l2 ok,later=l1++rk::l2->RecOK P sp N L tab st0 (l2++r::tr) rk ok->D' (l2++r::tr).length=true->rk.kd≠2∧rk.nw=[]:=fun l1 rk l2 ok e hr hD=>by
  rw[h.D2 _ (by simp;omega)]at hD;have q:=jpV h hk hns hnl hf l1 rk l2 ok e hr hD;exact⟨q.1,q.2.2 rfl⟩
 have hbefore:=jhE h hf
 have hhp:jao D' st0 (later++r::tr)=r.hp:=by
  rw[jjw (tr:=r::tr) hall h.good];simp only[jao,h.D1,hk,if_true]
 have hnew':=hnew.agree hE2;refine⟨jmd h.slots h.tabok h.closed h.out h.ok.op h.ok.dst h.D1 h.D2 hinv hE1 hv',by rw[jbD];exact hinv.size,by rw[jb9];exact hinv.defers,by rw[hhp];exact hnew'.mono_nx h.nx,?_,g.old (hbl.old hinv.le),jk5 h.n0le hinv.agree,hinv.below.trans hbl0,jjz h hinv hE1 (fun x h1 h2 h3=>by rw[hE2 x h2];exact C.one_val (c:=.o x) hnew h3),(hinv.gr.trans g (zu _) hbl.size).weak,hbl0.old hinv.le0⟩;intro x ob hf;rw[hhp]at hf;refine⟨h.alive_new (q:=D) h.mono ?_,O.allB_mono (fun y hy=>h.alive_new hq hy) (hnw x ob hf)⟩;have h1:=(hnew.ok x ob hf).1;simp only[zk,qz,xn];refine⟨h1,?_⟩
 by_cases hle:jab st0 tr<=x
 ·exact .inl (xH hle)
 ·exact .inr ((jfy hbefore (jhF h hns hnl (jbL h.ok hk).2.2.2) h.gt (zu _)).2 x (by omega))
def jsD (h:At (n0:=n0) P sp N L tab st0 D D' later r tr o) (hinv:Inv ds L st0 B0 B N n0 U0 w0 (later++r::tr) D a w U) (hno:jeA P sp N L tab st0 D later (r::tr)):HRel U B (jdq (tab.getD tr.length []) st0 tr) (jab st0 tr) w:=by
 have key:∀x ob,find (jdq (tab.getD tr.length []) st0 tr) x=some ob->find (jao D st0 (later++r::tr)) x=some ob∧x<jab st0 tr∧ob.lt (jab st0 tr):=by
  intro x ob hf
  have sub:find (jan st0 tr) x=some ob∧(find (jan st0 tr) x=some ob->find (jao D st0 tr) x=some ob):=by
   unfold jdq at hf;split at hf
   ·rename_i hal;rw[jfx (p:=fun x=>jas (fun j=>(tab.getD tr.length []).contains j) st0 tr x)]at hf;split at hf
    ·rename_i hb;exact⟨hf,fun hf=>jBD h.base h.bef h.gt hal (zu _) x ob hf hb⟩
    ·cases hf
   ·rw[jfx (p:=fun x=>jas (fun j=>(tab.getD tr.length []).contains j) st0 tr x&&jbE st0 (tab.getD tr.length []) x tr)]at hf;split at hf
    ·rename_i hb;simp only[zk]at hb;exact⟨hf,fun hf=>jvJ h.low h.base h.bef h.gt hf hb.1 hb.2⟩
    ·cases hf
  have hf:=sub.1
  ·have h1:=keys h.gt h.base x ob hf;refine⟨?_,h1⟩;have h2:=sub.2 hf;rw[jqK (tr:=r::tr) (show x<r.nx from zC h1.1 h.ok.nx_le) hno h.good];simp only[jao,h.out,qN,if_false];exact h2
 exact⟨fun x ob hf=>⟨(key x ob hf).2.1,(key x ob hf).2.2,(hinv.heap.ok x ob (key x ob hf).1).2.2⟩,
  fun x ob x' ob' k hf hf'=>hinv.heap.apart x ob x' ob' k (key x ob hf).1 (key x' ob' hf').1,hinv.heap.glob⟩
def jyg (h:At (n0:=n0) P sp N L tab st0 D D' later r tr o) (hk:r.kd=2) (hinv:Inv ds L st0 B0 B N n0 U0 w0 (later++r::tr) D a w U) (hns:jaA o.op=false) (hnl:jaH o.op=false) {lf:Bool} (hf:ja9 tab tr.length lf false 0 L=true):HRel U B (jan st0 tr) (jab st0 tr) w:=by
 have hbefore:=jhE h hf
 have hall:∀l1 rk l2 ok,later=l1++rk::l2->RecOK P sp N L tab st0 (l2++r::tr) rk ok->D (l2++r::tr).length=true->rk.kd≠2∧rk.nw=[]:=fun l1 rk l2 ok e hr hD=>by
  have q:=jpV h hk hns hnl hf l1 rk l2 ok e hr hD;exact⟨q.1,q.2.2 rfl⟩
 have e:jao D st0 (later++r::tr)=jan st0 tr:=by
  rw[jjw (tr:=r::tr) hall h.good];simp only[jao,h.out,qN,if_false];exact(jfy hbefore (jhF h hns hnl (jbL h.ok hk).2.2.2) h.gt (zu _)).1
 have h1:=hinv.heap;rw[e]at h1;exact⟨fun x ob hf=>⟨(keys h.gt h.base x ob hf).1,(keys h.gt h.base x ob hf).2,(h1.ok x ob hf).2.2⟩,h1.apart,h1.glob⟩
def jB4 (hsp:jac P sp) (h:At (n0:=n0) P sp N L tab st0 D D' later r tr o) (hinv:Inv ds L st0 B0 B N n0 U0 w0 (later++r::tr) D a w U) {K:Act->zx->Prop} {Q:jP->Act->zx->Prop}
  (hK:∀U' a' w' B2,Inv ds L st0 B0 B2 N n0 U0 w0 (later++r::tr) D' a' w' U'->K a' w'):wpOp P L.toArray Q tr.length K a w:=by
 have hgt:=h.gt;have hreads:=jzM h.good h.slots h.tabok h.closed h.out h.ok.op h.bef h.baseTm hinv;have ho:L.toArray[tr.length]?=some o:=by simpa using h.ok.op
 unfold wpOp;rw[ho];dsimp only;cases h.ok.kind with
 |skip g e =>
  rw[jds h.slots h.tabok h.closed h.out h.ok.op h.bef hinv g];refine hK U _ _ B ?_;have:=jjA h hinv (by rw[e];exact(by decide:(0:Nat)≠2)) (by rw[e]) (by rw[e]) (by rw[e];rfl);rw[show r.v.val U=qe by rw[e];rfl]at this;exact this
 |pure g ob hs ob' hk e =>
  rw[jds h.slots h.tabok h.closed h.out h.ok.op h.bef hinv g];left;have hh:HRel U B [] (jab st0 tr) w:=⟨(fun _ _ hf=>by cases hf),(fun _ _ _ _ _ hf=>by cases hf),hinv.heap.glob⟩
  have hrun:=jek hh hreads hs ob';unfold jv;rw[hrun.1];refine hK U _ _ B (jjA h hinv (by rw[e];exact(by decide:(0:Nat)≠2)) (by rw[e]) (by rw[e]) ?_);have:=jnq hk;have e2:r.nx=jab st0 tr:=by rw[e]
  rw[e2];exact this
 |built g hbo ob hs ob' hk e =>
  rw[jds h.slots h.tabok h.closed h.out h.ok.op h.bef hinv g];left
  have hfo:∀x ob,find (jfP (tab.getD tr.length []) st0 tr) x=some ob->ob=.atom∧x<jab st0 tr∧jas (fun j=>(tab.getD tr.length []).contains j) st0 tr x=true∧jb1 st0 tr x=true:=by
   intro x ob hf;unfold jfP at hf;rw[joD]at hf;cases hy:find ((jan st0 tr).filter fun x=>jas (fun j=>(tab.getD tr.length []).contains j) st0 tr x.1&&jb1 st0 tr x.1) x with
   |none=>rw[hy]at hf;cases hf
   |some y =>
    rw[hy]at hf;cases hf;rw[jfx (p:=fun x=>jas (fun j=>(tab.getD tr.length []).contains j) st0 tr x&&jb1 st0 tr x)]at hy;split at hy
    ·rename_i hp;simp only[zk]at hp;exact⟨rfl,(keys h.gt h.base x y hy).1,hp.1,hp.2⟩
    ·cases hy
  have hh:HRel U B (jfP (tab.getD tr.length []) st0 tr) (jab st0 tr) w:=by
   refine⟨fun x ob hf=>?_,fun x ob x' ob' k hf hf' _ hb=>?_,hinv.heap.glob⟩
   ·obtain⟨rfl,h1,h2,h3⟩:=hfo x ob hf;refine⟨h1,trivial,?_⟩;have e1:later++r::tr=(later++[r])++tr:=by simp
    refine hinv.one x ?_ ?_
    ·simp only[jaY,zk,qz];refine⟨zC h1 (qx h.ok.nx_le h.nx),?_⟩;rw[e1,jjt (by rw[<-e1];exact h.good) h1];exact jfQ (fun j hj=>h.bef j (by simpa using hj)) _ _ h2
    ·rw[e1,jkc (by rw[<-e1];exact h.good) h1];exact h3
   ·obtain⟨rfl,_⟩:=hfo x ob hf;cases hb
  have hrun:=jek hh hreads hs ob';unfold jv;rw[hrun.1];refine hK U _ _ B (jjA h hinv (by rw[e];exact(by decide:(0:Nat)≠2)) (by rw[e]) (by rw[e]) ?_);have:=jnq hk;have e2:r.nx=jab st0 tr:=by rw[e]
  rw[e2];exact this
 |load g hp hl x xo hx hf hb hst ob hs ob' hk e =>
  rw[jds h.slots h.tabok h.closed h.out h.ok.op h.bef hinv g];left;have hxl:=(keys h.gt h.base x xo hf).1;have hin:=jvJ h.low h.base h.bef h.gt hf hb hst;have htl:=(jqJ h.ok.op hl hp hx hf (by rw[e]) h.low h.tabok h.closed h.out hxl hin h.good).1;have hok:=hinv.heap.ok x xo htl
  have hh:HRel U B [(x,xo)] (jab st0 tr) w:=by
   refine⟨fun y oy hy=>?_,fun y oy y' oy' k hy hy' hne hby=>?_,hinv.heap.glob⟩
   ·simp only[find]at hy;split at hy
    ·rename_i e1;subst e1;cases hy;exact⟨hxl,(keys h.gt h.base x xo hf).2,hok.2.2⟩
    ·cases hy
   ·simp only[find]at hy hy';split at hy
    ·rename_i e1;subst e1;rw[if_neg hne]at hy';cases hy'
    ·cases hy
  have hrun:=jek hh hreads hs ob';unfold jv;rw[hrun.1];refine hK U _ _ B (jjA h hinv (by rw[e];exact(by decide:(0:Nat)≠2)) (by rw[e]) (by rw[e]) ?_);have:=jnq hk;have e2:r.nx=jab st0 tr:=by rw[e]
  rw[e2];exact this
 |mono g hp hnl hm res hs ob hk hnk e =>
  have hno:=jvK h hp hnl;rw[jds h.slots h.tabok h.closed h.out h.ok.op h.bef hinv g];left;have hsnd:=jb8 hsp (jsD h hinv hno) hinv.le hreads hs ob;rw[hm]at hsnd;refine hsnd K Q fun U' w' hl=>?_;have ev:r.v=res.v:=by rw[e]
  have en:r.nw=jaZ (jab st0 tr) res.hp:=by rw[e]
  have ex:r.nx=res.nx:=by rw[e]
  have hsub:∀x ob,find r.nw x=some ob->find res.hp x=some ob∧jab st0 tr<=x:=fun x ob hf=>by
   rw[en,jhD]at hf;split at hf
   ·rename_i hle;exact⟨hf,by simpa [xd]using hle⟩
   ·cases hf
  obtain⟨B2,g,hhB⟩:=hl.heap
  have:=jsB h hinv hno (by rw[e];exact(by decide:(1:Nat)≠2)) (by rw[ev,ex];exact jnq hk) (fun x ob hf=>by rw[ex];rw[en]at hf;exact(jgq hk hf).2) hl.agree hl.below (hl.mono rfl) g
   (by rw[ex];exact hhB.sub fun k o hf=>(hsub k o hf).1) (fun x ob k hf hb=>hl.fresh rfl x ob k (hsub x ob hf).2 (hsub x ob hf).1 hb)
  have e3:res.v.val U'=r.v.val (jb4 U U' (jab st0 tr) r.nx):=by
   rw[ev];exact(V.val_agree (jd5 hl.agree) (by rw[ex];exact hl.lt)).symm
  rw[e3];exact hK _ _ _ _ this
 |mload g hp hnl hmk hal hm res hs ob hk e =>
  have hno:=jBE h hmk;rw[jds h.slots h.tabok h.closed h.out h.ok.op h.bef hinv g];left;have hsnd:=jb8 hsp (jsD h hinv hno) hinv.le hreads hs ob;rw[hm]at hsnd;refine hsnd K Q fun U' w' hl=>?_;have ev:r.v=res.v:=by rw[e]
  have en:r.nw=jaZ (jab st0 tr) res.hp:=by rw[e]
  have ex:r.nx=res.nx:=by rw[e]
  have hsub:∀x ob,find r.nw x=some ob->find res.hp x=some ob∧jab st0 tr<=x:=fun x ob hf=>by
   rw[en,jhD]at hf;split at hf
   ·rename_i hle;exact⟨hf,by simpa [xd]using hle⟩
   ·cases hf
  obtain⟨B2,g,hhB⟩:=hl.heap
  have:=jsB h hinv hno (by rw[e];exact(by decide:(1:Nat)≠2)) (by rw[ev,ex];exact jnq hk) (fun x ob hf=>by rw[ex];rw[en]at hf;exact(jgq hk hf).2) hl.agree hl.below (hl.mono rfl) g
   (by rw[ex];exact hhB.sub fun k o hf=>(hsub k o hf).1) (fun x ob k hf hb=>hl.fresh rfl x ob k (hsub x ob hf).2 (hsub x ob hf).1 hb)
  have e3:res.v.val U'=r.v.val (jb4 U U' (jab st0 tr) r.nx):=by
   rw[ev];exact(V.val_agree (jd5 hl.agree) (by rw[ex];exact hl.lt)).symm
  rw[e3];exact hK _ _ _ _ this
 |effect g hp hnl hmo mk hf res hs ob hk hmk e =>
  rw[jds h.slots h.tabok h.closed h.out h.ok.op h.bef hinv g];left;have ev:r.v=res.v:=by rw[e]
  have eh:r.hp=res.hp:=by rw[e]
  have ex:r.nx=res.nx:=by rw[e]
  have ekd:r.kd=2:=by rw[e]
  cases mk with
  |false =>
   have hsnd:=jb8 hsp (jyg h ekd hinv hp hnl hf) hinv.le hreads hs ob;refine hsnd K Q fun U' w' hl=>?_;obtain⟨B2,g0,hhB⟩:=hl.heap;have g:=g0.weak (w1:=w);have:=jwp h hinv ekd hp hnl hf (by rw[ev,ex];exact jnq hk) (fun x ob hf=>by rw[ex];rw[eh]at hf;exact(jgq hk hf).2) hl.agree hl.below g (by rw[ex,eh];exact hhB)
   have e3:res.v.val U'=r.v.val (jb4 U U' (jab st0 tr) r.nx):=by
    rw[ev];exact(V.val_agree (jd5 hl.agree) (by rw[ex];exact hl.lt)).symm
   rw[e3];exact hK _ _ _ _ this
  |true =>
   have hnw:∀x ob,find r.hp x=some ob->x<r.nx∧ob.allB (fun x=>qh x r.nx&&(qn (jab st0 tr) x||jas (fun j=>(tab.getD tr.length []).contains j) st0 tr x))=true:=fun x ob hf=>by rw[ex];rw[eh]at hf;exact jgq hk hf
   have hdep:∀x ob,find r.hp x=some ob->jjq ob=true->find (jan st0 tr) x=some ob∧ob.isT=false:=fun x ob hf hd=>by
    have hmk:jpS (jan st0 tr) (jab st0 tr) (jbK L tab st0 o tr) res.hp=true:=hmk;unfold jpS at hmk;split at hmk
    ·cases hmk
    ·rename_i t ht;have htg:r.tg=some t:=by rw[e];exact ht
     rw[eh]at hf;have h1:=zq.1 hmk _ (jk4 hf);simp only[hd,kz,kA,zk,qz]at h1;obtain⟨⟨h2,h3⟩,h4⟩:=h1;split at h4
     ·rename_i ob' hob;have hne:x≠t:=fun e=>by subst e;simp at h2
      have h5:=(jnr h.ok ekd htg).1 x ob' hne h3 (by cases ob' <;> first|rfl|cases h4) hob;rw[eh,hf]at h5;cases h5;exact⟨hob,by cases ob<;>first|rfl|cases h4⟩
     ·cases h4
   have hpl:=jzO h hinv ekd hp hnl hf (fun x ob hf=>(hnw x ob hf).1);have hsnd:=jb8 hsp hpl.1 hpl.2 hreads hs ob;refine hsnd K Q fun U' w' hl=>?_;obtain⟨B2,g0,hhB⟩:=hl.heap;have g:=g0.weak (w1:=w);obtain⟨B4,this⟩:=juy h hinv ekd hp hnl hf (by rw[ev,ex];exact jnq hk) hnw hdep hl.agree hl.below g (by rw[ex,eh];exact hhB)
   have e3:res.v.val U'=r.v.val (jb4 U U' (jab st0 tr) r.nx):=by
    rw[ev];exact(V.val_agree (jd5 hl.agree) (by rw[ex];exact hl.lt)).symm
   rw[e3];exact hK _ _ _ _ this
def DL (l:Array Bool) (j:Nat):Bool:=l.getD j false
def jwq {l:Array Bool} {i:Nat} (hc:jcJ L (DL l)) (hb:∀o,L[i]?=some o->∀e∈o.after.toList,yK .any e=true->DL l e.on=true):jcJ L (DL (l.setIfInBounds i true)):=by
 intro j o ho hD e he hbd
 by_cases hij:j=i
 ·subst hij;exact getD_set_true (hb o ho e he hbd)
 ·unfold DL at hD;rw[gx false (Ne.symm hij)]at hD;exact getD_set_true (hc j o ho hD e he hbd)
def joF {l:Array Bool} (hl:l.size=L.length) (he:jdB 0 L=true) (hr:yi .any L.toArray l=[]):∀j,j<L.length->DL l j=true:=by
 intro j
 induction j using hZ with
 |_ j ih =>
  intro hj;cases hD:DL l j with
  |true=>rfl
  |false =>
   exfalso
   have hmem:j∈yi .any L.toArray l:=by
    rw[fg];refine⟨?_,L[j],by simp[hj],fun e hem hb=>?_⟩
    ·unfold DL at hD;simp only[qS,qE (show j<l.size by omega),zU]at hD ⊢;exact hD
    ·have:=jju he j L[j] (by simp[hj]) e (by simpa using hem) hb;exact ih e.on (by omega) (by omega)
   rw[hr]at hmem;cases hmem
def count_set {l:Array Bool} {i:Nat} (hi:i<l.size) (h:l[i]=false):(l.setIfInBounds i true).toList.count false+1=l.toList.count false:=by
 have h1:(l.setIfInBounds i true).toList=l.toList.set i true:=by simp
 rw[h1,List.count_set (by simpa using hi)];have h2:l.toList[i]'(by simpa using hi)=false:=by simpa using h
 have h3:0<l.toList.count false:=ft.2 (by rw[<-h2];exact List.getElem_mem _);rw[show l.toList[i]'(by simpa using hi)=false from h2];simp only[beq_self_eq_true,if_true,show(true==false)=false from rfl,qN,if_false];omega
def jB5 (hsp:jac P sp) {T:List Rec} (hg:GoodTr P sp N L tab st0 T) (hlen:T.length=L.length) (hs:jcq L tab 0 L=true) (he:jdB 0 L=true) (ht:jcS L tab) (hbase:jk1 st0)
  (hbt:∀t v,jaE st0.tm t=some v->v.lt st0.nx) (hn0:n0<=st0.nx) {Q:jP->Act->zx->Prop}
  (hQ:∀D U a w B,(∀j,j<L.length->D j=true)->Inv ds L st0 B0 B N n0 U0 w0 T D a w U->Q .normal a w) :
  ∀(fuel:Nat) (l:Array Bool) (a:Act) (w:zx) (U:Env) (B:Kd),l.size=L.length->jcJ L (DL l)->l.toList.count false<=fuel->Inv ds L st0 B0 B N n0 U0 w0 T (DL l) a w U->gR P .any L.toArray Q fuel l a w:=by
 intro fuel
 induction fuel with
 |zero =>
  intro l a w U B hl hc hcount hinv
  have hall:∀j,j<l.size->l[j]?≠some false:=fun j hj h=>by
   have hm:false∈l.toList:=by rw[Array.mem_toList_iff];exact Array.mem_of_getElem? h
   have:=ft.2 hm;omega
  have hr:yi .any L.toArray l=[]:=by
   apply List.eq_nil_iff_forall_not_mem.2;intro j hj;obtain⟨h0,o,ho,_⟩:=fg.1 hj
   have hlt:j<l.size:=by
    have:=(zA.1 ho).1;simp at this;omega
   apply hall j hlt;simp only[qS,qE hlt,zU]at h0;rw[qE hlt,h0]
  exact⟨hr,hQ _ U a w B (joF hl he hr) hinv⟩
 |succ fuel ih =>
  intro l a w U B hl hc hcount hinv;refine⟨fun hr=>hQ _ U a w B (joF hl he hr) hinv,fun i hi=>?_⟩;obtain⟨h0,o,ho,hed⟩:=fg.1 hi;have ho':L[i]?=some o:=by simpa using ho
  have hiL:i<L.length:=(zB.1 ho').1;have hil:i<l.size:=by omega
  have hlf:l[i]=false:=by simpa [hil]using h0
  have hedge:∀o',L[i]?=some o'->∀e∈o'.after.toList,yK .any e=true->DL l e.on=true:=fun o' ho'' e hem hb=>by
   rw[ho']at ho'';cases ho'';exact hed e (by simpa using hem) hb
  obtain⟨later,r,tr,o2,rfl,htl,hrec⟩:=jBC hg (show i<T.length by omega);subst htl
  have hoo:o2=o:=by
   have:=hrec.op;rw[ho']at this;exact(xT this).symm
  subst hoo
  have hat:At (n0:=n0) P sp N L tab st0 (DL l) (DL (l.setIfInBounds tr.length true)) later r tr o2:=by
   refine⟨hg,hlen,hrec,hs,he,ht,hc,?_,fun j hj=>jcT ht hc _ j hedge hj,?_,fun j hj=>?_,hbase,hbt,hn0⟩
   ·unfold DL;simp[hil,hlf]
   ·unfold DL;simp[hil]
   ·unfold DL;exact gx false (Ne.symm hj)
  refine jB4 hsp hat hinv fun U' a' w' B2 hinv'=>?_;have:=count_set hil hlf;exact ih _ a' w' U' B2 (by simpa using hl) (jwq hc hedge) (by omega) hinv'
end
end Go.Sx
end

section
open Go.RowKit
namespace Go.Sx
section
variable [Globs] {P:zy} {sp:jaa} {B:Kd} {N n0:Nat} {L:List zX} {tab:List (List Nat)} {st0:St} {U0:Env} {w0:zx} {ds:List x7}
def jsE {D:Nat->Bool} {t:Nat}:∀{T:List Rec},(∀j,j<T.length->D j=true)->jbF L D st0 t T=jaE (jd4 L st0 T) t
 |[],_=>rfl
 |r::tr,h=>by
  have ih:=jsE (D:=D) (t:=t) (T:=tr) (fun j hj=>h j (by simp;omega));simp only[jbF,jd4];rw[h tr.length (by simp)];cases hd:jbT L tr.length with
  |none=>simp[ih]
  |some d =>
   simp only[jaE]
   by_cases e:d=t
   ·simp[e]
   ·simp[e,ih]
def jzP {D:Nat->Bool} {T:List Rec} (hg:GoodTr P sp N L tab st0 T):(∀j,j<T.length->D j=true)->jao D st0 T=jan st0 T:=by
 induction hg with
 |nil=>exact fun _=>rfl
 | @cons tr r hgt o hr ih =>
  intro h;have ih:=ih (fun j hj=>h j (by simp;omega));simp only[jao]
  show _=r.hp
  rw[if_pos (h tr.length (by simp))]
  by_cases hk:r.kd=2
  ·rw[if_pos hk]
  ·rw[if_neg hk,ih,(jb3 hr hk).1]
def jqM (hm:P.follows .mixedOrders=true) (hsp:jac P sp) {ops:Array zX} {st:St} {k:St->Prop} {U:Env} {a:Act} {w:zx} {Q:jP->Act->zx->Prop} (hd:jkX P sp N ops st k) (hr:RelD ds U B N n0 st a w) (hag:jae n0 U0 U) (hbl:Bel B w0 w)
  (hK:∀(U':Env) (st':St) (a':Act) (w':zx),RelD ds U' B N n0 st' a' w'->jae n0 U0 U'->Bel B w0 w'->k st'->Q .normal a' w') :
  gR P .any ops Q ops.size (xe ops.size false) a { w with drawn:=w.drawn+1 }:=by
 unfold jkX at hd;split at hd
 ·rename_i hok;simp only[zk]at hok;have htab:jcS ops.toList (jgU ops.toList []):=jvH _ _ [] (by simp) (by intro i k hk;simp[za]at hk);obtain⟨T,hk,hg,hlen⟩:=jqG ops.toList [] _ hd .nil (by simp) (by simp);obtain⟨B1,g1,hh1⟩:=hr.heap;have hB1:Old B1 w:=g1.old hr.le;have hbase:jk1 st:=fun x o hf=>⟨(hh1.ok x o hf).1,(hh1.ok x o hf).2.1⟩
  have hbt:∀t v,jaE st.tm t=some v->v.lt st.nx:=fun t v h=>(hr.tm t v h).1;have hnx:=jmc hg
  have hal:∀x,x<st.nx->jaY st T (DL (xe ops.size false)) x=true:=fun x hx=>by
   simp only[jaY,zk,qz];exact⟨zC hx hnx,jqH hx hg⟩
  have hF:∀j,DL (xe ops.size false) j=false:=fun j=>by
   unfold DL;simp only[qS,Array.getElem?_replicate];split<;>rfl
  have hslot:∀t (T:List Rec),jbF ops.toList (DL (xe ops.size false)) st t T=jaE st.tm t:=fun t T=>by
   induction T with
   |nil=>rfl
   |cons r tr ih=>simp only[jbF,hF];simpa using ih
  have hheap:∀(T:List Rec),jao (DL (xe ops.size false)) st T=st.hp:=fun T=>by
   induction T with
   |nil=>rfl
   |cons r tr ih=>simp only[jao,hF];simpa using ih
  have hbw:Below w.heap.size w { w with drawn:=w.drawn+1 }:=⟨rfl,rfl,rfl,zu _,fun _ _=>rfl⟩
  have hinv:Inv ds ops.toList st B B1 N n0 U0 w0 T (DL (xe ops.size false)) a { w with drawn:=w.drawn+1 } U:=by
   refine⟨fun t v hv=>?_,hr.size,hr.defers,?_,fun x o hf=>?_,hB1,hag,⟨hbl.os,hbl.tape,hbl.output,hbl.size,hbl.block⟩,fun x=>?_,g1.later (zu _),hr.le⟩
   ·rw[hslot]at hv;exact⟨V.allB_of_lt hal (hr.tm t v hv).1,(hr.tm t v hv).2⟩
   ·rw[hheap];exact(hh1.below hbw hB1).mono_nx hnx
   ·rw[hheap]at hf;exact⟨hal x (hbase x o hf).1,O.allB_of_lt hal (hbase x o hf).2⟩
   ·have hfb:∀(T:List Rec),GoodTr P sp N ops.toList (jgU ops.toList []) st T->x<jab st T->jas (DL (xe ops.size false)) st T x=true->x<st.nx:=fun T hg=>by
     induction hg with
     |nil=>exact fun h _=>h
     | @cons tr r h' o hr ih =>
      intro hlt hb;simp only[jas]at hb;split at hb
      ·rw[hF]at hb;cases hb
      ·rename_i hb';exact ih (Nat.lt_of_not_le fun hc=>by rw[xH hc]at hb';cases hb') hb
    intro hx hb;simp only[jaY,zk,qz]at hx;have hlt:=hfb T hg hx.1 hx.2;rw[jkY hlt hg]at hb;exact C.one_val (c:=.o x) hh1 hb
  have:=jB5 (Q:=Q) (n0:=n0) (B0:=B) (U0:=U0) (w0:=w0) hsp hg hlen hok.1 hok.2 htab hbase hbt hr.n0 (fun D U' a' w' B2 hall hi=>?_) ops.size (xe ops.size false) a _ U B1 (by simp) (fun j o _ hD=>by rw[hF]at hD;cases hD) (by simp) hinv
  ·simpa using this
  ·have hall':∀j,j<T.length->D j=true:=fun j hj=>hall j (by omega);refine hK U' (jA9 ops.toList st T) a' w' ⟨fun t v hv=>?_,hi.size,hi.defers,?_,hi.le0,qx hr.n0 hnx⟩ hi.agree hi.below hk
   ·have h1:=hi.tm t v (by rw[jsE hall'];exact hv);refine⟨V.lt_of_allB (fun x hx=>?_) h1.1,h1.2⟩;simp only[jaY,zk,qz]at hx;exact hx.1
   ·have:=hi.heap;rw[jzP hg hall']at this;exact⟨B2,hi.gr,this⟩
 ·exact hd.elim
end
end Go.Sx
end

section
open Go.RowKit
namespace Go.Sx
def jwr [Globs] (t:Nat):Option zH->Option zH->Bool
 |some _,none=>Globs.cutT t
 |_,_=>false
def jsF [Globs] (P:zy) (op:Op) (rd:zH->Option V) (hp:Hp) (nx:Nat):Option Res :=
 match op with
 | .move x=>(rd x).map fun v=>⟨True,v,hp,nx⟩
 | .slice t x lo hi none=>match jwr t lo hi with
  |true=>jdf P (.slice t x lo hi none) rd hp nx
  |false=>match P.underlying t,rd x,jaM rd lo,jaM rd hi with
   |some (.slice elem),some (.w (.c (.o h))),some l,some m=>match find hp h,szT P elem with
    |some ob,some (e+1)=>match ob.cont with
     |some c=>match zt c.e (e+1)with
      |true=>some ⟨0<=l.getD 0∧l.getD 0<=m.getD (c.n:Int)∧m.getD (c.n:Int)<=(c.n:Int),.w (.c (.o nx)),(nx,jhS h ob (c.sub (l.getD 0).toNat (m.getD (c.n:Int)).toNat))::hp,nx+1⟩
      |false=>none
     |none=>none
    |_,_=>none
   |_,_,_,_=>none
 |_=>none
def jyh:Op->Bool
 | .slice _ _ _ _ none=>true
 |_=>false
def jyi:Op->Bool
 | .store _ _ _=>true
 |_=>false
def jB6 (L:List zX) (tab:List (List Nat)) (j:Nat):Bool :=
 match L[j]? with
 |some o=>jyh o.op&&(zG L.length).any fun i=>match L[i]? with
  |some s=>jyi s.op && !((tab.getD i []).contains j) && !((tab.getD j []).contains i)
  |none=>false
 |none=>false
def jsG (L:List zX):List Nat :=
 let tab:=jgU L []
 let bad:=(zG L.length).filter (jB6 L tab)
 (zG L.length).filter fun i=>bad.contains i||bad.any fun j=>(tab.getD j []).contains i
def jfR (o:zX) (t:Nat):zX:={ o with op:=.move (.tmp t) }
def jcK (ops:Array zX) (i t:Nat) (o:zX):Array zX:=ops.setIfInBounds i (jfR o t)
def joG (ops:Array zX) (listed:Array Bool) (i:Nat):Bool :=
 f9 ops&&kL .any ops listed i&&(yi .any ops listed).contains i
def joH [Globs] (P:zy) (sp:jaa) (N:Nat) (ops:Array zX):List Nat->Array Bool->Array zX->St->(St->Prop)->Prop
 |[],_,ops',st,k=>jkX P sp N ops' st k
 |i::F,listed,ops',st,k=>match ops[i]?,joG ops listed i with
  |some o,true=>match o.guard,o.dst with
   |none,some t=>match jsF P o.op (jbC st) st.hp st.nx,qh t N with
    |some r,true=>Ob r.ob∧joH P sp N ops F (listed.setIfInBounds i true) (jcK ops' i t o) (st.put (some t) r) k
    |_,_=>False
   |_,_=>False
  |_,_=>False
def jca [Globs] (P:zy) (sp:jaa) (N:Nat) (ops:Array zX) (st:St) (k:St->Prop):Prop :=
 match jsG ops.toList with
 |[]=>jkX P sp N ops st k
 |i::F=>match qn (i::F).length ops.size with
  |false=>False
  |true=>joH P sp N ops (i::F) (xe ops.size false) ops st k
section
variable {P:zy} {ops ops':Array zX} {Q:jP->Act->zx->Prop}
def jns {l:Array Bool} (h1:ops'.size=ops.size) (h2:∀j:Nat,(ops'[j]?).map yy=(ops[j]?).map yy):yi .any ops' l=yi .any ops l:=by
 unfold yi;rw[h1];refine List.filter_congr fun i _=>?_;have:=h2 i;cases ha:ops'[i]? <;> cases hb:ops[i]? <;> simp[ha,hb]at this ⊢;rw[this]
def jws (h2:∀j:Nat,(ops'[j]?).map jj=(ops[j]?).map jj) (tmps:Array zF):jd ops' tmps=jd ops tmps:=by
 funext g;unfold jd
 have:(ops'[g]?).bind jj=(ops[g]?).bind jj:=by
  have:=h2 g;cases ha:ops'[g]? <;> cases hb:ops[g]? <;> simp[ha,hb]at this ⊢;exact this
 rw[this]
def joI (h1:ops'.size=ops.size) (h2:∀j:Nat,(ops'[j]?).map yy=(ops[j]?).map yy) (h3:∀j:Nat,(ops'[j]?).map jj=(ops[j]?).map jj) :
  ∀(n:Nat) (l:Array Bool) (a:Act) (w:zx),(∀j:Nat,l.getD j true=false->ops'[j]?=ops[j]?)->gR P .any ops' Q n l a w->gR P .any ops Q n l a w
 |0,l,a,w,_,h=>by
  rw[gR]at h ⊢;rw[jns h1 h2]at h;exact h
 |n+1,l,a,w,hs,h=>by
  rw[gR]at h ⊢;rw[jns h1 h2]at h;refine⟨h.1,fun i hi=>?_⟩;have hk:=h.2 i hi;have hun:=(fg.1 hi).1
  have ih:=fun a w=>joI h1 h2 h3 n (l.setIfInBounds i true) a w (fun j hj=>by
   refine hs j ?_
   by_cases e:i=j
   ·subst e;exact hun
   ·rwa [gx true e]at hj)
  have hk2:=wpOp_mono ih hk;unfold wpOp at hk2 ⊢;rw[hs i hun]at hk2;simp only[jws h3]at hk2;exact hk2
def jzQ {a:Act} {t:Nat}:a.put (some t) (a.tmps.getD t qe)=a:=by
 obtain⟨tmps,d⟩:=a;simp only[yW]
 congr 1
 apply Array.ext
 ·simp
 ·intro i h1 h2;rw[Array.getElem_setIfInBounds];split
  ·rename_i e;subst e;simp[h2]
  ·rfl
def jyj {n i t:Nat} {o:zX} {l:Array Bool} {a:Act} {w:zx} (hi:ops'[i]?=some (jfR o t)) (hg:o.guard=none) (hd:o.dst=some t) (hr:i∈yi .any ops' l)
  (h:gR P .any ops' Q (n+1) l a w):gR P .any ops' Q n (l.setIfInBounds i true) a w:=by
 rw[gR]at h;have hk:=h.2 i hr;unfold wpOp at hk;have hw:xy (jfR o t) (jd ops' a.tmps)=true:=by simp[xy,jfR,hg]
 simp only[hi,hw,if_true]at hk
 have hrun:(qr a.eval (jfR o t)).run P w=.ok (.value (a.tmps.getD t qe)) w:=by
  unfold qr jfR;simp[g6]
 rcases hk with hk|hk
 ·unfold jv at hk;rw[hrun]at hk;simp only[fh]at hk;have hdst:(jfR o t).dst=some t:=hd;rw[hdst,jzQ]at hk;exact hk
 ·have hk:=hk.1.1
  change noRoomEvent∈(#[]:Array Event)at hk
  simp at hk
end
section
variable [Globs] {P:zy} {sp:jaa} {B:Kd} {N n0:Nat} {U:Env} {a:Act} {w:zx} {hp:Hp} {nx:Nat} {rd:zH->Option V} {ds:List x7}
def jyk {o:zX} {r:Res} {t:Nat} (hh:HRel U B hp nx w) (hB:Old B w) (hr:jav U nx rd a) (h:jsF P o.op rd hp nx=some r) (hob:r.ob) (hd:o.dst=some t) (ht:t<a.tmps.size) :
  ∃U' M,Left U B nx w r M U' w∧∀w',(qr a.eval o).run P w'=.ok (.value (r.v.val U')) w':=by
 unfold jsF at h;split at h
 ·rename_i x hop;cases hx:rd x with
  |none=>simp[hx]at h
  |some v =>
   simp only[hx,zQ,zi]at h;subst h;have:=hr x v hx;refine⟨U,true,⟨jae.refl _ _,this.1,zu _,hh.gr,Bel.refl _ _,fun _=>qO _ _,fun _ h o k hn hf _=>absurd (hh.ok h o hf).1 (by omega)⟩,fun w'=>?_⟩;unfold qr;simp[hop,this.2]
 ·rename_i ty x lo hi hop;split at h
  ·rename_i hcut;cases lo with
   |none=>simp[jwr]at hcut
   |some lo =>
   cases hi with
   |some hi=>simp[jwr]at hcut
   |none =>
   unfold jdf at h;dsimp only at h;split at h
   ·split at h
    ·rename_i elem hh' k l hu hx hl;split at h
     ·rename_i c e hfc hs;split at h
      ·rename_i hce;cases h;cases hf:find hp hh' with
       |none=>simp[hf]at hfc
       |some ob =>
        simp only[hf,zw]at hfc;obtain⟨v,hrun,hl⟩:=jka hh hr hop hu hx hl hf hfc hs (zb hce) hob;exact⟨upd U nx v,false,hl,fun w'=>by rw[hrun w'];show Result.ok (Next.value v) w'=.ok (.value (upd U nx v nx)) w';rw[upd_same]⟩
      ·cases h
     ·cases h
    ·cases h
   ·cases h
  rename_i hcut;split at h
  ·rename_i elem hh' l m hu hx hl hm;split at h
   ·rename_i ob e hf hs;split at h
    ·rename_i c hc;split at h
     ·rename_i hce;cases h;have hce:c.e=e+1:=zb hce;obtain⟨h0,h1,h2⟩:=hob;have hok:=hh.ok hh' ob hf;obtain⟨a2,cap,hv,⟨hcap,_⟩,_⟩:=jaX hok.2.2 hc;obtain⟨k1,hlv⟩:=jem hr hl;obtain⟨k2,hmv⟩:=jem hr hm;have hxv:a.eval x=.slice a2 c.n cap:=by rw[(hr _ _ hx).2];exact hv
      have hrun:∀w',(qr a.eval o).run P w'=.ok (.value (.slice (if cap=(l.getD 0).toNat then a2 else a2.map (·.add ((l.getD 0).toNat*c.e))) ((m.getD (c.n:Int)).toNat-(l.getD 0).toNat) (cap-(l.getD 0).toNat))) w':=fun w'=>by
       have hsb:=jcw (P:=P) (w:=w') (len:=c.n) (cap:=cap) (l:=l) (m:=m) (k:=k1) (k':=k2) h0 h1 h2 hcap;unfold qr;simp only[hop,hxv,hlv,hmv,Option.map_none,Instr.sliceAt,Instr.slice,zn,run_underlying hu,zh,hsb,jaD w' hs,zp];simp[hce]
      have hS:=jgN (P:=P) hh hB hr hop hu hx hl hm hf hs hc hce ⟨h0,h1,h2⟩ ⟨0<=l.getD 0∧l.getD 0<=m.getD (c.n:Int)∧m.getD (c.n:Int)<=(c.n:Int),.w (.c (.o nx)),(nx,jhS hh' ob (c.sub (l.getD 0).toNat (m.getD (c.n:Int)).toNat))::hp,nx+1⟩ rfl rfl rfl
       (fun a' w'=>∃U',Left U B nx w ⟨0<=l.getD 0∧l.getD 0<=m.getD (c.n:Int)∧m.getD (c.n:Int)<=(c.n:Int),.w (.c (.o nx)),(nx,jhS hh' ob (c.sub (l.getD 0).toNat (m.getD (c.n:Int)).toNat))::hp,nx+1⟩ true U' w'∧a'=a.put o.dst (U' nx)) (fun _ _ _=>False) (fun U' w' hl'=>⟨U',hl',rfl⟩)
      unfold jv at hS;rw[hrun w]at hS;simp only[fh]at hS;obtain⟨U',hl',he⟩:=hS;refine⟨U',true,hl',fun w'=>?_⟩;rw[hrun w'];have e2:=congrArg (fun x:Act=>x.tmps.getD t qe) he;rw[hd]at e2;simp only[yW,qS,Array.getElem?_setIfInBounds_self_of_lt ht,zU]at e2;rw[e2];rfl
     ·cases h
    ·cases h
   ·cases h
  ·cases h
 ·cases h
def jwt {ops ops':Array zX} {i t:Nat} {o:zX} (h:∀j:Nat,(ops'[j]?).map yy=(ops[j]?).map yy) (hi:ops[i]?=some o) (j:Nat):((jcK ops' i t o)[j]?).map yy=(ops[j]?).map yy:=by
 unfold jcK;rw[yp];split
 ·rename_i e;subst e;have:=h i;rw[hi]at this ⊢;split
  ·rfl
  ·rename_i hlt;rw[gQ (by omega)]at this;cases this
 ·exact h j
def jzR {ops ops':Array zX} {i t:Nat} {o:zX} (h:∀j:Nat,(ops'[j]?).map jj=(ops[j]?).map jj) (hi:ops[i]?=some o) (j:Nat):((jcK ops' i t o)[j]?).map jj=(ops[j]?).map jj:=by
 unfold jcK;rw[yp];split
 ·rename_i e;subst e;have:=h i;rw[hi]at this ⊢;split
  ·rfl
  ·rename_i hlt;rw[gQ (by omega)]at this;cases this
 ·exact h j
inductive Taken (ops:Array zX):Array Bool->Array zX->Nat->Prop where
 |nil:Taken ops (xe ops.size false) ops 0
 |cons {l:Array Bool} {ops':Array zX} {n i t:Nat} {o:zX}:Taken ops l ops' n->ops[i]?=some o->joG ops l i=true->o.guard=none->o.dst=some t ->
   Taken ops (l.setIfInBounds i true) (jcK ops' i t o) (n+1)
def jgr {ops:Array zX} {l:Array Bool} {i:Nat} (h:joG ops l i=true):f9 ops=true∧kL .any ops l i=true∧i∈yi .any ops l:=by
 simp only[joG,zk]at h;exact⟨h.1.1,h.1.2,by simpa using h.2⟩
def Taken.facts {ops:Array zX} {l:Array Bool} {ops':Array zX} {n:Nat} (h:Taken ops l ops' n) :
  ops'.size=ops.size∧(∀j:Nat,(ops'[j]?).map yy=(ops[j]?).map yy)∧(∀j:Nat,(ops'[j]?).map jj=(ops[j]?).map jj) ∧
   (∀j:Nat,l.getD j true=false->ops'[j]?=ops[j]?)∧l.size=ops.size:=by
 induction h with
 |nil=>exact⟨rfl,fun _=>rfl,fun _=>rfl,fun _ _=>rfl,by simp⟩
 | @cons l ops' n i t o h hi ht hg hd ih =>
  obtain⟨h1,h2,h3,h4,h5⟩:=ih;refine⟨by simp[jcK,h1],jwt h2 hi,jzR h3 hi,fun j hj=>?_,by simp[h5]⟩
  by_cases e:i=j
  ·subst e;have hlt:i<l.size:=by rw[h5];exact(zA.1 hi).1
   simp[hlt]at hj
  ·rw[gx true e]at hj;unfold jcK;rw[yO e];exact h4 j hj
def Taken.idle {ops:Array zX} {Q:jP->Act->zx->Prop} {a:Act} {w:zx} {l:Array Bool} {ops':Array zX} {n:Nat} (h:Taken ops l ops' n) :
  ∀(opsF:Array zX) (m:Nat),opsF.size=ops.size->(∀j:Nat,(opsF[j]?).map yy=(ops[j]?).map yy)->(∀j:Nat,l.getD j true=true->opsF[j]?=ops'[j]?) ->
   gR P .any opsF Q (m+n) (xe ops.size false) a w->gR P .any opsF Q m l a w:=by
 induction h with
 |nil=>exact fun _ _ _ _ _ h=>h
 | @cons l ops' n i t o h hi ht hg hd ih =>
  intro opsF m h1 h2 h3 hw;obtain⟨f1,f2,f3,f4,f5⟩:=h.facts;have hlt:i<ops.size:=(zA.1 hi).1
  have hself:opsF[i]?=some (jfR o t):=by
   rw[h3 i (by simp[hlt,f5])];unfold jcK;simp[f1,hlt]
  refine jyj hself hg hd ?_ (ih opsF (m+1) h1 h2 (fun j hj=>?_) (by rwa [Nat.add_assoc,Nat.add_comm 1 n]))
  ·rw[jns h1 h2];exact(jgr ht).2.2
  ·by_cases e:i=j
   ·subst e;have:=(fg.1 (jgr ht).2.2).1;rw[this]at hj;cases hj
   ·rw[h3 j (by rw[gx true e];exact hj)];unfold jcK;rw[yO e]
variable {w0:zx} {U0:Env} in
def jsH (hm:P.follows .mixedOrders=true) (hsp:jac P sp) {ops:Array zX} {k:St->Prop} {Q:jP->Act->zx->Prop} (hQ:∀c a w,¬Q (.panic c) a w)
  (hK:∀(U':Env) (st':St) (a':Act) (w':zx),RelD ds U' B N n0 st' a' w'->jae n0 U0 U'->Bel B w0 w'->k st'->Q .normal a' w') :
  ∀(F:List Nat) (l:Array Bool) (ops':Array zX) (n m:Nat) (st:St) (U:Env) (a:Act) (w:zx),joH P sp N ops F l ops' st k->Taken ops l ops' n->m+n=ops.size->F.length<=m->RelD ds U B N n0 st a w->jae n0 U0 U->Bel B w0 w ->
   gR P .any ops Q m l a { w with drawn:=w.drawn+1 }
 |[],l,ops',n,m,st,U,a,w,h,ht,hn,_,hr,hag,hbl=>by
  unfold joH at h;obtain⟨f1,f2,f3,f4,f5⟩:=ht.facts;have h1:=jqM (Q:=Q) hm hsp h hr hag hbl hK;rw[f1,<-hn]at h1;have h2:=ht.idle (Q:=Q) ops' m f1 f2 (fun _ _=>rfl) (by rw[<-hn];exact h1);exact joI f1 f2 f3 m l a _ f4 h2
 |i::F,l,ops',n,m,st,U,a,w,h,ht,hn,hF,hr,hag,hbl=>by
  unfold joH at h;split at h
  ·rename_i o hi htb;split at h
   ·rename_i t hg hd;split at h
    ·rename_i r hr2 hlt;obtain⟨B1,g1,hh1⟩:=hr.heap;obtain⟨U',M,hl,hrun⟩:=jyk hh1 (g1.old hr.le) hr.reads hr2 h.1.h hd (by rw[hr.size];simpa [qz]using hlt);have hput:=hr.put1 g1 (o:=o) (by rw[hd];simpa [jb0]using hlt) hl;rw[hd]at hput;obtain⟨m',rfl⟩:∃m',m=m' + 1:=⟨m-1,by simp at hF;omega⟩
     have ih:=jsH hm hsp hQ hK F (l.setIfInBounds i true) (jcK ops' i t o) (n+1) m' (st.put (some t) r) U' _ w h.2 (ht.cons hi htb hg hd) (by omega) (by simpa using hF) hput (hag.trans hl.agree hr.n0) hbl;obtain⟨t1,t2,t3⟩:=jgr htb;refine wpAny_take (v:=r.v.val U') hi t1 t2 (by simpa using t3) (fun c a w hq=>absurd hq (hQ c _ w)) (.inl ⟨by simp[xy,hg],hrun⟩) ?_;rw[hd];exact ih
    ·exact h.elim
   ·exact h.elim
  ·exact h.elim
def jwu {w0:zx} {U0:Env} (hm:P.follows .mixedOrders=true) (hsp:jac P sp) {ops:Array zX} {st:St} {k:St->Prop} {U:Env} {a:Act} {w:zx} {Q:jP->Act->zx->Prop} (hQ:∀c a w,¬Q (.panic c) a w) (hd:jca P sp N ops st k) (hr:RelD ds U B N n0 st a w) (hag:jae n0 U0 U) (hbl:Bel B w0 w)
  (hK:∀(U':Env) (st':St) (a':Act) (w':zx),RelD ds U' B N n0 st' a' w'->jae n0 U0 U'->Bel B w0 w'->k st'->Q .normal a' w') :
  gR P .any ops Q ops.size (xe ops.size false) a { w with drawn:=w.drawn+1 }:=by
 unfold jca at hd;split at hd
 ·exact jqM hm hsp hd hr hag hbl hK
 ·rename_i i F _;split at hd
  ·exact hd.elim
  ·rename_i hle;exact jsH hm hsp hQ hK (i::F) _ ops 0 ops.size st U a w hd .nil rfl (Nat.le_of_ble_eq_true hle) hr hag hbl
def jbG {w0:zx} {U0:Env} (hm:P.follows .mixedOrders=true) (hsp:jac P sp):jeo P B N n0 U0 w0 (jca P sp N):=by
 intro ds id ops st k U a w Q hd hr hag hbl hK;have h1:=wp_region_any (id:=id) hm (jwu (Q:=fun e a w=>match e with | .normal=>Q .normal a w|_=>False) hm hsp (fun _ _ _ h=>h) hd hr hag hbl hK);refine xG h1 ?_;intro e a w h;cases e<;>first|exact h|exact h.elim
end
end Go.Sx
end

section
open Go.RowKit
namespace Go.Sx
inductive A where
 |d (x:D)
 |s (l:List D)
 |r (c:Cont)
 |f (n:Nat)
inductive RV where
 |d (x:D)
 |s (l:List D)
 |row (ty:Nat) (c:Cont)
def toA (hp:Hp):V->Option A
 | .w (.c (.d x))=>some (.d x)
 | .w (.a l)=>(jbA l).map .s
 | .w (.c (.fn n []))=>some (.f n)
 | .w (.c (.o h))=>match(find hp h).bind O.cont with
  |some c=>match c.e with
   |0=>none
   |_+1=>some (.r c)
  |none=>none
 |_=>none
def jhY (hp:Hp):List V->Option (List A)
 |[]=>some []
 |v::l=>match toA hp v,jhY hp l with
  |some a,some r=>some (a::r)
  |_,_=>none
def jjB (n:Nat):A->V
 | .d x=>.w (.c (.d x))
 | .s l=>.w (.a (l.map C.d))
 | .r _=>.w (.c (.o n))
 | .f g=>.w (.c (.fn g []))
def jdC:Nat->List A->List V
 |_,[]=>[]
 |n,a::l=>jjB n a::jdC (n+1) l
def jgs:Nat->List A->Hp
 |_,[]=>[]
 |n,.r c::l=>(n,.ext c)::jgs (n+1) l
 |n,_::l=>jgs (n+1) l
def rvW:Nat->List RV->List W
 |_,[]=>[]
 |n,.d x::l=>.c (.d x)::rvW n l
 |n,.s c::l=>.a (c.map C.d)::rvW n l
 |n,.row _ _::l=>.c (.o n)::rvW (n+1) l
def jhZ:Nat->List RV->Hp->Hp
 |_,[],hp=>hp
 |n,.row ty c::l,hp=>jhZ (n+1) l ((n,.row ty c)::hp)
 |n,.d _::l,hp=>jhZ n l hp
 |n,.s _::l,hp=>jhZ n l hp
def jeB:Nat->List RV->Nat
 |n,[]=>n
 |n,.row _ _::l=>jeB (n+1) l
 |n,.d _::l=>jeB n l
 |n,.s _::l=>jeB n l
def jrQ (g:List A->Option (Prop × List RV)):Spec:=fun vs hp nx =>
 match jhY hp vs with
 |some asq=>match g asq with
  |some (ob,rs)=>some (.leaf ⟨ob,ja0 (rvW nx rs),jhZ nx rs hp,jeB nx rs⟩)
  |none=>none
 |none=>none
def jsI:List D->List D->Prop->Prop
 |[],[],k=>k
 |x::l,y::m,k=>mD y x∧jsI l m k
 |_,_,_=>False
def jmR [Globs] {k:Prop}:∀{l m:List D},jsI l m k->l=m∧k
 |[],[],h=>⟨rfl,h⟩
 |x::l,y::m,h=>by
  have:=jmR h.2;exact⟨by rw[jmb h.1,this.1],this.2⟩
 |[],_::_,h=>h.elim
 |_::_,[],h=>h.elim
def jeC (hp:Hp):List RV->List W->List Nat->Prop
 |[],[],_=>True
 | .d x::rs,.c (.d y)::ws,us=>mD x y∧jeC hp rs ws us
 | .s l::rs,.a cs::ws,us=>match jbA cs with
  |some ds=>jsI ds l (jeC hp rs ws us)
  |none=>False
 | .row ty c::rs,.c (.o h)::ws,us=>match us.contains h with
  |true=>False
  |false=>match find hp h with
   |some (.row ty' c')=>match zt ty' ty with
    |true=>jdW c c'∧jeC hp rs ws (h::us)
    |false=>False
   |_=>False
 | .row _ c::rs,.c (.d (.v (.slice none 0 0)))::ws,us=>Ob (c.n=0)∧jeC hp rs ws us
 |_,_,_=>False
def jBa (rs:List RV) (v:V) (hp:Hp):Prop:=match v with
 | .w u=>jeC hp rs [u] []
 | .t [_]=>False
 | .t l=>jeC hp rs l []
def jcD {P:zy} {f:Nat} {fn:Func} {body:yb} (hf:P.funcs[f]?=some fn) (hb:fn.body=some body) (hn:(fn.name == "runtime.NumGoroutine")=false) (args:Array zF) (w:zx) :
  (callFunc f args).run P w=.ok (.enter f args) w:=by
 unfold callFunc;simp only[zn,run_program,zh,hf,hn,qN,if_false,hb,Option.isNone_some];rfl
def jaf.sound [Globs] {P:zy} {f:Nat} {fn:Func} {body:yb} {M:Bool} {S:Spec} (h:jaf P f M S) (hf:P.funcs[f]?=some fn) (hb:fn.body=some body) (hn:(fn.name == "runtime.NumGoroutine")=false):RunOK P f M S:=by
 rcases h with h|h
 ·exact h
 ·refine⟨jcD hf hb hn,fun U B w args hp nx t hS hob hlt hh hB=>?_⟩;obtain⟨ob,v,_,_,hrun⟩:=h U B w args hp nx t hS hob hlt hh hB;rw[jcD hf hb hn]at hrun;cases hrun
section
variable [Globs] {P:zy} {sp:jaa} {U:Env} {B:Kd} {nx:Nat} {hp:Hp} {w w':zx}
def jqN (hh:HRel U B hp nx w):∀(vs:List V) (asq:List A) (n:Nat) (U0:Env),jhY hp vs=some asq->(∀i v,vs[i]?=some v->U0 (n+i)=v.val U) ->
  (jdC n asq).map (V.val U0)=vs.map (V.val U)∧asq.length=vs.length∧(∀x∈jdC n asq,V.lt (n+asq.length) x) ∧
   ∀h o,find (jgs n asq) h=some o->n<=h∧h<n+asq.length∧∃c,o=.ext c∧jaJ w (U0 h) c∧jbW (fun k=>k<w.heap.size) (U0 h)
 |[],asq,n,U0,h,_=>by
  simp only[jhY,zi]at h;subst h;exact⟨rfl,rfl,(fun _ h=>by cases h),fun _ _ h=>by cases h⟩
 |v::vs,asq,n,U0,h,hU=>by
  simp only[jhY]at h;split at h
  ·rename_i a r ha hr;cases h;have ih:=jqN hh vs r (n+1) U0 hr (fun i v hv=>by rw[show n+1+i=n+(i+1) by omega];exact hU (i+1) v (by simpa using hv));have h0:=hU 0 v rfl;rw[qY]at h0
   have hv:(jjB n a).val U0=v.val U∧V.lt (n+(r.length+1)) (jjB n a)∧∀c,a=.r c->jaJ w (U0 n) c∧jbW (fun k=>k<w.heap.size) (U0 n):=by
    unfold toA at ha;split at ha
    ·cases ha;exact⟨rfl,trivial,fun _ h=>by cases h⟩
    ·rename_i l;cases hd:jbA l with
     |none=>simp[hd]at ha
     |some ds =>
      simp only[hd,zQ,zi]at ha;subst ha;rw[jcf hd];refine⟨?_,(fun x hx=>?_),fun _ h=>by cases h⟩
      ·simp[jjB,V.val,W.val,C.val,xq]
      ·obtain⟨y,_,rfl⟩:=qu.1 hx;trivial
    ·cases ha;exact⟨rfl,(fun _ h=>by cases h),fun _ h=>by cases h⟩
    ·rename_i k;split at ha
     ·rename_i c hc;split at ha
      ·cases ha
      ·rename_i e he;cases ha;cases hf:find hp k with
       |none=>simp[hf]at hc
       |some o =>
        simp only[hf,zw]at hc;have hrow:=jaX (hh.ok k o hf).2.2 hc;have e0:U0 n=U k:=h0;refine⟨e0,(show n<n+(r.length+1) by omega),fun c' hc'=>?_⟩;cases hc';rw[e0];exact⟨hrow,jaJ.lt hrow (by omega)⟩
     ·cases ha
    ·cases ha
   have hag:∀x,V.lt (n+1+r.length) x->V.lt (n+(r.length+1)) x:=fun x hx=>V.lt_mono (by omega) hx;refine⟨by simp only[jdC,zM,hv.1,ih.1],by simp[ih.2.1],fun x hx=>?_,fun h o hf=>?_⟩
   ·rcases qv.1 hx with rfl|hx
    ·simpa using hv.2.1
    ·simpa using hag x (ih.2.2.1 x hx)
   ·cases a with
    |r c =>
     simp only[jgs,find]at hf;split at hf
     ·rename_i e;subst e;cases hf;exact⟨zu _,by simp,c,rfl,hv.2.2 c rfl⟩
     ·have:=ih.2.2.2 h o hf;simp only[z4];exact⟨by omega,by omega,this.2.2⟩
    |d x=>have:=ih.2.2.2 h o hf;simp only[z4];exact⟨by omega,by omega,this.2.2⟩
    |s x=>have:=ih.2.2.2 h o hf;simp only[z4];exact⟨by omega,by omega,this.2.2⟩
    |f x=>have:=ih.2.2.2 h o hf;simp only[z4];exact⟨by omega,by omega,this.2.2⟩
  ·cases h
def jjC (h:jbx B w) (hB:Old B w):jbx (fun k=>k<w.heap.size) w:=h.sub fun k hk=>hB k (.inl hk)
def HRel.add1 (h:HRel U B hp nx w) {v:zF} {o:O} (hl:o.lt (nx+1)) (ho:o.ok (upd U nx v) B w nx) (hap:∀k o' b,find hp k=some o'->o'.blk (U k)=some b->o.blk v≠some b) :
  HRel (upd U nx v) B ((nx,o)::hp) (nx+1) w:=by
 have h1:=(h.agree (jal U nx v)).mono_nx (Nat.le_succ nx);refine⟨?_,?_,h1.glob⟩
 ·intro k o' hf;simp only[find]at hf;split at hf
  ·rename_i e;subst e;cases hf;exact⟨by omega,hl,ho⟩
  ·exact h1.ok k o' hf
 ·intro k o1 k' o2 b hf hf' hne hb hb';simp only[find]at hf hf';split at hf
  ·rename_i e;subst e;cases hf;rw[if_neg hne]at hf';rw[upd_same]at hb;rw[jal U nx v k' (h.ok k' o2 hf').1]at hb';exact hap k' o2 b hf' hb' hb
  ·split at hf'
   ·rename_i e;subst e;cases hf';rw[upd_same]at hb';rw[jal U nx v k (h.ok k o1 hf).1]at hb;exact hap k o1 b hf hb hb'
   ·exact h1.apart k o1 k' o2 b hf hf' hne hb hb'
def jiD {B0:Kd} {hp':Hp} {nx':Nat} {U':Env} {m:Nat} {us0:List Nat} (hB0:∀k,k<m->B0.all k∨∀u o b,us0.contains u=false->find hp' u=some o->(∃ty c,o=.row ty c)->o.blk (U' u)=some b->b≠k) (hBm:∀k,B.all k->k<m) (hh':HRel U' B0 hp' nx' w') :
  ∀(rs:List RV) (ws:List W) (us:List Nat) (nx:Nat) (hp:Hp) (U:Env),(∀x,us0.contains x=true->us.contains x=true)->jeC hp' rs ws us->HRel U B hp nx w' ->
   (∀k o b,find hp k=some o->o.blk (U k)=some b->b<m∨∃u∈us,∃ou,find hp' u=some ou∧ou.blk (U' u)=some b) ->
   ∃U'',jae nx U U''∧HRel U'' B (jhZ nx rs hp) (jeB nx rs) w'∧nx<=jeB nx rs∧(∀x∈rvW nx rs,W.lt (jeB nx rs) x)∧ws.map (W.val U')=(rvW nx rs).map (W.val U'') ∧
    ∀h o k,find (jhZ nx rs hp) h=some o->(nx<=h->o.blk (U'' h)=some k->m<=k)∧(h<nx->find hp h=some o)
 |[],ws,us,nx,hp,U,_,hf,hh,_=>by
  cases ws with
  |nil=>exact⟨U,jae.refl _ _,hh,zu _,(fun _ h=>by cases h),rfl,fun h o k hf=>⟨fun hle _=>absurd (hh.ok h o hf).1 (by omega),fun _=>hf⟩⟩
  |cons w ws=>cases w<;>exact hf.elim
 | .d x::rs,ws,us,nx,hp,U,hsu,hf,hh,hinv=>by
  match ws,hf with
  | .c (.d y)::ws,hf =>
   obtain⟨U'',h1,h2,h3,h4,h5,h6⟩:=jiD hB0 hBm hh' rs ws us nx hp U hsu hf.2 hh hinv;refine⟨U'',h1,h2,h3,fun u hu=>?_,?_,h6⟩
   ·rcases qv.1 hu with rfl|hu
    ·trivial
    ·exact h4 u hu
   ·rw[<-jmb hf.1];simp only[zM,rvW,h5];rfl
 | .s l::rs,ws,us,nx,hp,U,hsu,hf,hh,hinv=>by
  match ws,hf with
  | .a cs::ws,hf =>
   simp only[jeC]at hf;split at hf
   ·rename_i ds hds;obtain⟨hl,hf2⟩:=jmR hf;subst hl;obtain⟨U'',h1,h2,h3,h4,h5,h6⟩:=jiD hB0 hBm hh' rs ws us nx hp U hsu hf2 hh hinv;refine⟨U'',h1,h2,h3,fun u hu=>?_,?_,h6⟩
    ·rcases qv.1 hu with rfl|hu
     ·intro x hx;obtain⟨y,_,rfl⟩:=qu.1 hx;trivial
     ·exact h4 u hu
    ·rw[jcf hds];simp only[zM,rvW,h5]
     congr 1
     simp[W.val,C.val,xq]
   ·exact hf.elim
 | .row ty c::rs,ws,us,nx,hp,U,hsu,hf,hh,hinv=>by
  match ws,hf with
  | .c (.o h)::ws,hq =>
   rw[jeC]at hq;split at hq
   ·exact hq.elim
   ·rename_i hus;split at hq
    ·rename_i ty' c' hfind;split at hq
     ·rename_i hty;have hty:ty'=ty:=zb hty;subst hty;have hc:=(jbS hq.1).symm;subst hc;have hok:=(hh'.ok h _ hfind).2.2
      have hblk:∀b,(U' h).ownBlock=some b->m<=b:=fun b hb=>by
       rcases kE b m with hlt|hge
       ·rcases hB0 b hlt with h1|h1
        ·exact absurd h1 (hok.2 b hb)
        ·have hu0:us0.contains h=false:=by
          cases hc:us0.contains h with
          |false=>rfl
          |true=>rw[hsu h hc]at hus;cases hus
         exact absurd rfl (h1 h _ b hu0 hfind ⟨_,_,rfl⟩ hb)
       ·exact hge
      have hadd:=hh.add1 (v:=U' h) (o:=.row ty' c') trivial (by
       refine⟨by rw[upd_same];exact hok.1,fun b hb hBb=>?_⟩;rw[upd_same]at hb;have:=hblk b hb;have:=hBm b hBb
       omega) (fun k o' b hk hb hb2=>by
        rcases hinv k o' b hk hb with h1|⟨u,hu,ou,h1,h2⟩
        ·have:=hblk b hb2;omega
        ·refine hh'.apart h _ u ou b hfind h1 (fun e=>?_) hb2 h2;subst e;rw[List.contains_iff_mem.2 hu]at hus;cases hus)
      obtain⟨U'',h1,h2,h3,h4,h5,h6⟩:=jiD hB0 hBm hh' rs ws (h::us) (nx+1) ((nx,.row ty' c')::hp) (upd U nx (U' h)) (fun x hx=>by have:=hsu x hx;simp at this ⊢;exact .inr this) hq.2 hadd (fun k o b hk hb=>by
       simp only[find]at hk;split at hk
       ·rename_i e;subst e;cases hk;rw[upd_same]at hb;exact .inr ⟨h,zV,_,hfind,hb⟩
       ·rw[jal U nx (U' h) k (hh.ok k o hk).1]at hb;rcases hinv k o b hk hb with h1|⟨u,hu,ou,h1,h2⟩
        ·exact .inl h1
        ·exact .inr ⟨u,zR _ hu,ou,h1,h2⟩)
      have hnx:U'' nx=U' h:=by rw[h1 nx (zo nx),upd_same]
      refine⟨U'',fun k hk=>by rw[h1 k (by omega),jal U nx (U' h) k hk],h2,by unfold jeB;omega,fun u hu=>?_,?_,fun k o b hk=>?_⟩
      ·rcases qv.1 hu with rfl|hu
       ·exact zC (zo nx) h3
       ·exact h4 u hu
      ·simp only[zM,rvW,h5]
       congr 1
       exact hnx.symm
      ·have h7:=h6 k o b hk;refine⟨fun hle hb=>?_,fun hlt=>?_⟩
       ·by_cases hle2:nx+1<=k
        ·exact h7.1 hle2 hb
        ·have e:k=nx:=by omega
         subst e;have h8:=h7.2 (zo k);simp only[find,if_true]at h8;cases h8;rw[hnx]at hb;exact hblk b hb
       ·have h8:=h7.2 (by omega);simp only[find]at h8;rw[if_neg (by omega)]at h8;exact h8
     ·exact hq.elim
    ·exact hq.elim
  | .c (.d (.v (.slice none 0 0)))::ws,hf =>
   simp only[jeC]at hf;have hn:=hf.1.h;have hfl:c.flat=[]:=qk (by rw[Cont.flat_length,hn,qQ])
   have hadd:=hh.add1 (v:=.slice none 0 0) (o:=.row ty c) trivial (by
    refine⟨?_,fun b hb=>?_⟩
    ·rw[upd_same,hfl,hn];exact xt w' 0 ty c.e
    ·rw[upd_same]at hb;cases hb) (fun k o' b hk hb hb2=>by cases hb2)
   obtain⟨U'',h1,h2,h3,h4,h5,h6⟩:=jiD hB0 hBm hh' rs ws us (nx+1) ((nx,.row ty c)::hp) (upd U nx (.slice none 0 0)) hsu hf.2 hadd (fun k o b hk hb=>by
    simp only[find]at hk;split at hk
    ·rename_i e;subst e;cases hk;rw[upd_same]at hb;cases hb
    ·rw[jal U nx _ k (hh.ok k o hk).1]at hb;exact hinv k o b hk hb)
   have hnx:U'' nx=.slice none 0 0:=by rw[h1 nx (zo nx),upd_same]
   refine⟨U'',fun k hk=>by rw[h1 k (by omega),jal U nx _ k hk],h2,by unfold jeB;omega,fun u hu=>?_,?_,fun k o b hk=>?_⟩
   ·rcases qv.1 hu with rfl|hu
    ·exact zC (zo nx) h3
    ·exact h4 u hu
   ·simp only[zM,rvW,h5]
    congr 1
    exact hnx.symm
   ·have h7:=h6 k o b hk;refine⟨fun hle hb=>?_,fun hlt=>?_⟩
    ·by_cases hle2:nx+1<=k
     ·exact h7.1 hle2 hb
     ·have e:k=nx:=by omega
      subst e;have h8:=h7.2 (zo k);simp only[find,if_true]at h8;cases h8;rw[hnx]at hb;cases hb
    ·have h8:=h7.2 (by omega);simp only[find]at h8;rw[if_neg (by omega)]at h8;exact h8
end
end Go.Sx
end

section
open Go.RowKit
namespace Go.Sx
def O.own:O->Bool
 | .box _ cs=>cs.all fun c=>match c with
  | .d _=>true
  |_=>false
 | .row _ _=>true
 |_=>false
section
variable [Globs] {P:zy} {sp:jaa}
end
end Go.Sx
end

section
open Go.RowKit
namespace Go.Sx
def toAK (q:Option Cont) (hp:Hp) (v:V):Option A :=
 match q with
 |none=>toA hp v
 |some c0=>match v.nils?,c0.n,c0.e with
  |true,0,_+1=>some (.r c0)
  |_,_,_=>toA hp v
def joJ:List (Option Cont)->Hp->List V->Option (List A)
 |_,_,[]=>some []
 |qs,hp,v::l=>match toAK (qs.headD none) hp v,joJ qs.tail hp l with
  |some a,some r=>some (a::r)
  |_,_=>none
def jaK (qs:List (Option Cont)) (g:List A->Option (Prop × List RV)):Spec:=fun vs hp nx =>
 match joJ qs hp vs with
 |some asq=>match g asq with
  |some (ob,rs)=>some (.leaf ⟨ob,ja0 (rvW nx rs),jhZ nx rs hp,jeB nx rs⟩)
  |none=>none
 |none=>none
section
variable [Globs] {P:zy} {sp:jaa} {U:Env} {B:Kd} {nx:Nat} {hp:Hp} {w w':zx}
def jBF {v:V} (h:v.nils?=true):v=.w (.c (.d (.v (.slice none 0 0)))):=by
 unfold V.nils? at h;split at h
 ·rfl
 ·cases h
def jsJ (hh:HRel U B hp nx w) {v:V} {a:A} (ha:toA hp v=some a) (n m:Nat) (U0:Env) (h0:U0 n=v.val U) :
  (jjB n a).val U0=v.val U∧V.lt (n+(m+1)) (jjB n a)∧∀c,a=.r c->jaJ w (U0 n) c∧jbW (fun k=>k<w.heap.size) (U0 n):=by
 unfold toA at ha;split at ha
 ·cases ha;exact⟨rfl,trivial,fun _ h=>by cases h⟩
 ·rename_i l;cases hd:jbA l with
  |none=>simp[hd]at ha
  |some ds =>
   simp only[hd,zQ,zi]at ha;subst ha;rw[jcf hd];refine⟨?_,(fun x hx=>?_),fun _ h=>by cases h⟩
   ·simp[jjB,V.val,W.val,C.val,xq]
   ·obtain⟨y,_,rfl⟩:=qu.1 hx;trivial
 ·cases ha;exact⟨rfl,(fun _ h=>by cases h),fun _ h=>by cases h⟩
 ·rename_i k;split at ha
  ·rename_i c hc;split at ha
   ·cases ha
   ·rename_i e he;cases ha;cases hf:find hp k with
    |none=>simp[hf]at hc
    |some o =>
     simp only[hf,zw]at hc;have hrow:=jaX (hh.ok k o hf).2.2 hc;have e0:U0 n=U k:=h0;refine⟨e0,(show n<n+(m+1) by omega),fun c' hc'=>?_⟩;cases hc';rw[e0];exact⟨hrow,jaJ.lt hrow (by omega)⟩
  ·cases ha
 ·cases ha
def jyl (hh:HRel U B hp nx w) {q:Option Cont} {v:V} {a:A} (ha:toAK q hp v=some a) (n m:Nat) (U0:Env) (h0:U0 n=v.val U) :
  (jjB n a).val U0=v.val U∧V.lt (n+(m+1)) (jjB n a)∧∀c,a=.r c->jaJ w (U0 n) c∧jbW (fun k=>k<w.heap.size) (U0 n):=by
 unfold toAK at ha;split at ha
 ·exact jsJ hh ha n m U0 h0
 ·rename_i c0;split at ha
  ·rename_i e hn hc he;cases ha;have hv:=jBF hn;subst hv;refine⟨h0,(show n<n+(m+1) by omega),fun c' hc'=>?_⟩;cases hc';rw[h0];refine⟨⟨none,0,by rw[hc];rfl,⟨by omega,fun _=>rfl⟩,fun h=>by omega⟩,fun a n cap h _=>?_⟩;cases h
  ·exact jsJ hh ha n m U0 h0
def joK (hh:HRel U B hp nx w):∀(qs:List (Option Cont)) (vs:List V) (asq:List A) (n:Nat) (U0:Env),joJ qs hp vs=some asq->(∀i v,vs[i]?=some v->U0 (n+i)=v.val U) ->
  (jdC n asq).map (V.val U0)=vs.map (V.val U)∧asq.length=vs.length∧(∀x∈jdC n asq,V.lt (n+asq.length) x) ∧
   ∀h o,find (jgs n asq) h=some o->n<=h∧h<n+asq.length∧∃c,o=.ext c∧jaJ w (U0 h) c∧jbW (fun k=>k<w.heap.size) (U0 h)
 |_,[],asq,n,U0,h,_=>by
  simp only[joJ,zi]at h;subst h;exact⟨rfl,rfl,(fun _ h=>by cases h),fun _ _ h=>by cases h⟩
 |qs,v::vs,asq,n,U0,h,hU=>by
  simp only[joJ]at h;split at h
  ·rename_i a r ha hr;cases h;have ih:=joK hh qs.tail vs r (n+1) U0 hr (fun i v hv=>by rw[show n+1+i=n+(i+1) by omega];exact hU (i+1) v (by simpa using hv));have h0:=hU 0 v rfl;rw[qY]at h0;have hv:=jyl hh ha n r.length U0 h0;have hag:∀x,V.lt (n+1+r.length) x->V.lt (n+(r.length+1)) x:=fun x hx=>V.lt_mono (by omega) hx;refine⟨by simp only[jdC,zM,hv.1,ih.1],by simp[ih.2.1],fun x hx=>?_,fun h o hf=>?_⟩
   ·rcases qv.1 hx with rfl|hx
    ·simpa using hv.2.1
    ·simpa using hag x (ih.2.2.1 x hx)
   ·cases a with
    |r c =>
     simp only[jgs,find]at hf;split at hf
     ·rename_i e;subst e;cases hf;exact⟨zu _,by simp,c,rfl,hv.2.2 c rfl⟩
     ·have:=ih.2.2.2 h o hf;simp only[z4];exact⟨by omega,by omega,this.2.2⟩
    |d x=>have:=ih.2.2.2 h o hf;simp only[z4];exact⟨by omega,by omega,this.2.2⟩
    |s x=>have:=ih.2.2.2 h o hf;simp only[z4];exact⟨by omega,by omega,this.2.2⟩
    |f x=>have:=ih.2.2.2 h o hf;simp only[z4];exact⟨by omega,by omega,this.2.2⟩
  ·cases h
def jaU {f:Nat} {fn:Func} {body:yb} {qs:List (Option Cont)} {g:List A->Option (Prop × List RV)} (hm:P.follows .mixedOrders=true) (hsp:jac P sp) (hf:P.funcs[f]?=some fn) (hb:fn.body=some body) (hn:(fn.name == "runtime.NumGoroutine")=false)
  (h:∀asq ob rs,g asq=some (ob,rs)->ob->asq.length<=fn.ntmps∧∃fuel loops,sx P sp fn.ntmps asq.length fuel loops (jca P sp fn.ntmps) body 0 [] ⟨jbO 0 (jdC 0 asq),jgs 0 asq,asq.length⟩ (jcm P fn.results.toList fun v hp _=>jBa rs v hp)) :
  jaf P f true (jaK qs g):=by
 refine .inl ⟨jcD hf hb hn,fun U B w args hp nx r hS hob hlt hh hB=>?_⟩;unfold jaK at hS;split at hS
 ·rename_i asq has;split at hS
  ·rename_i ob rs hg;cases hS;obtain⟨hlen,fuel,loops,hx⟩:=h asq ob rs hg hob;have hto:=joK hh qs args asq 0 (fun i=>(args[i]?.map (V.val U)).getD qe) has (fun i v hv=>by simp[hv])
   have hal:(jdC 0 asq).length=asq.length:=by
    have:∀(l:List A) (n:Nat),(jdC n l).length=l.length:=fun l=>by
     induction l with
     |nil=>exact fun _=>rfl
     |cons a l ih=>exact fun n=>by simp[jdC,ih]
    exact this asq 0
   have hh0:HRel (fun i=>(args[i]?.map (V.val U)).getD qe) (kd fun k=>k<w.heap.size) (jgs 0 asq) asq.length w:=by
    refine⟨fun x o hf=>?_,fun x o x' o' k hf hf' _ hb=>?_,jjC hh.glob hB⟩
    ·obtain⟨_,h2,c,rfl,h3,h4⟩:=hto.2.2.2 x o hf;exact⟨by omega,trivial,h3,h4⟩
    ·obtain⟨_,_,c,rfl,_,_⟩:=hto.2.2.2 x o hf;cases hb
   have hcalls:=jsA (n0:=asq.length) (B:=kd fun k=>k<w.heap.size) hsp (fun U w=>jbG hm hsp) hf hb (by rw[hal];exact hlen) hx (fun x hx=>by simpa using hto.2.2.1 x hx) (zu _) _ w hh0 (fun k hk=>jbe.1 hk);rw[hto.1]at hcalls;refine hcalls.mono ?_;rintro e w' ⟨U',v,hp',nx',rfl,hvlt,hag,⟨B',gB,hh'⟩,hbel,_,hfit⟩;have hbw:Below w.heap.size w w':=hbel.below;have hh1:=hh.below hbw hB
   obtain⟨ws,hws,hfw⟩:∃ws,(ja0 ws).val U'=v.val U'∧jeC hp' rs ws []:=by
    match v,hfit with
    | .w u,hfit=>exact⟨[u],rfl,hfit⟩
    | .t [],hfit=>exact⟨[],rfl,hfit⟩
    | .t (x::y::l),hfit=>exact⟨x::y::l,rfl,hfit⟩
   obtain⟨U'',h1,h2,h3,h4,h5,h6⟩:=jiD (m:=w.heap.size) (us0:=[]) (fun k hk=>.inl (.inl (gB.le.kp k hk))) hB hh' rs ws [] nx hp U (fun _ h=>h) hfw hh1 (fun k o b hk hb=>.inl (O.blk_lt (hh.ok k o hk).2.2 hb).1);refine⟨U'',?_,h1,je2 h4,h3,h2.gr,jbV hbw hB,fun _=>hbw,fun _ h o k hle hf hb=>(h6 h o k hf).1 hle hb⟩
   show xO _=xO ((ja0 (rvW nx rs)).val U'')
   rw[<-hws,jcR,jcR];simp only[h5]
  ·cases hS
 ·cases hS
end
end Go.Sx
end
