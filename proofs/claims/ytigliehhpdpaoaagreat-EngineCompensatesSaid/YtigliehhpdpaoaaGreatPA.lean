/- Part 1 of the proof of EngineCompensates: the executor, the mirrors of the functions, the plain facts. -/
import Derived.WalkKit
import Derived.Laws.StructEq
import Derived.Laws.BytesString
set_option maxRecDepth 100000
set_option linter.unusedSectionVars false
set_option linter.unusedSimpArgs false
set_option linter.unusedVariables false
set_option linter.defProp false
open Array renaming ext'->qy,getElem?_eq_getElem->qE,getElem?_eq_some_iff->zA,getElem?_toList->yz
open BitVec renaming ofInt->jD
open Bool renaming false_eq_true->qN
open ByteArray renaming empty->xB
open Function renaming comp_def->xq
open Go renaming BinOp->j6,FloatKind->zZ,Oper->zX,Operand->zH,Program->zy,TypeId->qf,Value->zF,World->zx,asIntOf->yU,beq_toListBytes->f0,cell_of_row->xj,eqGuard->yn,execOp->qr,heap_alloc_new->yx,invoke->jg,loadVar->jE,madeCells->ja,newRow->gz,resolve->yF,run_bytesToString->fy,run_equalIn_bool'->fv,run_loadCells_list->gi,run_newObj->ji,run_underlying->zI,setRow_heap->yT,setRow_other->yg,typeInfo->yP,undef->qe,zeroValue->ym
open Go.Addr renaming add->j7
open Go.Builtin renaming len_->jF,max2->kD,min2->kC
open Go.FloatKind renaming decode->jo
open Go.Instr renaming build->fX,buildSlice->xP,fieldAt->kv,fill->gL,index->fY,indexAt->yZ,loadAt->yE,makeFunc->ki,slice->jh,sliceAt->yf,sliceBound->yQ,sliceBounds->xr,storeAt->yh,sureAddr->qA
open Go.IntKind renaming i64->xF
open Go.Next renaming value->gN
open Go.Op renaming equal->gh,equalIn->gJ,floatArith->jZ,floatCmp->kJ,intArith->kI,maxDepth->gV,stringOp->kK
open Go.Oper renaming wp->jv
open Go.Result renaming andThen_ok->zh
open Go.RowKit renaming Below->xA
open Go.RowKit.Below renaming refl->qO
open Go.Sem renaming run_bind->zn,run_pure->zp
open Go.Value renaming bool->kh,float->yS,int->xV,ownBlock->zL,slice->qc,string->gM
open Go.Value.slice renaming injEq->fz
open Go.World renaming block_lt_of_cell?->qj,cell?_of_block->qp
open Go.World.ownsRow renaming lt->jn
open Ieee.Datum renaming isNaN->jp,order->fJ
open Ieee.Format renaming order->kP
open List renaming append_assoc->qJ,ext_getElem->yw,ext_getElem?->xg,flatMap_cons->xp,flatten_cons->yo,foldlM_cons->fH,foldl_cons->hG,getD->za,getD_eq_getElem?_getD->qB,getElem?_append_left->z7,getElem?_append_right->qa,getElem?_cons_succ->jB,getElem?_cons_zero->qF,getElem?_drop->xN,getElem?_eq_getElem->zJ,getElem?_eq_none->z9,getElem?_eq_none_iff->gu,getElem?_eq_some_iff->zB,getElem?_map->zK,getElem?_range->js,getElem?_set->xh,getElem?_take->z6,length_append->qb,length_cons->z4,length_drop->xf,length_map->qG,length_take->qP,mapM_cons->gW,map_congr_left->z8,map_cons->zM,map_map->xI,mem_append->qq,mem_cons->qv,mem_cons_of_mem->zR,mem_cons_self->zV,mem_map->qu,mem_of_getElem?->qX,mem_of_mem_drop->yj,mem_of_mem_take->xU,range->zG,replicate->zr,replicate_succ->gc,take_append_drop->xi,take_of_length_le->yv,zipIdx_cons->jU
open Nat renaming add_assoc->qU,add_mul->qo,add_zero->qY,beq->zt,ble->qn,blt->qh,div_add_mod->yC,div_lt_of_lt_mul->xW,eq_of_beq_eq_true->zb,eq_zero_or_pos->x9,le_refl->zu,le_succ->qt,le_trans->qx,lt_irrefl->j4,lt_of_le_of_lt->gj,lt_of_lt_of_le->zC,lt_succ_self->zo,mod_lt->ya,mul_comm->xJ,mul_eq_zero->yX,mul_le_mul_right->zW,mul_one->fU,mul_zero->fx,succ_eq_add_one->yq,zero_add->zP,zero_le->qI,zero_mul->qQ
open Option renaming bind_eq_some_iff->zD,bind_some->zw,getD_none->x8,getD_some->zU,isSome_iff_exists->yM,isSome_none->fp,map_eq_some_iff->z5,map_none->xm,map_some->zQ
open Option.some renaming injEq->zi
open Prod.mk renaming injEq->qg
open Std.Legacy.Range renaming forIn_eq_forIn_range'->je,size->gS
section
open Go.RowKit
namespace Go.Sx
inductive D where
 |i (k:IntKind) (n:Int)
 |b (x:Bool)
 |f (k:zZ) (n:Nat)
 |s (x:ByteArray)
 |v (x:zF)
 |z (k:zZ) (p:Nat × Nat)
def D.val:D->zF
 | .i k n=>.int k n
 | .b x=>.bool x
 | .f k n=>.float k n
 | .s x=>.string x
 | .v x=>x
 | .z k p=>.complex k p.1 p.2
def D.one:D->Bool
 | .v x=>x.oneCell'
 |_=>true
def D.one_val {x:D} (h:x.one=true):x.val.oneCell'=true:=by
 cases x<;>first|rfl|exact h
inductive Cont where
 |ints (k:IntKind) (l:List Int)
 |recs (e:Nat) (l:List (List Int))
 |floats (k:zZ) (l:List Nat)
 |strs (l:List ByteArray)
 |bools (l:List Bool)
 |lits (e:Nat) (l:List (List D))
 |frs (k:zZ) (e:Nat) (l:List (List Nat))
def ji3 (e:Nat) (r:List Int):List D:=(zG e).map fun j=>D.i .i64 (r.getD j 0)
def ji4 (e:Nat) (r:List D):List D:=(zG e).map fun j=>r.getD j (.v qe)
def frD (k:zZ) (e:Nat) (r:List Nat):List D:=(zG e).map fun j=>D.f k (r.getD j 0)
def Cont.n:Cont->Nat
 | .ints _ l=>l.length
 | .recs _ l=>l.length
 | .floats _ l=>l.length
 | .strs l=>l.length
 | .bools l=>l.length
 | .lits _ l=>l.length
 | .frs _ _ l=>l.length
def Cont.e:Cont->Nat
 | .recs e _=>e
 | .lits e _=>e
 | .frs _ e _=>e
 |_=>1
def Cont.flat:Cont->List D
 | .ints k l=>l.flatMap fun x=>[D.i k x]
 | .recs e l=>l.flatMap (ji3 e)
 | .floats k l=>l.flatMap fun x=>[D.f k x]
 | .strs l=>l.flatMap fun x=>[D.s x]
 | .bools l=>l.flatMap fun x=>[D.b x]
 | .lits e l=>l.flatMap (ji4 e)
 | .frs k e l=>l.flatMap (frD k e)
def Cont.cell:Cont->Nat->Nat->D
 | .ints k l,i,_=>.i k (l.getD i 0)
 | .recs _ l,i,j=>.i .i64 ((l.getD i []).getD j 0)
 | .floats k l,i,_=>.f k (l.getD i 0)
 | .strs l,i,_=>.s (l.getD i xB)
 | .bools l,i,_=>.b (l.getD i false)
 | .lits _ l,i,j=>(l.getD i []).getD j (.v qe)
 | .frs k _ l,i,j=>.f k ((l.getD i []).getD j 0)
inductive C where
 |d (x:D)
 |p (h i e j:Nat)
 |o (h:Nat)
 |fn (f:Nat) (hs:List Nat)
 |g (n i e j:Nat)
 |fb (f:Nat) (hs:List Nat)
inductive W where
 |c (x:C)
 |a (l:List C)
 |b (k:zZ) (e:Nat) (r:List Nat)
inductive V where
 |w (x:W)
 |t (l:List W)
abbrev Env:=Nat->zF
def base:zF->Addr
 | .pointer (some a)=>a
 | .slice (some a) _ _=>a
 |_=>⟨0,0,none⟩
def C.val (U:Env):C->zF
 | .d x=>x.val
 | .p h i e j=>.pointer (some ⟨(base (U h)).block,(base (U h)).off+(i*e+j),none⟩)
 | .o h=>U h
 | .fn f hs=>.func (.func f) #[] (hs.map U).toArray
 | .g n i e j=>.pointer (some ⟨n,i*e+j,none⟩)
 | .fb f hs=>.func (.func f) (hs.map U).toArray #[]
def W.val (U:Env):W->zF
 | .c x=>x.val U
 | .a l=>.agg (l.map (C.val U)).toArray
 | .b k e r=>.agg ((frD k e r).map D.val).toArray
def V.val (U:Env):V->zF
 | .w x=>x.val U
 | .t l=>.tuple (l.map (W.val U)).toArray
def C.lt (n:Nat):C->Prop
 | .d _=>True
 | .p h _ _ _=>h<n
 | .o h=>h<n
 | .fn _ hs=>∀h∈hs,h<n
 | .g _ _ _ _=>True
 | .fb _ hs=>∀h∈hs,h<n
def W.lt (n:Nat):W->Prop
 | .c x=>x.lt n
 | .a l=>∀x∈l,C.lt n x
 | .b _ _ _=>True
def V.lt (n:Nat):V->Prop
 | .w x=>x.lt n
 | .t l=>∀x∈l,W.lt n x
def jae (n:Nat) (U U':Env):Prop:=∀h,h<n->U' h=U h
def jae.refl (n:Nat) (U:Env):jae n U U:=fun _ _=>rfl
def jae.trans {n m:Nat} {a b c:Env} (h:jae n a b) (k:jae m b c) (hm:n<=m):jae n a c :=
 fun x hx=>(k x (zC hx hm)).trans (h x hx)
def C.val_agree {n:Nat} {U U':Env} (h:jae n U U'):∀{x:C},x.lt n->x.val U'=x.val U
 | .d _,_=>rfl
 | .p _ _ _ _,hx=>by simp only[C.val,h _ hx]
 | .o _,hx=>h _ hx
 | .fn _ hs,hx=>by
  simp only[C.val]
  congr 2
  exact z8 fun a ha=>h a (hx a ha)
 | .g _ _ _ _,_=>rfl
 | .fb _ hs,hx=>by
  simp only[C.val]
  congr 2
  exact z8 fun a ha=>h a (hx a ha)
def W.val_agree {n:Nat} {U U':Env} (h:jae n U U'):∀{x:W},x.lt n->x.val U'=x.val U
 | .c _,hx=>C.val_agree h hx
 | .a l,hx=>by
  simp only[W.val]
  congr 2
  exact z8 fun a ha=>C.val_agree h (hx a ha)
 | .b _ _ _,_=>rfl
def V.val_agree {n:Nat} {U U':Env} (h:jae n U U'):∀{x:V},x.lt n->x.val U'=x.val U
 | .w _,hx=>W.val_agree h hx
 | .t l,hx=>by
  simp only[V.val]
  congr 2
  exact z8 fun a ha=>W.val_agree h (hx a ha)
def C.lt_mono {n m:Nat} (h:n<=m):∀{x:C},x.lt n->x.lt m
 | .d _,_=>trivial
 | .p _ _ _ _,hx=>zC hx h
 | .o _,hx=>zC hx h
 | .fn _ _,hx=>fun a ha=>zC (hx a ha) h
 | .g _ _ _ _,_=>trivial
 | .fb _ _,hx=>fun a ha=>zC (hx a ha) h
def W.lt_mono {n m:Nat} (h:n<=m):∀{x:W},x.lt n->x.lt m
 | .c _,hx=>C.lt_mono h hx
 | .a _,hx=>fun a ha=>C.lt_mono h (hx a ha)
 | .b _ _ _,_=>trivial
def V.lt_mono {n m:Nat} (h:n<=m):∀{x:V},x.lt n->x.lt m
 | .w _,hx=>W.lt_mono h hx
 | .t _,hx=>fun a ha=>W.lt_mono h (hx a ha)
def jcb {α:Type} (g:α->List D) (e:Nat) (hg:∀x,(g x).length=e) (j:Nat) (hj:j<e) :
  ∀(l:List α) (i:Nat),(l.flatMap g)[i*e+j]?=(l[i]?).bind fun x=>(g x)[j]?
 |[],i=>by simp
 |x::l,0=>by
  rw[xp,qQ,zP,z7 (by rw[hg x];exact hj)];simp
 |x::l,i+1=>by
  have ih:=jcb g e hg j hj l i;have e1:(i+1)*e+j=(g x).length+(i*e+j):=by rw[hg x,qo];omega
  rw[xp,e1,qa (by omega)];simpa using ih
def jiq {α:Type} (g:α->List D) (e:Nat) (hg:∀x,(g x).length=e):∀(l:List α),(l.flatMap g).length=l.length*e
 |[]=>by simp
 |x::l=>by rw[xp,qb,jiq g e hg l,hg x,z4,qo];omega
@[simp] theorem recD_length (e:Nat) (r:List Int):(ji3 e r).length=e:=by simp[ji3]
@[simp] theorem litD_length (e:Nat) (r:List D):(ji4 e r).length=e:=by simp[ji4]
@[simp] theorem frD_length (k:zZ) (e:Nat) (r:List Nat):(frD k e r).length=e:=by simp[frD]
def Cont.flat_length (c:Cont):c.flat.length=c.n*c.e:=by
 cases c<;>simp only[Cont.flat,Cont.n,Cont.e]<;>(refine jiq _ _ ?_ _)<;>intro x<;>simp
def Cont.flat_get (c:Cont) {i j:Nat} (hi:i<c.n) (hj:j<c.e):c.flat[i*c.e+j]?=some (c.cell i j):=by
 cases c with
 |ints k l =>
  have h:=jcb (fun x:Int=>[D.i k x]) 1 (by simp) j hj l i;simp only[Cont.n]at hi;simp only[Cont.flat,Cont.e,Cont.cell]at *;rw[h];obtain rfl:j=0:=by omega
  simp[hi,za]
 |recs e l =>
  have h:=jcb (ji3 e) e (by simp) j hj l i;simp only[Cont.n]at hi;simp only[Cont.flat,Cont.e,Cont.cell]at *;rw[h];simp[hi,za,ji3,hj]
 |floats k l =>
  have h:=jcb (fun x:Nat=>[D.f k x]) 1 (by simp) j hj l i;simp only[Cont.n]at hi;simp only[Cont.flat,Cont.e,Cont.cell]at *;rw[h];obtain rfl:j=0:=by omega
  simp[hi,za]
 |strs l =>
  have h:=jcb (fun x:ByteArray=>[D.s x]) 1 (by simp) j hj l i;simp only[Cont.n]at hi;simp only[Cont.flat,Cont.e,Cont.cell]at *;rw[h];obtain rfl:j=0:=by omega
  simp[hi,za]
 |bools l =>
  have h:=jcb (fun x:Bool=>[D.b x]) 1 (by simp) j hj l i;simp only[Cont.n]at hi;simp only[Cont.flat,Cont.e,Cont.cell]at *;rw[h];obtain rfl:j=0:=by omega
  simp[hi,za]
 |lits e l =>
  have h:=jcb (ji4 e) e (by simp) j hj l i;simp only[Cont.n]at hi;simp only[Cont.flat,Cont.e,Cont.cell]at *;rw[h];simp[hi,za,ji4,hj]
 |frs k e l =>
  have h:=jcb (frD k e) e (by simp) j hj l i;simp only[Cont.n]at hi;simp only[Cont.flat,Cont.e,Cont.cell]at *;rw[h];simp[hi,za,frD,hj]
inductive NC where
 |d (x:D)
 |r (c:Cont)
inductive NK where
 |i (k:IntKind)
 |b
 |f (k:zZ)
 |s
 |ints (k:IntKind)
 |recs (e:Nat)
 |flts (k:zZ)
 |strs
 |bools
 |frs (k:zZ) (e:Nat)
 deriving DecidableEq
def NC.toI:NC->Int
 | .d (.i _ n)=>n
 |_=>0
def NC.toB:NC->Bool
 | .d (.b x)=>x
 |_=>false
def NC.toF:NC->Nat
 | .d (.f _ n)=>n
 |_=>0
def NC.toS:NC->ByteArray
 | .d (.s x)=>x
 |_=>xB
def NC.toInts:NC->List Int
 | .r (.ints _ l)=>l
 |_=>[]
def NC.toRecs:NC->List (List Int)
 | .r (.recs _ l)=>l
 |_=>[]
def NC.toFlts:NC->List Nat
 | .r (.floats _ l)=>l
 |_=>[]
def NC.toStrs:NC->List ByteArray
 | .r (.strs l)=>l
 |_=>[]
def NC.toBools:NC->List Bool
 | .r (.bools l)=>l
 |_=>[]
def NC.toFrs:NC->List (List Nat)
 | .r (.frs _ _ l)=>l
 |_=>[]
def NK.norm:NK->NC->NC
 | .i k,x=>.d (.i k x.toI)
 | .b,x=>.d (.b x.toB)
 | .f k,x=>.d (.f k x.toF)
 | .s,x=>.d (.s x.toS)
 | .ints k,x=>.r (.ints k x.toInts)
 | .recs e,x=>.r (.recs e x.toRecs)
 | .flts k,x=>.r (.floats k x.toFlts)
 | .strs,x=>.r (.strs x.toStrs)
 | .bools,x=>.r (.bools x.toBools)
 | .frs k e,x=>.r (.frs k e x.toFrs)
inductive XC where
 |st (sh:List NK) (l:List (List NC))
 |ii (k:IntKind) (l:List (List Int))
 |ff (k:zZ) (l:List (List Nat))
 |bb (k:zZ) (e:Nat) (l:List (List (List Nat)))
 |rr (e:Nat) (l:List (List (List Int)))
def XC.n:XC->Nat
 | .st _ l=>l.length
 | .ii _ l=>l.length
 | .ff _ l=>l.length
 | .bb _ _ l=>l.length
 | .rr _ l=>l.length
def XC.e:XC->Nat
 | .st sh _=>sh.length
 |_=>1
def XC.cell:XC->Nat->Nat->NC
 | .st sh l,i,j=>(sh.getD j .b).norm ((l.getD i []).getD j (.d (.v qe)))
 | .ii k l,i,_=>.r (.ints k (l.getD i []))
 | .ff k l,i,_=>.r (.floats k (l.getD i []))
 | .bb k e l,i,_=>.r (.frs k e (l.getD i []))
 | .rr e l,i,_=>.r (.recs e (l.getD i []))
inductive O where
 |box (ty:Nat) (cs:List C)
 |row (ty:Nat) (c:Cont)
 |ext (c:Cont)
 |view (r:Nat) (c:Cont) (fl:Bool)
 |dead
 |nan (k:zZ)
 |ebox (cs:List C)
 |arr (ty:Nat) (k:zZ) (e:Nat) (r:List Nat)
 |xext (x:XC)
 |map (es:List ((Int × Int) × Int))
 |rrow (c:Cont)
 |fext (c:Cont)
 |xrow (ty:Nat) (x:XC)
 |mrow (ty:Nat) (ts:List Nat) (x:XC) (ho:Option (Nat × Nat))
 |trow (ty:Nat) (ts:List Nat) (x:XC) (m:Nat)
 |sub (r i e j ty:Nat) (c:Cont)
 |lbox (ty e n:Nat) (cs:List C)
 |lview (r e n:Nat) (cs:List C)
 |elist (e n:Nat) (cs:List C)
 |err
 |atom
def O.cont:O->Option Cont
 | .row _ c=>some c
 | .ext c=>some c
 | .view _ c _=>some c
 | .rrow c=>some c
 | .fext c=>some c
 | .sub _ _ _ _ _ c=>some c
 |_=>none
def O.lst:O->Option (Nat × Nat × List C)
 | .lbox _ e n cs=>some (e,n,cs)
 | .lview _ e n cs=>some (e,n,cs)
 | .elist e n cs=>some (e,n,cs)
 |_=>none
def O.xc:O->Option XC
 | .xext x=>some x
 | .xrow _ x=>some x
 | .mrow _ _ x none=>some x
 | .trow _ _ x _=>some x
 |_=>none
def O.isT:O->Bool
 | .trow _ _ _ _=>true
 |_=>false
def O.isM:O->Bool
 | .mrow _ _ _ _=>true
 | .trow _ _ _ _=>true
 |_=>false
def O.hole:O->Option XC
 | .mrow _ _ x (some _)=>some x
 |_=>none
abbrev Hp:=List (Nat × O)
def find:Hp->Nat->Option O
 |[],_=>none
 |(k,o)::r,h=>if k=h then some o else find r h
def jaJ (w:zx) (v:zF) (c:Cont):Prop :=
 ∃a cap,v=.slice a c.n cap∧(c.n<=cap∧(a=none->cap=0))∧(0<c.n->∃b off,a=some ⟨b,off,none⟩∧∀j x,c.flat[j]?=some x->w.cell? ⟨b,off+j,none⟩=some x.val)
class Globs where
 tab:Nat->Option Cont
 mv:Bool:=false
 cutT:Nat->Bool:=fun _=>false
 nestT:Nat->Bool:=fun _=>false
 nestM:Nat->Bool:=fun _=>false
 nestL:Nat->Bool:=fun _=>false
 held:Nat->Option (zF->Prop):=fun _=>none
abbrev Bd:=Nat->Prop
structure Kd where
 kp:Nat->Prop
 fr:Nat->Prop
 mu:Nat->Option Nat
 sub:∀k,fr k->kp k
 dis:∀k,kp k->mu k=none
def Kd.all (B:Kd) (k:Nat):Prop:=B.kp k∨B.mu k≠none
instance : Coe Kd Bd := ⟨Kd.kp⟩
def kd (p:Nat->Prop):Kd:=⟨p,fun _=>False,fun _=>none,fun _ h=>h.elim,fun _ _=>rfl⟩
def jbe {p:Nat->Prop} {k:Nat}:(kd p).all k<->p k:=⟨fun h=>h.elim id fun h=>absurd rfl h,.inl⟩
def jBY [Globs] (B:Bd) (w:zx):Prop:=∀g c,Globs.tab g=some c->B g∧(∀j x,c.flat[j]?=some x->w.cell? ⟨g,j,none⟩=some x.val)∧∃cs t f,w.heap[g]?=some (.cells cs t f)∧cs.size=c.flat.length
def jxN [Globs] (B:Bd) (w:zx):Prop:=∀g p,Globs.held g=some p->B g∧∃v,w.cell? ⟨g,0,none⟩=some v∧p v
def jbx [Globs] (B:Bd) (w:zx):Prop:=jBY B w∧jxN B w
def jkv [Globs] (h:∀g,Globs.held g=none) (B:Bd) (w:zx):jxN B w:=fun g p hg=>by
 rw[h g]at hg;cases hg
def Old (B:Kd) (w:zx):Prop:=∀k,B.all k->k<w.heap.size
structure Bel (B:Bd) (w w':zx):Prop where
 os:w'.os=w.os
 tape:w'.tape=w.tape
 output:w'.output=w.output
 size:w.heap.size<=w'.heap.size
 block:∀k,B k->w'.heap[k]?=w.heap[k]?
def Bel.refl (B:Bd) (w:zx):Bel B w w:=⟨rfl,rfl,rfl,zu _,fun _ _=>rfl⟩
def Bel.trans {B:Bd} {a b c:zx} (h:Bel B a b) (k:Bel B b c):Bel B a c :=
 ⟨k.os.trans h.os,k.tape.trans h.tape,k.output.trans h.output,qx h.size k.size,fun i hi=>(k.block i hi).trans (h.block i hi)⟩
def Bel.cell {B:Bd} {w w':zx} (h:Bel B w w') {p:Addr} (hp:B p.block):w'.cell? p=w.cell? p:=qp (w:=w) (h.block p.block hp)
def Bel.mono {B B':Bd} {w w':zx} (h:Bel B w w') (hB:∀k,B' k->B k):Bel B' w w':=⟨h.os,h.tape,h.output,h.size,fun k hk=>h.block k (hB k hk)⟩
def jvk {B:Bd} {w w':zx} (h:xA w.heap.size w w') (hB:∀k,B k->k<w.heap.size):Bel B w w':=⟨h.os,h.tape,h.output,h.size,fun k hk=>h.block k (hB k hk)⟩
def jbV {B:Kd} {w w':zx} (h:xA w.heap.size w w') (hB:Old B w):Bel B w w':=jvk h fun k hk=>hB k (.inl hk)
def jrV {B:Kd} {w w':zx} (h:xA w.heap.size w w') (hB:Old B w):Bel B.fr w w':=jvk h fun k hk=>hB k (.inl (B.sub k hk))
def Bel.old {B:Kd} {w w':zx} (h:Bel B w w') (hB:Old B w):Old B w':=fun k hk=>zC (hB k hk) h.size
def Bel.below {n:Nat} {w w':zx} (h:Bel (fun k=>k<n) w w'):xA n w w':=⟨h.os,h.tape,h.output,h.size,h.block⟩
def jbW (B:Bd) (v:zF):Prop:=∀a n cap,v=.slice (some a) n cap->0<n->B a.block
def jbx.bel [Globs] {B:Bd} {w w':zx} (h:jbx B w) (hb:Bel B w w'):jbx B w':=⟨fun g c hg =>
 ⟨(
  h.1 g c hg).1,fun j x hj=>(hb.cell (p:=⟨g,j,none⟩) (h.1 g c hg).1).trans ((h.1 g c hg).2.1 j x hj),by
  obtain⟨cs,t,f,h1,h2⟩:=(h.1 g c hg).2.2;exact⟨cs,t,f,(hb.block g (h.1 g c hg).1).trans h1,h2⟩⟩,fun g p hg =>
 let ⟨h1,v,h2,h3⟩:=h.2 g p hg
 ⟨h1,v,(hb.cell (p:=⟨g,0,none⟩) h1).trans h2,h3⟩⟩
def jbx.sub [Globs] {B B':Bd} {w:zx} (h:jbx B w) (hs:∀g,B g->B' g):jbx B' w :=
 ⟨fun g c hg=>⟨hs g (h.1 g c hg).1,(h.1 g c hg).2⟩,fun g p hg=>⟨hs g (h.2 g p hg).1,(h.2 g p hg).2⟩⟩
def NC.at (B:Bd) (w:zx) (v:zF):NC->Prop
 | .d x=>v=x.val
 | .r c=>jaJ w v c∧jbW B v
def IsX (B:Bd) (w:zx) (v:zF) (X:XC):Prop :=
 ∃a cap,v=.slice a X.n cap∧(X.n<=cap∧(a=none->cap=0))∧(0<X.n->∃b off,a=some ⟨b,off,none⟩∧B b∧∀i j,i<X.n->j<X.e->∃u,w.cell? ⟨b,off+(i*X.e+j),none⟩=some u∧(X.cell i j).at B w u)
def jpB (e:(Int × Int) × Int):zF × zF:=(.agg #[.int .i64 e.1.1,.int .i64 e.1.2],.int .i64 e.2)
def NC.own (B:Kd) (w:zx) (g ty:Nat) (v:zF):NC->Prop
 | .d x=>v=x.val
 | .r c=>w.ownsRow 0 ty c.e v c.n (c.flat.map D.val)∧∀k,v.ownBlock=some k->B.mu k=some g
def O.ok (U:Env) (B:Kd) (w:zx) (h:Nat):O->Prop
 | .box ty cs=>∃k,U h=.pointer (some ⟨k,0,none⟩)∧¬B.all k∧w.heap[k]?=some (.cells (cs.map (C.val U)).toArray ty (0,0))
 | .row ty c=>w.ownsRow 0 ty c.e (U h) c.n (c.flat.map D.val)∧∀k,(U h).ownBlock=some k->¬B.all k
 | .ext c=>jaJ w (U h) c∧jbW B (U h)
 | .view _ c fl=>jaJ w (U h) c∧(fl=true->∀a n cap,U h=.slice a n cap->cap=n)
 | .dead=>True
 | .nan k=>∃n,U h=.float k n∧(k.decode n).isNaN=true
 | .ebox cs=>∃k o,U h=.pointer (some ⟨k,o,none⟩)∧B.kp k∧∀j c,cs[j]?=some c->w.cell? ⟨k,o+j,none⟩=some (c.val U)
 | .arr ty k e r=>∃b,U h=.pointer (some ⟨b,0,none⟩)∧¬B.all b∧w.heap[b]?=some (.cells ((frD k e r).map D.val).toArray ty (0,0))
 | .xext X=>IsX B w (U h) X
 | .map es=>∃b ents clock,U h=.map (some b)∧¬B.all b∧w.heap[b]?=some (.map ents clock)∧ents.toList.map (fun e=>(e.key,e.val))=es.map jpB
 | .rrow c=>jaJ w (U h) c∧∀k,(U h).ownBlock=some k->¬B.all k∧k<w.heap.size
 | .fext c=>jaJ w (U h) c∧jbW B.fr (U h)
 | .xrow ty X=>∃us,w.ownsRow 0 ty X.e (U h) X.n us∧(∀i j,i<X.n->j<X.e->∃u,us[i*X.e+j]?=some u∧(X.cell i j).at B.fr w u)∧∀k,(U h).ownBlock=some k->¬B.all k
 | .mrow ty ts X ho=>∃us,w.ownsRow 0 ty X.e (U h) X.n us ∧
   (∀i j,i<X.n->j<X.e->ho≠some (i,j)->∃u,us[i*X.e+j]?=some u∧(X.cell i j).own B w (base (U h)).block (ts.getD j 0) u) ∧
   (∀i j i' j' u v k,i<X.n->j<X.e->i'<X.n->j'<X.e->(i,j)≠(i',j')->ho≠some (i,j)->ho≠some (i',j')->us[i*X.e+j]?=some u->us[i' * X.e+j']?=some v->u.ownBlock=some k->v.ownBlock≠some k) ∧
   ∀k,(U h).ownBlock=some k->¬B.all k
 | .trow ty ts X m=>∃us,w.ownsRow 0 ty X.e (U h) X.n us ∧
   (∀i j,i<X.n->j<X.e->∃u,us[i*X.e+j]?=some u∧(i*X.e+j<m->(X.cell i j).own B w (base (U h)).block (ts.getD j 0) u)∧(m<=i*X.e+j->(X.cell i j).at B.kp w u)) ∧
   (∀i j i' j' u v k,i<X.n->j<X.e->i'<X.n->j'<X.e->(i,j)≠(i',j')->i*X.e+j<m->i' * X.e+j'<m->us[i*X.e+j]?=some u->us[i' * X.e+j']?=some v->u.ownBlock=some k->v.ownBlock≠some k) ∧
   ∀k,(U h).ownBlock=some k->¬B.all k
 | .sub r i e j ty c=>w.ownsRow 0 ty c.e (U h) c.n (c.flat.map D.val)∧j<e∧(∃a n cap,U r=.slice a n cap∧i<n)∧w.cell? ⟨(base (U r)).block,(base (U r)).off+(i*e+j),none⟩=some (U h)∧∀k,(U h).ownBlock=some k->B.mu k=some (base (U r)).block
 | .lbox ty e n cs=>w.ownsRow 0 ty e (U h) n (cs.map (C.val U))∧∀k,(U h).ownBlock=some k->¬B.all k
 | .lview _ e n cs=>(∃a cap,U h=.slice a n cap∧(n<=cap∧(a=none->cap=0))∧(0<n->∃b off,a=some ⟨b,off,none⟩))∧cs.length=n*e∧∀m c,cs[m]?=some c->w.cell? ⟨(base (U h)).block,(base (U h)).off+m,none⟩=some (c.val U)
 | .elist e n cs=>(∃a cap,U h=.slice a n cap∧(n<=cap∧(a=none->cap=0))∧(0<n->∃b off,a=some ⟨b,off,none⟩))∧jbW B.kp (U h)∧cs.length=n*e∧∀m c,cs[m]?=some c->w.cell? ⟨(base (U h)).block,(base (U h)).off+m,none⟩=some (c.val U)
 | .err=>∃t p,U h=.iface t p
 | .atom=>(U h).oneCell'=true
def jfI:zF->Option Nat
 | .map (some b)=>some b
 |_=>none
def O.blk (v:zF):O->Option Nat
 | .box _ _=>some (base v).block
 | .row _ _=>v.ownBlock
 | .arr _ _ _ _=>some (base v).block
 | .map _=>jfI v
 | .rrow _=>v.ownBlock
 | .xrow _ _=>v.ownBlock
 | .mrow _ _ _ _=>v.ownBlock
 | .trow _ _ _ _=>v.ownBlock
 | .lbox _ _ _ _=>v.ownBlock
 |_=>none
def O.isM_blk {o:O} {v:zF} (h:o.isM=true):o.blk v=v.ownBlock:=by cases o<;>first|rfl|cases h
def O.lt (n:Nat):O->Prop
 | .box _ cs=>∀x∈cs,C.lt n x
 | .view r _ _=>r<n
 | .sub r _ _ _ _ _=>r<n
 | .ebox cs=>∀x∈cs,C.lt n x
 | .lbox _ _ _ cs=>∀x∈cs,C.lt n x
 | .lview r _ _ cs=>r<n∧∀x∈cs,C.lt n x
 | .elist _ _ cs=>∀x∈cs,C.lt n x
 |_=>True
structure HRel [Globs] (U:Env) (B:Kd) (hp:Hp) (nx:Nat) (w:zx):Prop where
 ok:∀h o,find hp h=some o->h<nx∧o.lt nx∧o.ok U B w h
 apart:∀h o h' o' k,find hp h=some o->find hp h'=some o'->h≠h'->o.blk (U h)=some k->o'.blk (U h')≠some k
 glob:jbx B w
section
variable [Globs]
def jaJ.below {B:Bd} {w w':zx} {v:zF} {c:Cont} (h:jaJ w v c) (hb:Bel B w w') (ho:jbW B v):jaJ w' v c:=by
 obtain⟨a,cap,rfl,hc,hcells⟩:=h;refine⟨a,cap,rfl,hc,fun hn=>?_⟩;obtain⟨b,off,rfl,hx⟩:=hcells hn;refine⟨b,off,rfl,fun j x hj=>?_⟩;have hlt:=ho _ _ _ rfl hn;exact(hb.cell (p:=⟨b,off+j,none⟩) hlt).trans (hx j x hj)
def jaJ.lt {w:zx} {v:zF} {c:Cont} (h:jaJ w v c) (he:0<c.e):jbW (fun k=>k<w.heap.size) v:=by
 obtain⟨a,cap,rfl,hc,hcells⟩:=h;intro a' n cap' hv hn;cases hv;obtain⟨b,off,hab,hx⟩:=hcells hn;cases hab;have h0:=c.flat_get (i:=0) (j:=0) hn he;exact qj w ⟨b,off+(0*c.e+0),none⟩ (hx _ _ h0)
def NC.at_bel {B:Bd} {w w':zx} {v:zF} {x:NC} (h:x.at B w v) (hb:Bel B w w'):x.at B w' v:=by
 cases x with
 |d x=>exact h
 |r c=>exact⟨h.1.below hb h.2,h.2⟩
def IsX.bel {B:Bd} {w w':zx} {v:zF} {X:XC} (h:IsX B w v X) (hb:Bel B w w'):IsX B w' v X:=by
 obtain⟨a,cap,rfl,hc,hcells⟩:=h;refine⟨a,cap,rfl,hc,fun hn=>?_⟩;obtain⟨b,off,rfl,hB,hx⟩:=hcells hn;refine⟨b,off,rfl,hB,fun i j hi hj=>?_⟩;obtain⟨u,hu,hux⟩:=hx i j hi hj;exact⟨u,(hb.cell (p:=⟨b,off+(i*X.e+j),none⟩) hB).trans hu,NC.at_bel hux hb⟩
def O.ok_below {U:Env} {B:Kd} {h:Nat} {w w':zx} (hb:xA w.heap.size w w') (hB:Old B w):∀{o:O},o.ok U B w h->o.ok U B w' h
 | .box ty cs,⟨k,h1,h2,h3⟩=>⟨k,h1,h2,(hb.block k (zA.1 h3).1).trans h3⟩
 | .row ty c,⟨hr,hk⟩=>by
  refine⟨⟨hr.1,?_⟩,hk⟩;rcases hr.2 with hn|⟨g,cap,cur,h1,h2,h3,h4⟩
  ·exact .inl hn
  ·exact .inr ⟨g,cap,cur,h1,h2,(hb.block g (zA.1 h3).1).trans h3,h4⟩
 | .ext c,⟨h1,h2⟩=>⟨h1.below (jbV hb hB) h2,h2⟩
 | .view r c _,⟨h1,h2⟩=>by
  refine⟨?_,h2⟩;obtain⟨a,cap,hv,hc,hcells⟩:=h1;refine⟨a,cap,hv,hc,fun hn=>?_⟩;obtain⟨b,off,hab,hx⟩:=hcells hn;refine⟨b,off,hab,fun j x hj=>?_⟩;have:=hx j x hj;exact(hb.cell (p:=⟨b,off+j,none⟩) (qj w _ this)).trans this
 | .dead,_=>trivial
 | .nan _,h=>h
 | .err,h=>h
 | .atom,h=>h
 | .ebox cs,⟨k,o,h1,h2,h3⟩=>⟨k,o,h1,h2,fun j c hj=>((jbV hb hB).cell (p:=⟨k,o+j,none⟩) h2).trans (h3 j c hj)⟩
 | .arr ty k e r,⟨b,h1,h2,h3⟩=>⟨b,h1,h2,(hb.block b (zA.1 h3).1).trans h3⟩
 | .xext _,h=>IsX.bel h (jbV hb hB)
 | .map _,⟨b,ents,clock,h1,h2,h3,h4⟩=>⟨b,ents,clock,h1,h2,(hb.block b (zA.1 h3).1).trans h3,h4⟩
 | .rrow c,⟨h1,h2⟩=>by
  refine⟨?_,fun k hk=>⟨(h2 k hk).1,zC (h2 k hk).2 hb.size⟩⟩;obtain⟨a,cap,hv,hc,hcells⟩:=h1;refine⟨a,cap,hv,hc,fun hn=>?_⟩;obtain⟨b,off,hab,hx⟩:=hcells hn;refine⟨b,off,hab,fun j x hj=>?_⟩;have:=hx j x hj;exact(hb.cell (p:=⟨b,off+j,none⟩) (qj w _ this)).trans this
 | .fext c,⟨h1,h2⟩=>⟨h1.below (jrV hb hB) h2,h2⟩
 | .xrow ty X,⟨us,hr,hi,hk⟩=>by
  refine⟨us,⟨hr.1,?_⟩,fun i j h1 h2=>?_,hk⟩
  ·rcases hr.2 with hn|⟨g,cap,cur,h1,h2,h3,h4⟩
   ·exact .inl hn
   ·exact .inr ⟨g,cap,cur,h1,h2,(hb.block g (zA.1 h3).1).trans h3,h4⟩
  ·obtain⟨u,hu,hux⟩:=hi i j h1 h2;exact⟨u,hu,NC.at_bel hux (jrV hb hB)⟩
 | .mrow ty ts X ho,⟨us,hr,hi,hd,hk⟩=>by
  have own:∀{ty e n:Nat} {v:zF} {cs:List zF},w.ownsRow 0 ty e v n cs->w'.ownsRow 0 ty e v n cs:=fun hr=>by
   refine⟨hr.1,?_⟩;rcases hr.2 with hn|⟨g,cap,cur,h1,h2,h3,h4⟩
   ·exact .inl hn
   ·exact .inr ⟨g,cap,cur,h1,h2,(hb.block g (zA.1 h3).1).trans h3,h4⟩
  refine⟨us,own hr,fun i j h1 h2 h3=>?_,hd,hk⟩;obtain⟨u,hu,hux⟩:=hi i j h1 h2 h3;refine⟨u,hu,?_⟩;cases hc:X.cell i j with
  |d x=>rw[hc]at hux;exact hux
  |r c=>rw[hc]at hux;exact⟨own hux.1,hux.2⟩
 | .trow ty ts X m,⟨us,hr,hi,hd,hk⟩=>by
  have own:∀{ty e n:Nat} {v:zF} {cs:List zF},w.ownsRow 0 ty e v n cs->w'.ownsRow 0 ty e v n cs:=fun hr=>by
   refine⟨hr.1,?_⟩;rcases hr.2 with hn|⟨g,cap,cur,h1,h2,h3,h4⟩
   ·exact .inl hn
   ·exact .inr ⟨g,cap,cur,h1,h2,(hb.block g (zA.1 h3).1).trans h3,h4⟩
  refine⟨us,own hr,fun i j h1 h2=>?_,hd,hk⟩;obtain⟨u,hu,hux,hua⟩:=hi i j h1 h2;refine⟨u,hu,fun h3=>?_,fun h3=>NC.at_bel (hua h3) (jbV hb hB)⟩;have hux:=hux h3;cases hc:X.cell i j with
  |d x=>rw[hc]at hux;exact hux
  |r c=>rw[hc]at hux;exact⟨own hux.1,hux.2⟩
 | .sub r i e j ty c,⟨h1,h2,h3,h4,h5⟩=>by
  refine⟨⟨h1.1,?_⟩,h2,h3,(qp (w:=w) (hb.block _ (qj w _ h4))).trans h4,h5⟩;rcases h1.2 with hn|⟨g,cap,cur,q1,q2,q3,q4⟩
  ·exact .inl hn
  ·exact .inr ⟨g,cap,cur,q1,q2,(hb.block g (zA.1 q3).1).trans q3,q4⟩
 | .lbox ty e n cs,⟨hr,hk⟩=>by
  refine⟨⟨hr.1,?_⟩,hk⟩;rcases hr.2 with hn|⟨g,cap,cur,h1,h2,h3,h4⟩
  ·exact .inl hn
  ·exact .inr ⟨g,cap,cur,h1,h2,(hb.block g (zA.1 h3).1).trans h3,h4⟩
 | .lview r e n cs,⟨h1,h2,h3⟩=>⟨h1,h2,fun m c hc=>(qp (w:=w) (hb.block _ (qj w _ (h3 m c hc)))).trans (h3 m c hc)⟩
 | .elist e n cs,⟨h1,h2,h3,h4⟩=>⟨h1,h2,h3,fun m c hc=>(qp (w:=w) (hb.block _ (qj w _ (h4 m c hc)))).trans (h4 m c hc)⟩
def HRel.below {U:Env} {B:Kd} {nx:Nat} {hp:Hp} {w w':zx} (h:HRel U B hp nx w) (hb:xA w.heap.size w w') (hB:Old B w):HRel U B hp nx w' :=
 ⟨fun k o hf=>let ⟨a,b,c⟩:=h.ok k o hf; ⟨a,b,O.ok_below hb hB c⟩,h.apart,h.glob.bel (jbV hb hB)⟩
def O.lt_mono {n m:Nat} (h:n<=m):∀{o:O},o.lt n->o.lt m
 | .box _ _,hx=>fun a ha=>C.lt_mono h (hx a ha)
 | .view _ _ _,hx=>zC hx h
 | .row _ _,_=>trivial
 | .ext _,_=>trivial
 | .dead,_=>trivial
 | .nan _,_=>trivial
 | .err,_=>trivial
 | .atom,_=>trivial
 | .ebox _,hx=>fun a ha=>C.lt_mono h (hx a ha)
 | .arr _ _ _ _,_=>trivial
 | .xext _,_=>trivial
 | .map _,_=>trivial
 | .rrow _,_=>trivial
 | .fext _,_=>trivial
 | .xrow _ _,_=>trivial
 | .mrow _ _ _ _,_=>trivial
 | .trow _ _ _ _,_=>trivial
 | .sub _ _ _ _ _ _,hx=>zC hx h
 | .lbox _ _ _ _,hx=>fun a ha=>C.lt_mono h (hx a ha)
 | .lview _ _ _ _,hx=>⟨zC hx.1 h,fun a ha=>C.lt_mono h (hx.2 a ha)⟩
 | .elist _ _ _,hx=>fun a ha=>C.lt_mono h (hx a ha)
def O.ok_agree {U U':Env} {B:Kd} {nx h:Nat} {w:zx} (ha:jae nx U U') (hh:h<nx):∀{o:O},o.lt nx->o.ok U B w h->o.ok U' B w h
 | .box ty cs,hl,⟨k,h1,h2,h3⟩=>⟨k,(ha h hh).trans h1,h2,by
   rw[h3];congr 3;exact z8 fun a ha'=>(C.val_agree ha (hl a ha')).symm⟩
 | .row ty c,_,hr=>by unfold O.ok at *;rw[ha h hh];exact hr
 | .ext c,_,hr=>by unfold O.ok at *;rw[ha h hh];exact hr
 | .view r c _,hl,hr=>by
  have hl':r<nx:=hl;unfold O.ok at *;rw[ha h hh];simp only;exact hr
 | .dead,_,_=>trivial
 | .nan _,_,hr=>by unfold O.ok at *;rw[ha h hh];exact hr
 | .err,_,hr=>by unfold O.ok at *;rw[ha h hh];exact hr
 | .atom,_,hr=>by unfold O.ok at *;rw[ha h hh];exact hr
 | .ebox cs,hl,⟨k,o,h1,h2,h3⟩=>⟨k,o,(ha h hh).trans h1,h2,fun j c hj=>by rw[C.val_agree ha (hl c (qX hj))];exact h3 j c hj⟩
 | .arr _ _ _ _,_,hr=>by unfold O.ok at *;rw[ha h hh];exact hr
 | .xext _,_,hr=>by unfold O.ok at *;rw[ha h hh];exact hr
 | .map _,_,hr=>by unfold O.ok at *;rw[ha h hh];exact hr
 | .rrow _,_,hr=>by unfold O.ok at *;rw[ha h hh];exact hr
 | .fext _,_,hr=>by unfold O.ok at *;rw[ha h hh];exact hr
 | .xrow _ _,_,hr=>by unfold O.ok at *;rw[ha h hh];exact hr
 | .mrow _ _ _ _,_,hr=>by unfold O.ok at *;rw[ha h hh];exact hr
 | .trow _ _ _ _,_,hr=>by unfold O.ok at *;rw[ha h hh];exact hr
 | .sub r i e j ty c,hl,hr=>by
  have hl':r<nx:=hl;unfold O.ok at *;simp only;rw[ha h hh,ha r hl'];exact hr
 | .lbox ty e n cs,hl,hr=>by
  have e1:cs.map (C.val U')=cs.map (C.val U):=z8 fun a ha'=>C.val_agree ha (hl a ha');unfold O.ok at *;simp only;rw[ha h hh,e1];exact hr
 | .lview r e n cs,hl,⟨h1,h2,h3⟩=>by
  unfold O.ok;simp only;rw[ha h hh];exact⟨h1,h2,fun m c hc=>by rw[C.val_agree ha (hl.2 c (qX hc))];exact h3 m c hc⟩
 | .elist e n cs,hl,⟨h1,h2,h3,h4⟩=>by
  unfold O.ok;simp only;rw[ha h hh];exact⟨h1,h2,h3,fun m c hc=>by rw[C.val_agree ha (hl c (qX hc))];exact h4 m c hc⟩
def HRel.agree {U U':Env} {B:Kd} {nx:Nat} {hp:Hp} {w:zx} (h:HRel U B hp nx w) (ha:jae nx U U'):HRel U' B hp nx w where
 ok k o hf:=let ⟨a,b,c⟩:=h.ok k o hf; ⟨a,b,O.ok_agree ha a b c⟩
 apart k o k' o' b hf hf' hne hb:=by
  rw[ha k (h.ok k o hf).1]at hb;rw[ha k' (h.ok k' o' hf').1];exact h.apart k o k' o' b hf hf' hne hb
 glob:=h.glob
def HRel.mono_nx {U:Env} {B:Kd} {nx nx':Nat} {hp:Hp} {w:zx} (h:HRel U B hp nx w) (hn:nx<=nx'):HRel U B hp nx' w :=
 ⟨fun k o hf=>let ⟨a,b,c⟩:=h.ok k o hf; ⟨zC a hn,O.lt_mono hn b,c⟩,h.apart,h.glob⟩
def O.blk_lt {U:Env} {B:Kd} {h k:Nat} {w:zx}:∀{o:O},o.ok U B w h->o.blk (U h)=some k->k<w.heap.size∧¬B.all k
 | .box ty cs,⟨g,h1,h2,h3⟩,hb=>by
  simp only[O.blk,h1,base,zi]at hb;subst hb;exact⟨(zA.1 h3).1,h2⟩
 | .row ty c,hr,hb=>by
  have:=jn hr.1 k hb;exact⟨this.2,hr.2 k hb⟩
 | .arr ty _ _ _,⟨g,h1,h2,h3⟩,hb=>by
  simp only[O.blk,h1,base,zi]at hb;subst hb;exact⟨(zA.1 h3).1,h2⟩
 | .map _,⟨g,_,_,h1,h2,h3,_⟩,hb=>by
  simp only[O.blk,h1,jfI,zi]at hb;subst hb;exact⟨(zA.1 h3).1,h2⟩
 | .rrow _,⟨_,h2⟩,hb=>⟨(h2 k hb).2,(h2 k hb).1⟩
 | .xrow ty X,⟨us,hr,_,hk⟩,hb=>⟨(jn hr k hb).2,hk k hb⟩
 | .mrow ty ts X ho,⟨us,hr,_,_,hk⟩,hb=>⟨(jn hr k hb).2,hk k hb⟩
 | .trow ty ts X m,⟨us,hr,_,_,hk⟩,hb=>⟨(jn hr k hb).2,hk k hb⟩
 | .lbox ty e n cs,hr,hb=>⟨(jn hr.1 k hb).2,hr.2 k hb⟩
def HRel.add {U U':Env} {B:Kd} {nx:Nat} {hp:Hp} {w w':zx} (h:HRel U B hp nx w) (hb:xA w.heap.size w w') (hB:Old B w)
  (ha:jae nx U U') {o:O} (hl:o.lt (nx+1)) (ho:o.ok U' B w' nx) (hn:∀k,o.blk (U' nx)=some k->w.heap.size<=k) :
  HRel U' B ((nx,o)::hp) (nx+1) w':=by
 have h1:=((h.below hb hB).agree ha).mono_nx (qt nx);have hold:∀k o',find hp k=some o'->k≠nx:=fun k o' hf e=>by have:=(h.ok k o' hf).1;omega
 refine⟨?_,?_,h1.glob⟩
 ·intro k o' hf;simp only[find]at hf;split at hf
  ·rename_i e;subst e;cases hf;exact⟨by omega,hl,ho⟩
  ·exact h1.ok k o' hf
 ·intro k o₁ k' o₂ b hf hf' hne hbk hbk';simp only[find]at hf hf'
  have hlt:∀k o',find hp k=some o'->∀b,o'.blk (U' k)=some b->b<w.heap.size:=fun k o' hk b hbb=>by
   have hk1:=h.ok k o' hk;rw[ha k hk1.1]at hbb;exact(O.blk_lt hk1.2.2 hbb).1
  split at hf
  ·rename_i e;subst e;cases hf;rw[if_neg hne]at hf';have:=hn b hbk;have:=hlt k' o₂ hf' b hbk';omega
  ·split at hf'
   ·rename_i e;subst e;cases hf';have:=hn b hbk';have:=hlt k o₁ hf b hbk;omega
   ·exact h1.apart k o₁ k' o₂ b hf hf' hne hbk hbk'
structure Kd.Le (B B':Kd):Prop where
 kp:∀k,B.kp k->B'.kp k
 fr:∀k,B.fr k->B'.fr k
def Kd.LeM (B B':Kd):Prop:=∀k g,B.mu k=some g->B'.mu k=some g
def NC.own_mono {B B':Kd} {w:zx} {g ty:Nat} {v:zF} {x:NC} (hs:B.LeM B') (h:x.own B w g ty v):x.own B' w g ty v:=by
 cases x with
 |d x=>exact h
 |r c=>exact⟨h.1,fun k hk=>hs k g (h.2 k hk)⟩
def jaS {B B':Bd} {v:zF} (hs:∀k,B k->B' k) (h:jbW B v):jbW B' v:=fun a n cap e hn=>hs _ (h a n cap e hn)
def NC.at_mono {B B':Bd} {w:zx} {v:zF} {x:NC} (hs:∀k,B k->B' k) (h:x.at B w v):x.at B' w v:=by
 cases x with
 |d x=>exact h
 |r c=>exact⟨h.1,jaS hs h.2⟩
def IsX.mono {B B':Bd} {w:zx} {v:zF} {X:XC} (hs:∀k,B k->B' k) (h:IsX B w v X):IsX B' w v X:=by
 obtain⟨a,cap,h1,h2,h3⟩:=h;refine⟨a,cap,h1,h2,fun hn=>?_⟩;obtain⟨b,off,h4,h5,h6⟩:=h3 hn;refine⟨b,off,h4,hs b h5,fun i j hi hj=>?_⟩;obtain⟨u,hu,hux⟩:=h6 i j hi hj;exact⟨u,hu,NC.at_mono hs hux⟩
def O.ok_moreB {U:Env} {B B2:Kd} {w:zx} {h:Nat} (hs:B.Le B2) (hm:B.LeM B2):∀{o:O},o.ok U B w h->(∀k,o.blk (U h)=some k->¬B2.all k)->o.ok U B2 w h
 | .box _ _,⟨k,h1,h2,h3⟩,hn=>⟨k,h1,hn k (by simp[O.blk,h1,base]),h3⟩
 | .row _ _,⟨hr,_⟩,hn=>⟨hr,fun k hk=>hn k hk⟩
 | .ext _,⟨h1,h2⟩,_=>⟨h1,jaS hs.kp h2⟩
 | .view _ _ _,h,_=>h
 | .dead,_,_=>trivial
 | .nan _,h,_=>h
 | .err,h,_=>h
 | .atom,h,_=>h
 | .ebox _,⟨k,o,h1,h2,h3⟩,_=>⟨k,o,h1,hs.kp _ h2,h3⟩
 | .arr _ _ _ _,⟨k,h1,h2,h3⟩,hn=>⟨k,h1,hn k (by simp[O.blk,h1,base]),h3⟩
 | .xext _,h,_=>IsX.mono hs.kp h
 | .map _,⟨b,e,c,h1,h2,h3⟩,hn=>⟨b,e,c,h1,hn b (by simp[O.blk,h1,jfI]),h3⟩
 | .rrow _,⟨h1,h2⟩,hn=>⟨h1,fun k hk=>⟨hn k hk,(h2 k hk).2⟩⟩
 | .fext _,⟨h1,h2⟩,_=>⟨h1,jaS hs.fr h2⟩
 | .xrow _ _,⟨us,h1,h2,_⟩,hn=>⟨us,h1,fun i j hi hj=>let ⟨u,hu,hx⟩:=h2 i j hi hj; ⟨u,hu,NC.at_mono hs.fr hx⟩,fun k hk=>hn k hk⟩
 | .mrow _ _ _ _,⟨us,h1,h2,h3,_⟩,hn=>⟨us,h1,fun i j hi hj ho=>let ⟨u,hu,hx⟩:=h2 i j hi hj ho; ⟨u,hu,NC.own_mono hm hx⟩,h3,fun k hk=>hn k hk⟩
 | .trow _ _ _ _,⟨us,h1,h2,h3,_⟩,hn=>⟨us,h1,fun i j hi hj=>let ⟨u,hu,hx,ha⟩:=h2 i j hi hj; ⟨u,hu,fun hq=>NC.own_mono hm (hx hq),fun hq=>NC.at_mono hs.kp (ha hq)⟩,h3,fun k hk=>hn k hk⟩
 | .sub _ _ _ _ _ _,⟨h1,h2,h3,h4,h5⟩,_=>⟨h1,h2,h3,h4,fun k hk=>hm k _ (h5 k hk)⟩
 | .lbox _ _ _ _,⟨h1,_⟩,hn=>⟨h1,fun k hk=>hn k hk⟩
 | .lview _ _ _ _,h,_=>h
 | .elist _ _ _,⟨h1,h2,h3,h4⟩,_=>⟨h1,jaS hs.kp h2,h3,h4⟩
def HRel.moreB {U:Env} {B B2:Kd} {nx:Nat} {hp:Hp} {w:zx} (hh:HRel U B hp nx w) (hs:B.Le B2) (hm:B.LeM B2) (hn:∀h o k,find hp h=some o->o.blk (U h)=some k->¬B2.all k):HRel U B2 hp nx w :=
 ⟨fun h o hf=>⟨(hh.ok h o hf).1,(hh.ok h o hf).2.1,O.ok_moreB hs hm (hh.ok h o hf).2.2 (fun k hk=>hn h o k hf hk)⟩,hh.apart,hh.glob.sub hs.kp⟩
def HRel.sub {U:Env} {B:Kd} {nx:Nat} {hp hp':Hp} {w:zx} (h:HRel U B hp nx w) (hs:∀k o,find hp' k=some o->find hp k=some o):HRel U B hp' nx w :=
 ⟨fun k o hf=>h.ok k o (hs k o hf),fun k o k' o' b hf hf'=>h.apart k o k' o' b (hs k o hf) (hs k' o' hf'),h.glob⟩
end
abbrev zS:List NK:=[.s,.i .i64,.ints .i64,.ints .i64,.ints .i64,.i .i64,.recs 5,.i .i64]
abbrev zT:=Int × Int × Int × Int × Int × Int × Int × Int × Int × Int × Int × Int × Int × Int × Int × Int × Int × Int × Int × Int × Int × Int × Int × Int × Int × Int × Int × Int × Int × Int × Int × Int
abbrev zN (r:List Int) (x:Int):=Int.toNat (za r x.toNat (0:Int))
abbrev zO:List Nat:=zr 32 0
abbrev zE:List Nat:=[(0:Nat),(0:Nat),(3:Nat),(3:Nat),(3:Nat),(0:Nat),(148:Nat),(0:Nat)]
end Go.Sx
end

section
open Go.RowKit
namespace Go.Sx
def V.int?:V->Option (IntKind × Int)
 | .w (.c (.d (.i k n)))=>some (k,n)
 |_=>none
def V.bool?:V->Option Bool
 | .w (.c (.d (.b x)))=>some x
 |_=>none
def V.str?:V->Option ByteArray
 | .w (.c (.d (.s x)))=>some x
 |_=>none
def V.flt?:V->Option (zZ × Nat)
 | .w (.c (.d (.f k x)))=>some (k,x)
 |_=>none
def V.agg?:V->Option (List C)
 | .w (.a l)=>some l
 |_=>none
def V.cell?:V->Option C
 | .w (.c x)=>some x
 |_=>none
def V.obj?:V->Option Nat
 | .w (.c (.o h))=>some h
 |_=>none
def V.nils?:V->Bool
 | .w (.c (.d (.v (.slice none 0 0))))=>true
 |_=>false
def vi (k:IntKind) (n:Int):V:=.w (.c (.d (.i k n)))
def vb (b:Bool):V:=.w (.c (.d (.b b)))
def vs (s:ByteArray):V:=.w (.c (.d (.s s)))
def vf (k:zZ) (n:Nat):V:=.w (.c (.d (.f k n)))
def V.cpx?:V->Option (zZ × (Nat × Nat))
 | .w (.c (.d (.z k p)))=>some (k,p)
 |_=>none
def vu:V:=.w (.c (.d (.v qe)))
def jpC (k:zZ) (e:Nat) (r:List Nat):V:=.w (.b k e r)
def jbN:zZ->zZ->Bool
 | .f32,.f32=>true
 | .f64,.f64=>true
 |_,_=>false
def V.nan? (hp:Hp):V->Option zZ
 | .w (.c (.o h))=>match find hp h with
  |some (.nan k)=>some k
  |_=>none
 |_=>none
def jkw:zF->C
 | .int k n=>.d (.i k n)
 | .bool b=>.d (.b b)
 | .string s=>.d (.s s)
 | .float k n=>.d (.f k n)
 | .complex k x y=>.d (.z k (x,y))
 |v=>.d (.v v)
def ji5 (U:Env) (v:zF):(jkw v).val U=v:=by cases v<;>rfl
def jkx (n:Nat) (v:zF):(jkw v).lt n:=by cases v<;>exact trivial
def jl3 (k:zZ):List zF->Option (List Nat)
 |[]=>some []
 | .float k' n::r=>if k'=k then(jl3 k r).map (n :: ·)else none
 |_=>none
def bigV (cs:List zF):Option (List Nat):=match qn 8 cs.length with
 |true=>jl3 .f32 cs
 |false=>none
def ofValue:zF->W
 | .agg cs=>match bigV cs.toList with
  |some r=>.b .f32 r.length r
  |none=>.a (cs.toList.map jkw)
 |v=>.c (jkw v)
def jrW {k:zZ}:∀{cs:List zF} {r:List Nat},jl3 k cs=some r->cs=r.map fun n=>yS k n
 |[],r,h=>by simp only[jl3,zi]at h;subst h;rfl
 |c::cs,r,h=>by
  cases c with
  |float k' n =>
   simp only[jl3]at h;split at h
   ·rename_i e;subst e;obtain⟨l,hl,rfl⟩:=z5.1 h;rw[jrW hl];rfl
   ·cases h
  |_=>simp only[jl3]at h;cases h
def jmz (U:Env) (v:zF):(ofValue v).val U=v:=by
 cases v with
 |agg cs =>
  simp only[ofValue];split
  ·rename_i r hb;unfold bigV at hb;split at hb
   ·have h1:=jrW hb;simp only[W.val,frD]
    congr 1
    apply Array.toList_inj.1;simp only;rw[h1,xI];apply xg;intro i;simp only[zK,xq,D.val]
    by_cases hi:i<r.length
    ·rw[js hi];simp[za,zJ hi]
    ·rw[z9 (by simpa using hi),z9 (by simpa using hi)];rfl
   ·cases hb
  ·simp only[W.val,xI,xq,ji5,List.map_id']
 |_=>simp only[ofValue,W.val,ji5]
def jn8 (n:Nat) (v:zF):(ofValue v).lt n:=by
 cases v with
 |agg cs =>
  simp only[ofValue];split
  ·exact trivial
  ·intro x hx;obtain⟨y,_,rfl⟩:=qu.1 hx;exact jkx n y
 |_=>simp only[ofValue,W.lt];exact jkx n _
def jfJ (op:j6) (k:IntKind) (a:Int) (k':IntKind) (b:Int):Option (Prop × V) :=
 match op with
 | .shl=>some (0<=b,vi k (k.wrap (a*2^(min b.toNat k.bits))))
 | .shr=>some (0<=b,vi k (a.fdiv (2^(min b.toNat k.bits))))
 |_ =>
  if k=k' then
   match op with
   | .add=>some (True,vi k (k.wrap (a+b)))
   | .sub=>some (True,vi k (k.wrap (a-b)))
   | .mul=>some (True,vi k (k.wrap (a*b)))
   | .quo=>some (b≠0,vi k (k.wrap (a.tdiv b)))
   | .rem=>some (b≠0,vi k (a.tmod b))
   | .eql=>some (True,vb (a==b))
   | .neq=>some (True,vb (a != b))
   | .lss=>some (True,vb (a<b))
   | .leq=>some (True,vb (a<=b))
   | .gtr=>some (True,vb (a>b))
   | .geq=>some (True,vb (a>=b))
   | .and=>some (True,vi k (k.wrap (jD k.bits a &&& jD k.bits b).toNat))
   | .or=>some (True,vi k (k.wrap (jD k.bits a ||| jD k.bits b).toNat))
   | .xor=>some (True,vi k (k.wrap (jD k.bits a ^^^ jD k.bits b).toNat))
   |_=>none
  else none
def jn9 (op:j6) (k:zZ) (a:Nat) (k':zZ) (b:Nat):Option (Prop × V) :=
 if k=k' then
  match op with
  | .eql=>some (True,vb (k.format.order a b==some .eq))
  | .neq=>some (True,vb (k.format.order a b != some .eq))
  | .lss=>some (True,vb (k.format.order a b==some .lt))
  | .leq=>some (True,vb (k.format.order a b==some .lt||k.format.order a b==some .eq))
  | .gtr=>some (True,vb (k.format.order a b==some .gt))
  | .geq=>some (True,vb (k.format.order a b==some .gt||k.format.order a b==some .eq))
  | .add=>some ((k.format.add a b).isSome=true,vf k ((k.format.add a b).getD 0))
  | .mul=>some ((k.format.mul a b).isSome=true,vf k ((k.format.mul a b).getD 0))
  |_=>none
 else none
def jl4 (op:j6) (a b:Bool):Option (Prop × V) :=
 match op with
 | .eql=>some (True,vb (a==b))
 | .neq=>some (True,vb (!(a==b)))
 |_=>none
def joa (op:j6) (a b:ByteArray):Option (Prop × V) :=
 match op with
 | .eql=>some (True,vb (a==b))
 | .neq=>some (True,vb (a != b))
 |_=>none
def jpD (P:zy) (t:qf):Bool:=match P.underlying t with|some .bool=>true|_=>false
def jbj (P:zy) (t:qf):Option Bool :=
 match P.underlying t with
 |some (.struct _)=>some true
 |some (.array _ _)=>some true
 |some _=>some false
 |none=>none
def szT (P:zy) (t:qf):Option Nat:=(P.info? t).map (·.size)
def jaB (P:zy) (t:qf):Option (List C):=((P.info? t).bind (·.zero)).map fun v=>v.cells.toList.map jkw
def isK:zH->Bool
 | .const _=>true
 |_=>false
def ivC:C->Int
 | .d (.i _ n)=>n
 |_=>0
def bvC:C->Bool
 | .d (.b x)=>x
 |_=>false
def svC:C->ByteArray
 | .d (.s x)=>x
 |_=>xB
def ikC (k:IntKind):C->Bool
 | .d (.i k' _)=>decide (k'=k)
 |_=>false
def bkC:C->Bool
 | .d (.b _)=>true
 |_=>false
def skC:C->Bool
 | .d (.s _)=>true
 |_=>false
def ivs (cs:List C):List Int:=cs.map ivC
def bvs (cs:List C):List Bool:=cs.map bvC
def svs (cs:List C):List ByteArray:=cs.map svC
def iks (k:IntKind) (cs:List C):List Bool:=cs.map (ikC k)
def bks (cs:List C):List Bool:=cs.map bkC
def sks (cs:List C):List Bool:=cs.map skC
def jpE (z:C) (cs:List C) (j:Nat):Option (Prop × C) :=
 match z with
 | .d (.i k _)=>some ((iks k cs).getD j false=true,.d (.i k ((ivs cs).getD j 0)))
 | .d (.b _)=>some ((bks cs).getD j false=true,.d (.b ((bvs cs).getD j false)))
 | .d (.s _)=>some ((sks cs).getD j false=true,.d (.s ((svs cs).getD j xB)))
 |_=>none
def jhw (cs:List C):List C->Nat->Option (Prop × List C)
 |[],_=>some (True,[])
 |z::r,j=>match jpE z cs j with
  |some (p,c)=>match r with
   |[]=>some (p,[c])
   |r=>match jhw cs r (j+1)with
    |some (q,l)=>some (p∧q,c::l)
    |none=>none
  |none=>none
def jky (P:zy) (t:qf) (cs:List C) (j:Nat):Option (Prop × V) :=
 match jbj P t,szT P t,jaB P t with
 |some false,some 1,some [z]=>match jpE z cs j with
  |some (p,c)=>some (p,.w (.c c))
  |none=>none
 |some true,some sz,some z=>match zt z.length sz,qn 1 sz with
  |true,true=>match jhw cs z j with
   |some (p,l)=>some (p,.w (.a l))
   |none=>none
  |_,_=>none
 |_,_,_=>none
def jpF (k:IntKind) (j:Nat) (v:Int):Nat->List C->List C
 |_,[]=>[]
 |m,c::r=>(match c with
  | .d (.i k' x)=>if k'=k then .d (.i k' (cond (zt j m) v x))else c
  |_=>c)::jpF k j v (m+1) r
def jpG (j:Nat) (v:Bool):Nat->List C->List C
 |_,[]=>[]
 |m,c::r=>(match c with
  | .d (.b x)=>.d (.b (cond (zt j m) v x))
  |_=>c)::jpG j v (m+1) r
def jpH (j:Nat) (v:ByteArray):Nat->List C->List C
 |_,[]=>[]
 |m,c::r=>(match c with
  | .d (.s x)=>.d (.s (cond (zt j m) v x))
  |_=>c)::jpH j v (m+1) r
def jpI (cs:List C) (j:Nat) (c:C):Option (Prop × List C) :=
 match c with
 | .d (.i k v)=>some ((iks k cs).getD j false=true,jpF k j v 0 cs)
 | .d (.b v)=>some ((bks cs).getD j false=true,jpG j v 0 cs)
 | .d (.s v)=>some ((sks cs).getD j false=true,jpH j v 0 cs)
 |_=>none
def jl5 (cs:List C) (j:Nat):List C->Option (Prop × List C)
 |[]=>none
 |c::r=>match jpI cs j c with
  |some (p,cs')=>match r with
   |[]=>some (p,cs')
   |r=>match jl5 cs' (j+1) r with
    |some (q,l)=>some (p∧q,l)
    |none=>none
  |none=>none
def jet (P:zy) (t:qf) (cs:List C) (e j:Nat):Option (Prop × V) :=
 match e with
 |0=>match jky P t cs j with
  |some x=>some x
  |none=>none
 |_+1=>none
def jdd (P:zy) (t:qf) (o:O) (i e j:Nat):Option (Prop × V) :=
 match jbj P t,szT P t with
 |some ag,some sz =>
  match o with
  | .box _ cs =>
   match jet P t cs e j with
   |some x=>some x
   |none=>match ag with
    |true=>if i*e+j+sz<=cs.length then some (True,.w (.a ((cs.drop (i*e+j)).take sz)))else none
    |false=>(cs[i*e+j]?).map fun c=>(True,.w (.c c))
  | .ebox cs =>
   match jet P t cs e j with
   |some x=>some x
   |none=>match ag with
    |true=>if i*e+j+sz<=cs.length then some (True,.w (.a ((cs.drop (i*e+j)).take sz)))else none
    |false=>(cs[i*e+j]?).map fun c=>(True,.w (.c c))
  | .arr _ k E r =>
   match ag with
   |true=>match zt sz E,zt (i*e+j) 0 with
    |true,true=>some (True,jpC k E r)
    |_,_=>none
   |false=>some (i*e+j<E,vf k (r.getD (i*e+j) 0))
  | .xext (.st sh l) =>
   match ag with
   |true=>none
   |false=>match zt e sh.length,sh[j]? with
    |true,some (.i k)=>some (i<l.length,vi k (((l.getD i []).getD j (.d (.v qe))).toI))
    |true,some .b=>some (i<l.length,vb (((l.getD i []).getD j (.d (.v qe))).toB))
    |true,some (.f k)=>some (i<l.length,vf k (((l.getD i []).getD j (.d (.v qe))).toF))
    |true,some .s=>some (i<l.length,vs (((l.getD i []).getD j (.d (.v qe))).toS))
    |_,_=>none
  | .xext _=>none
  | .xrow _ (.st sh l) =>
   match ag with
   |true=>none
   |false=>match zt e sh.length,sh[j]? with
    |true,some (.i k)=>some (i<l.length,vi k (((l.getD i []).getD j (.d (.v qe))).toI))
    |true,some .b=>some (i<l.length,vb (((l.getD i []).getD j (.d (.v qe))).toB))
    |true,some (.f k)=>some (i<l.length,vf k (((l.getD i []).getD j (.d (.v qe))).toF))
    |true,some .s=>some (i<l.length,vs (((l.getD i []).getD j (.d (.v qe))).toS))
    |_,_=>none
  | .xrow _ _=>none
  | .mrow _ _ (.st sh l) none =>
   match ag with
   |true=>none
   |false=>match zt e sh.length,sh[j]? with
    |true,some (.i k)=>some (i<l.length,vi k (((l.getD i []).getD j (.d (.v qe))).toI))
    |true,some .b=>some (i<l.length,vb (((l.getD i []).getD j (.d (.v qe))).toB))
    |true,some (.f k)=>some (i<l.length,vf k (((l.getD i []).getD j (.d (.v qe))).toF))
    |true,some .s=>some (i<l.length,vs (((l.getD i []).getD j (.d (.v qe))).toS))
    |_,_=>none
  | .mrow _ _ _ _=>none
  | .trow _ _ _ _=>none
  | .lbox _ E _ cs =>
   match zt e E with
   |true=>match ag with
    |true=>if i*e+j+sz<=cs.length then some (True,.w (.a ((cs.drop (i*e+j)).take sz)))else none
    |false=>(cs[i*e+j]?).map fun c=>(True,.w (.c c))
   |false=>none
  | .lview _ E _ cs =>
   match zt e E with
   |true=>match ag with
    |true=>if i*e+j+sz<=cs.length then some (True,.w (.a ((cs.drop (i*e+j)).take sz)))else none
    |false=>(cs[i*e+j]?).map fun c=>(True,.w (.c c))
   |false=>none
  | .elist E _ cs =>
   match zt e E with
   |true=>match ag with
    |true=>if i*e+j+sz<=cs.length then some (True,.w (.a ((cs.drop (i*e+j)).take sz)))else none
    |false=>(cs[i*e+j]?).map fun c=>(True,.w (.c c))
   |false=>none
  |o =>
   match o.cont with
   |some (.frs k E l) =>
    match ag with
    |true=>match zt e E,zt j 0,zt sz E with
     |true,true,true=>some (i<l.length,jpC k E (l.getD i []))
     |_,_,_=>none
    |false=>match zt e E with
     |true=>some (i<l.length∧j<E,vf k ((l.getD i []).getD j 0))
     |false=>none
   |some (.floats k l) =>
    match zt e 1,zt j 0 with
    |true,true=>match ag with
     |true=>some (i+sz<=l.length,jpC k sz ((l.drop i).take sz))
     |false=>some (i<l.length,vf k (l.getD i 0))
    |_,_=>none
   |some c =>
    match ag with
    |true=>if e=c.e∧j+sz<=e then some (i<c.n,.w (.a ((zG sz).map fun m=>C.d (c.cell i (j+m)))))else none
    |false=>if e=c.e∧j<e then some (i<c.n,.w (.c (.d (c.cell i j))))else none
   |none=>none
 |_,_=>none
def jbZ (P:zy) (t:qf) (cs:List C) (off:Nat):Option V :=
 match jbj P t,szT P t with
 |some true,some sz=>if off+sz<=cs.length then some (.w (.a ((cs.drop off).take sz)))else none
 |some false,some _=>(cs[off]?).map fun c=>.w (.c c)
 |_,_=>none
def W.cells:W->List C
 | .c x=>[x]
 | .a l=>l
 | .b k e r=>(frD k e r).map C.d
def jde (place:Nat->Option (Nat × Nat)) (cells:List C):List (Nat × W)->Option (List C)
 |[]=>some cells
 |(i,v)::rest =>
  match place i with
  |none=>none
  |some (off,size) =>
   if v.cells.length=size∧off+v.cells.length<=cells.length then
    jde place (v.cells.zipIdx.foldl (fun cs (c,j)=>cs.set (off+j) c) cells) rest
   else none
def jd0 (P:zy) (fs:List Field):List (Option (Nat × Nat)):=fs.map fun f=>(szT P f.type).map fun s=>(f.offset,s)
def C.one (hp:Hp):C->Bool
 | .d x=>x.one
 | .o h=>match find hp h with
  |some .dead=>false
  |some _=>true
  |none=>false
 |_=>true
def W.one (hp:Hp):W->Bool
 | .c x=>x.one hp
 | .a _=>true
 | .b _ _ _=>true
def jcp (rd:zH->Option V) (hp:Hp):List (Nat × zH)->Option (List (Nat × W))
 |[]=>some []
 |(i,x)::r =>
  match rd x,jcp rd hp r with
  |some (.w v),some l=>if v.one hp=true then some ((i,v)::l)else none
  |_,_=>none
def job (P:zy) (t:qf) (parts:List (Nat × W)):Option (List C) :=
 match jaB P t,P.underlying t with
 |some z,some (.struct fs)=>match(jd0 P fs.toList).mapM id with
  |some l=>jde (fun i=>l[i]?) z parts
  |none=>none
 |some z,some (.array _ elem)=>match szT P elem with
  |some size=>jde (fun i=>some (i*size,size)) z parts
  |none=>none
 |_,_=>none
def jgC (rd:zH->Option V) (hp:Hp):List zH->Option (List Nat)
 |[]=>some []
 |x::r =>
  match rd x,jgC rd hp r with
  |some (.w (.c (.p h 0 _ 0))),some l=>match find hp h with
   |some (.box _ _)=>some (h::l)
   |some (.ebox _)=>some (h::l)
   |_=>none
  |_,_=>none
def jir (rd:zH->Option V):List zH->Option (List (IntKind × Int))
 |[]=>some []
 |x::r =>
  match rd x,jir rd r with
  |some v,some l=>(v.int?).map (·:: l)
  |_,_=>none
def jpJ (k:IntKind) (a:Int):List (IntKind × Int)->Option V
 |[]=>some (vi k a)
 |(k',b)::r=>if k=k' then jpJ k (if b<a then b else a) r else none
def jpK (k:IntKind) (a:Int):List (IntKind × Int)->Option V
 |[]=>some (vi k a)
 |(k',b)::r=>if k=k' then jpK k (if b>a then b else a) r else none
def f2i (s:zZ) (b:Nat):Int:=((s.decode b).toInt .zero).getD 0
def joc (s:zZ) (k:IntKind) (b:Nat):Bool:=match(s.decode b).toInt .zero with
 |some n=>decide (k.min<=n∧n<=k.max)
 |none=>false
def jpL (b:Nat):Bool:=(jo .f32 b).isNaN
def to64 (b:Nat):Nat:=FloatKind.encode .f64 (jo .f32 b)
def jrM (P:zy) (src dst:qf) (v:V):Option (Prop × V) :=
 match P.underlying src,P.underlying dst,v.int?,v.flt? with
 |some (.int _),some (.int k),some (_,n),_=>some (True,vi k (k.wrap n))
 |some (.int _),some (.float k),some (_,n),_=>some (True,vf k (k.nearest n))
 |some (.float _),some (.int k),_,some (s,b) =>
  some (joc s k b=true,vi k (f2i s b))
 |_,_,_,_=>none
def jeR {α:Type} (f:α->Option Bool):List α->Option Bool
 |[]=>some true
 |[a]=>f a
 |a::r=>match f a,jeR f r with
  |some b,some c=>some (b&&c)
  |_,_=>none
def eqV (P:zy):Nat->qf->V->V->Option Bool
 |0,_,_,_=>none
 |d+1,t,u,v =>
  match P.underlying t,u,v with
  |some (.int _),.w (.c (.d (.i k a))),.w (.c (.d (.i k' b)))=>if k=k' then some (a==b)else none
  |some .bool,.w (.c (.d (.b a))),.w (.c (.d (.b b)))=>some (a==b)
  |some .string,.w (.c (.d (.s a))),.w (.c (.d (.s b)))=>some (a==b)
  |some (.struct fs),.w (.a xs),.w (.a ys)=>match P.stoodInHeld t with
   |false=>jeR (fun f=>match f.name == "_",jbZ P f.type xs f.offset,jbZ P f.type ys f.offset with
    |false,some a,some b=>eqV P d f.type a b
    |_,_,_=>none) fs.toList
   |true=>none
  |some (.array n elem),.w (.a xs),.w (.a ys)=>match szT P elem with
   |some sz=>jeR (fun i=>match jbZ P elem xs (i*sz),jbZ P elem ys (i*sz)with
    |some a,some b=>eqV P d elem a b
    |_,_=>none) (zG n)
   |none=>none
  |_,_,_=>none
def ja3 (P:zy) (op:Op) (rd:zH->Option V) (hp:Hp):Option (Prop × V) :=
 match op with
 | .move x=>(rd x).map fun v=>(True,v)
 | .assign x=>(rd x).map fun v=>(True,v)
 | .pick c a b =>
  match(rd c).bind V.bool? with
  |some true=>(rd a).map fun v=>(True,v)
  |some false=>(rd b).map fun v=>(True,v)
  |none=>none
 | .binOp op t x y _ =>
  match rd x,rd y with
  |some u,some v =>
   match u.int?,v.int? with
   |some (k,a),some (k',b)=>jfJ op k a k' b
   |_,_ =>
    match u.bool?,v.bool? with
    |some a,some b=>if jpD P t=true then jl4 op a b else none
    |_,_ =>
     match u.str?,v.str? with
     |some a,some b=>joa op a b
     |_,_ =>
      match u.flt?,v.flt? with
      |some (k,a),some (k',b)=>jn9 op k a k' b
      |_,_=>match u.agg?,v.agg?,P.eqGuardType P.depth t with
       |some xs,some ys,false=>match op with
        | .eql=>(eqV P 16 t (.w (.a xs)) (.w (.a ys))).map fun b=>(True,vb b)
        | .neq=>(eqV P 16 t (.w (.a xs)) (.w (.a ys))).map fun b=>(True,vb (!b))
        |_=>none
       |_,_,_=>none
  |_,_=>none
 | .unOp op _ x =>
  match op,rd x with
  | .not,some v=>(v.bool?).map fun b=>(True,vb (!b))
  | .neg,some v=>(v.int?).map fun(k,n)=>(True,vi k (k.wrap (0-n)))
  |_,_=>none
 | .convert src dst x=>(rd x).bind (jrM P src dst)
 | .extract t i =>
  match rd t with
  |some (.t l)=>(l[i]?).map fun u=>(True,.w u)
  |_=>none
 | .field t x f =>
  match P.underlying t,(rd x).bind V.agg? with
  |some (.struct fs),some cs=>match fs.toList[f]? with
   |some g=>(jbZ P g.type cs g.offset).map fun v=>(True,v)
   |none=>none
  |_,_=>none
 | .index t x i =>
  match(rd x).bind V.str?,P.underlying t,(rd i).bind V.int? with
  |some s,some .string,some (_,i)=>some (0<=i∧i<(s.size:Int),vi .u8 ((s.data.getD i.toNat 0).toNat:Int))
  |some _,_,_=>none
  |none,_,_ =>
  match P.underlying t,(rd x).bind V.agg?,(rd i).bind V.int? with
  |some (.array len elem),some cs,some (_,n)=>match szT P elem with
   |some size=>match isK i,jky P elem cs (n.toNat*size)with
    |false,some (p,v)=>some ((0<=n∧n<(len:Int))∧p,v)
    |_,_=>(jbZ P elem cs (n.toNat*size)).map fun v=>(0<=n∧n<(len:Int),v)
   |none=>none
  |_,_,_=>none
 | .nilCheck x =>
  match rd x with
  |some (.w (.c (.p h i e j)))=>some (True,.w (.c (.p h i e j)))
  |_=>none
 | .fieldAddr s x f =>
  match P.underlying s,rd x with
  |some (.struct fs),some (.w (.c (.p h i e j)))=>match fs.toList[f]? with
   |some g=>match szT P g.type with
    |some (_+1)=>some (True,.w (.c (.p h i e (j+g.offset))))
    |_=>none
   |none=>none
  |_,_=>none
 | .indexAddr t x ix =>
  match P.underlying t,rd x,(rd ix).bind V.int? with
  |some (.array len elem),some (.w (.c (.p h i e j))),some (_,n)=>match szT P elem with
   |some size=>match isK ix,e with
    |false,1=>some (0<=n∧n<(len:Int),.w (.c (.p h 0 0 (i*e+j+n.toNat*size))))
    |_,_=>some (0<=n∧n<(len:Int),.w (.c (.p h i e (j+n.toNat*size))))
   |none=>none
  |some (.slice elem),some (.w (.c (.o h))),some (_,n)=>match(find hp h).bind O.cont,szT P elem with
   |some c,some size=>if size=c.e then some (0<=n∧n<(c.n:Int),.w (.c (.p h n.toNat c.e 0)))else none
   |_,_=>none
  |_,_,_=>none
 | .load t x =>
  match rd x with
  |some (.w (.c (.p h i e j)))=>match find hp h with
   |some o=>jdd P t o i e j
   |none=>none
  |_=>none
 | .build t parts =>
  match jcp rd hp parts.toList with
  |some l=>(job P t l).map fun cs=>(True,.w (.a cs))
  |none=>none
 | .makeFunc (.func f) first captured =>
  match first.toList,jgC rd hp captured.toList with
  |[],some hs=>some (True,.w (.c (.fn f hs)))
  |[x],some []=>match jgC rd hp [x]with
   |some hs=>some (True,.w (.c (.fb f hs)))
   |none=>none
  |_,_=>none
 | .call c =>
  match c.callee,c.args.toList,c.argTypes.toList with
  | .builtin .len,[x],[t] =>
   match P.underlying t,rd x with
   |some (.slice _),some (.w (.c (.o h)))=>((find hp h).bind O.cont).map fun c=>(True,vi .i64 (c.n:Int))
   |some (.slice _),some v=>if v.nils?=true then some (True,vi .i64 0)else none
   |some .string,some v=>(v.str?).map fun s=>(True,vi .i64 (s.size:Int))
   |some (.array n _),some _=>some (True,vi .i64 (n:Int))
   |_,_=>none
  | .builtin .min,args,_ =>
   match jir rd args with
   |some ((k,a)::r)=>(jpJ k a r).map fun v=>(True,v)
   |_=>none
  | .builtin .max,args,_ =>
   match jir rd args with
   |some ((k,a)::r)=>(jpK k a r).map fun v=>(True,v)
   |_=>none
  |_,_,_=>none
 |_=>none
def jod (op:j6):Option (Prop × V) :=
 match op with
 | .eql | .lss | .leq | .gtr | .geq=>some (True,vb false)
 | .neq=>some (True,vb true)
 |_=>none
def jpM (hp:Hp) (u v:V):Bool :=
 match u.nan? hp,v.nan? hp with
 |some k,some k'=>jbN k k'
 |some k,none=>match v.flt? with
  |some (k',_)=>jbN k k'
  |none=>false
 |none,some k=>match u.flt? with
  |some (k',_)=>jbN k' k
  |none=>false
 |none,none=>false
def jxO (l:List Int):ByteArray:=l.foldl (fun r n=>r.push (UInt8.ofNat n.toNat)) xB
def V.ifn? (hp:Hp):V->Option Bool
 | .w (.c (.d (.v .nilIface)))=>some true
 | .w (.c (.o h))=>match find hp h with
  |some .err=>some false
  |_=>none
 |_=>none
def jv4 (P:zy) (t:qf):Bool:=match P.underlying t with
 |some (.interface _)=>true
 |_=>false
def jxP:zH->Bool
 | .const .nilIface=>true
 | .const (.slice none 0 0)=>true
 |_=>false
def V.sln? (hp:Hp):V->Option Bool
 | .w (.c (.d (.v (.slice none 0 0))))=>some true
 | .w (.c (.o h))=>match find hp h with
  |some o=>match o.cont with
   |some c=>match qh 0 c.n with
    |true=>some false
    |false=>none
   |none=>match o.lst with
    |some (_,n,_)=>match qh 0 n with
     |true=>some false
     |false=>none
    |none=>none
  |none=>none
 |_=>none
def jl6 (P:zy) (t:qf):Bool:=match P.underlying t with
 |some (.slice _)=>true
 |_=>false
def nilQ (P:zy) (hp:Hp) (t:qf) (u:V) (y:zH):Option Bool :=
 match y with
 | .const .nilIface=>match jv4 P t with
  |true=>u.ifn? hp
  |false=>none
 | .const (.slice none 0 0)=>match jl6 P t with
  |true=>u.sln? hp
  |false=>none
 |_=>none
def jfK (op:j6) (b:Bool):Option (Prop × V) :=
 match op with
 | .eql=>some (True,vb b)
 | .neq=>some (True,vb (!b))
 |_=>none
def jaM (rd:zH->Option V):Option zH->Option (Option Int)
 |none=>some none
 |some x=>match(rd x).bind V.int? with
  |some (_,n)=>some (some n)
  |none=>none
def jrX (P:zy) (t:qf) (c:Cont) (i j:Nat):Bool :=
 match jbj P t,szT P t with
 |some true,some sz=>match zt sz c.e with
  |true=>false
  |false=>match zt sz c.flat.length with
   |true=>match zt i 0 with
    |true=>zt j 0
    |false=>false
   |false=>false
 |_,_=>false
def juf {P:zy} {t:qf} {c:Cont} {i j:Nat} (h:jrX P t c i j=true):jbj P t=some true∧szT P t=some c.flat.length∧i=0∧j=0:=by
 unfold jrX at h;split at h
 ·rename_i sz ha hs;split at h
  ·cases h
  ·split at h
   ·rename_i e1;split at h
    ·rename_i e2;have e1:=zb e1;have e2:=zb e2;exact⟨ha,by rw[hs,e1],e2,zb h⟩
    ·cases h
   ·cases h
 ·cases h
def jfs [Globs] (P:zy) (op:Op) (rd:zH->Option V) (hp:Hp):Option (Prop × V) :=
 match op with
 | .binOp op t x y _ =>
  match rd x,rd y with
  |some u,some v=>match u.str?,v.str? with
   |some a,some b=>match op with
    | .add=>some (((a.size+b.size:Nat):Int)<=9223372036854775807,vs (a++b))
    |_=>none
   |_,_=>match jpM hp u v with
    |true=>jod op
    |false=>match nilQ P hp t u y with
     |some b=>jfK op b
     |none=>none
  |_,_=>none
 | .slice t x lo hi none =>
  match P.underlying t,(rd x).bind V.str?,jaM rd lo,jaM rd hi with
  |some .string,some s,some l,some m=>some (0<=l.getD 0∧l.getD 0<=m.getD (s.size:Int)∧m.getD (s.size:Int)<=(s.size:Int),vs (s.extract (l.getD 0).toNat (m.getD (s.size:Int)).toNat))
  |_,_,_,_=>none
 | .convert src dst x =>
  match P.underlying src,P.underlying dst,rd x with
  |some (.slice e),some .string,some (.w (.c (.o h)))=>match P.underlying e,(find hp h).bind O.cont with
   |some (.int .u8),some (.ints .u8 l)=>some (True,vs (jxO l))
   |_,_=>none
  |_,_,_=>none
 | .index t x i =>
  match rd x with
  |some (.w (.b k E r))=>match P.underlying t,(rd i).bind V.int? with
   |some (.array len elem),some (_,i)=>match szT P elem,zt len E,jbj P elem with
    |some 1,true,some false=>some (0<=i∧i<(len:Int),vf k (r.getD i.toNat 0))
    |_,_,_=>none
   |_,_=>none
  |_=>none
 | .sliceToArrayPointer arr x =>
  match P.underlying arr,rd x with
  |some (.array n _),some (.w (.c (.o h)))=>match(find hp h).bind O.cont with
   |some c=>some (n<=c.n∧0<c.n,.w (.c (.p h 0 c.e 0)))
   |none=>none
  |_,_=>none
 | .nilCheck x =>
  match rd x with
  |some (.w (.c (.g n i e j)))=>some (True,.w (.c (.g n i e j)))
  |_=>none
 | .fieldAddr s x f =>
  match P.underlying s,rd x with
  |some (.struct fs),some (.w (.c (.g n i e j)))=>match fs.toList[f]? with
   |some g=>match szT P g.type with
    |some (_+1)=>some (True,.w (.c (.g n i e (j+g.offset))))
    |_=>none
   |none=>none
  |_,_=>none
 | .indexAddr t x ix =>
  match P.underlying t,rd x,(rd ix).bind V.int? with
  |some (.array len elem),some (.w (.c (.g h 0 e 0))),some (_,n)=>match szT P elem with
   |some size=>match zt size e with
    |true=>some (0<=n∧n<(len:Int),.w (.c (.g h n.toNat e 0)))
    |false=>none
   |none=>none
  |some (.slice elem),some (.w (.c (.o h))),some (_,n)=>match(find hp h).bind O.xc,szT P elem with
   |some X,some size=>match zt size X.e with
    |true=>some (0<=n∧n<(X.n:Int),.w (.c (.p h n.toNat X.e 0)))
    |false=>none
   |none,some size=>match(find hp h).bind O.lst with
    |some (e,m,_)=>match zt size e with
     |true=>some (0<=n∧n<(m:Int),.w (.c (.p h n.toNat e 0)))
     |false=>none
    |none=>match(find hp h).bind O.hole with
     |some X=>match zt size X.e with
      |true=>some (0<=n∧n<(X.n:Int),.w (.c (.p h n.toNat X.e 0)))
      |false=>none
     |none=>none
   |_,_=>none
  |_,_,_=>none
 | .load t x =>
  match rd x with
  |some (.w (.c (.g n i e j)))=>match Globs.tab n with
   |some c=>match c with
    | .frs _ _ _=>none
    |c=>match jrX P t c i j with
     |true=>some (True,.w (.a (c.flat.map C.d)))
     |false=>jdd P t (.ext c) i e j
   |none=>none
  |_=>none
 | .call c =>
  match c.callee,c.args.toList,c.argTypes.toList with
  | .builtin .len,[x],[t] =>
   match P.underlying t,rd x with
   |some (.slice _),some (.w (.c (.o h)))=>match(find hp h).bind O.xc with
    |some X=>some (True,vi .i64 (X.n:Int))
    |none=>match(find hp h).bind O.lst with
     |some (_,m,_)=>some (True,vi .i64 (m:Int))
     |none=>none
   |_,_=>none
  | .builtin .complex,[x,y],_ =>
   match(rd x).bind V.flt?,(rd y).bind V.flt? with
   |some (k,a),some (k',b)=>match jbN k k' with
    |true=>some (True,.w (.c (.d (.z k (a,b)))))
    |false=>none
   |_,_=>none
  | .builtin .real,[x],_ =>
   match(rd x).bind V.cpx? with
   |some (k,p)=>some (True,vf k p.1)
   |none=>none
  | .builtin .imag,[x],_ =>
   match(rd x).bind V.cpx? with
   |some (k,p)=>some (True,vf k p.2)
   |none=>none
  |_,_,_=>none
 |_=>none
def ja4 [Globs] (P:zy) (op:Op) (rd:zH->Option V) (hp:Hp):Option (Prop × V) :=
 match ja3 P op rd hp with
 |some x=>some x
 |none=>jfs P op rd hp
section
variable {P:zy} (w:zx)
def jv5 {op:j6} {t:qf} {k k':IntKind} {a b:Int} {ob:Prop} {v:V} (h:jfJ op k a k' b=some (ob,v)) (ho:ob) (U:Env) :
  (binOp op t (.int k a) (.int k' b)).run P w=.ok (v.val U) w∧∀n,v.lt n:=by
 unfold jfJ at h;cases op
 case shl =>
  simp only[zi,qg]at h;obtain⟨rfl,rfl⟩:=h;refine⟨?_,fun n=>trivial⟩;simp only[binOp,Op.shift];rw[if_neg (by omega)];simp[vi,V.val,W.val,C.val,D.val]
 case shr =>
  simp only[zi,qg]at h;obtain⟨rfl,rfl⟩:=h;refine⟨?_,fun n=>trivial⟩;simp only[binOp,Op.shift];rw[if_neg (by omega)];simp[vi,V.val,W.val,C.val,D.val]
 case andNot=>simp at h
 all_goals
  dsimp only at h;split at h
  ·rename_i hk;subst hk;simp only[zi,qg]at h;obtain⟨rfl,rfl⟩:=h;refine⟨?_,fun n=>trivial⟩
   first
    |(simp[binOp,kI,Op.intCmp,vi,vb,V.val,W.val,C.val,D.val];done)
    |(simp[binOp,Op.intDiv,ho,vi,V.val,W.val,C.val,D.val];done)
    |(simp[binOp,Op.intBits,vi,V.val,W.val,C.val,D.val];done)
  ·cases h
def jv6 {op:j6} {t:qf} {k k':zZ} {a b:Nat} {ob:Prop} {v:V} (h:jn9 op k a k' b=some (ob,v)) (ho:ob) (U:Env) :
  (binOp op t (.float k a) (.float k' b)).run P w=.ok (v.val U) w∧∀n,v.lt n:=by
 unfold jn9 at h;split at h
 ·rename_i hk;subst hk;cases op<;>simp only[zi,qg,reduceCtorEq]at h<;>obtain⟨rfl,rfl⟩:=h<;>refine⟨?_,fun n=>trivial⟩
  case add =>
   obtain⟨q,hq⟩:=yM.1 ho;simp[binOp,jZ,hq,vf,V.val,W.val,C.val,D.val]
  case mul =>
   obtain⟨q,hq⟩:=yM.1 ho;simp[binOp,jZ,hq,vf,V.val,W.val,C.val,D.val]
  all_goals simp[binOp,kJ,vb,V.val,W.val,C.val,D.val]
 ·cases h
def jug {op:j6} {t:qf} {a b:Bool} {ob:Prop} {v:V} (h:jl4 op a b=some (ob,v)) (ht:jpD P t=true) (U:Env) :
  (binOp op t (.bool a) (.bool b)).run P w=.ok (v.val U) w∧∀n,v.lt n:=by
 have hu:P.underlying t=some .bool:=by
  unfold jpD at ht;split at ht
  ·assumption
  ·cases ht
 unfold jl4 at h
 cases op<;>simp only[zi,qg,reduceCtorEq]at h<;>obtain⟨_,rfl⟩:=h<;>refine⟨?_,fun n=>trivial⟩ <;>
  (simp only[binOp];simp[gh,gV,fv w 9999 t a b hu,vb,V.val,W.val,C.val,D.val])
def jv7 {op:j6} {t:qf} {a b:ByteArray} {ob:Prop} {v:V} (h:joa op a b=some (ob,v)) (U:Env) :
  (binOp op t (.string a) (.string b)).run P w=.ok (v.val U) w∧∀n,v.lt n:=by
 unfold joa at h
 cases op<;>simp only[zi,qg,reduceCtorEq]at h<;>obtain⟨_,rfl⟩:=h<;>refine⟨?_,fun n=>trivial⟩ <;>
  simp[binOp,kK,vb,V.val,W.val,C.val,D.val,bne,f0]
def jgH {t:qf} {b:Bool} (h:jbj P t=some b):(isAgg t).run P w=.ok b w:=by
 unfold jbj at h;split at h<;>simp_all [isAgg,zI]
def jaD {t:qf} {n:Nat} (h:szT P t=some n):(sizeOf t).run P w=.ok n w:=by
 unfold szT at h;cases hi:P.info? t with
 |none=>simp[hi]at h
 |some i=>simp[hi]at h;simp[sizeOf,yP,hi,h]
def jby {t:qf} {a:Addr} {cs:List zF} (h:jbj P t=some true) (hs:szT P t=some cs.length)
  (hc:∀j v,cs[j]?=some v->w.cell? (a.add j)=some v):(jE t a).run P w=.ok (.agg cs.toArray) w:=by
 simp only[jE,zn,jgH w h,zh,if_true,jaD w hs,gi w a cs hc,zp]
def jaV {t:qf} {a:Addr} {v:zF} (h:jbj P t=some false) (hc:w.cell? a=some v):(jE t a).run P w=.ok v w:=by
 simp only[jE,zn,jgH w h,zh,qN,if_false,run_load,hc]
def jaL (b o n:Nat):(⟨b,o,none⟩:Addr).add n=⟨b,o+n,none⟩:=by
 unfold j7;split
 ·rename_i h;subst h;rfl
 ·rfl
end
end Go.Sx
end

section
open Go.RowKit
namespace Go.Sx
def jdj {w:zx} {ty:Nat} {v:zF} {c:Cont} (h:w.ownsRow 0 ty c.e v c.n (c.flat.map D.val)):jaJ w v c:=by
 rcases h.2 with ⟨h1,hn⟩|⟨g,cap,cur,h1,h2,h3,h4,h5,h6,h7⟩
 ·exact⟨none,0,by rw[hn];exact h1,⟨by omega,fun _=>rfl⟩,fun h=>by omega⟩
 ·refine⟨some ⟨g,0,none⟩,cap,h1,⟨h4,fun h=>by cases h⟩,fun _=>⟨g,0,rfl,fun j x hj=>?_⟩⟩;rw[zP,xj w g j cur ty (0,0) h3];have h2:(cur.toList.take (c.n*c.e))[j]?=some x.val:=by rw[h7,zK,hj];rfl
  rw[z6]at h2;split at h2
  ·simpa using h2
  ·cases h2
def jrY {B:Kd} {w:zx} {g ty:Nat} {v:zF} {x:NC} (h:x.own B w g ty v):x.at B.all w v:=by
 cases x with
 |d x=>exact h
 |r c=>exact⟨jdj h.1,fun a n cap hv _=>.inr (by rw[h.2 a.block (by rw[hv];rfl)];simp)⟩
def jeS [Globs] {U:Env} {B:Kd} {w:zx} {h:Nat} {o:O} {X:XC} (hok:o.ok U B w h) (hx:o.xc=some X):∃a cap,U h=.slice a X.n cap∧(X.n<=cap∧(a=none->cap=0)) ∧
  (0<X.n->∃b off,a=some ⟨b,off,none⟩∧∀i j,i<X.n->j<X.e->∃u,w.cell? ⟨b,off+(i*X.e+j),none⟩=some u∧(X.cell i j).at B.all w u):=by
 cases o with
 |xext X' =>
  simp only[O.xc,zi]at hx;subst hx;obtain⟨a,cap,h1,h2,h3⟩:=hok;exact⟨a,cap,h1,h2,fun hn=>let ⟨b,off,h4,_,h6⟩:=h3 hn; ⟨b,off,h4,fun i j hi hj=>let ⟨u,hu,hx⟩:=h6 i j hi hj; ⟨u,hu,NC.at_mono (fun _ h=>.inl h) hx⟩⟩⟩
 |xrow ty X' =>
  simp only[O.xc,zi]at hx;subst hx;obtain⟨us,hr,hi,_⟩:=hok;rcases hr.2 with ⟨h1,hn⟩|⟨g,cap,cur,h1,h2,h3,h4,h5,h6,h7⟩
  ·exact⟨none,0,by rw[hn];exact h1,⟨by omega,fun _=>rfl⟩,fun h=>by omega⟩
  ·refine⟨some ⟨g,0,none⟩,cap,h1,⟨h4,fun h=>by cases h⟩,fun _=>⟨g,0,rfl,fun i j h8 h9=>?_⟩⟩;obtain⟨u,hu,hux⟩:=hi i j h8 h9;refine⟨u,?_,NC.at_mono (fun k h=>.inl (B.sub k h)) hux⟩;rw[zP,xj w g _ cur ty (0,0) h3];have h2:(cur.toList.take (X'.n*X'.e))[i*X'.e+j]?=some u:=by rw[h7,hu]
   rw[z6]at h2;split at h2
   ·simpa using h2
   ·cases h2
 |mrow ty ts X' ho =>
  cases ho with
  |some _=>simp[O.xc]at hx
  |none =>
  simp only[O.xc,zi]at hx;subst hx;obtain⟨us,hr,hi,_⟩:=hok;rcases hr.2 with ⟨h1,hn⟩|⟨g,cap,cur,h1,h2,h3,h4,h5,h6,h7⟩
  ·exact⟨none,0,by rw[hn];exact h1,⟨by omega,fun _=>rfl⟩,fun h=>by omega⟩
  ·refine⟨some ⟨g,0,none⟩,cap,h1,⟨h4,fun h=>by cases h⟩,fun _=>⟨g,0,rfl,fun i j h8 h9=>?_⟩⟩;obtain⟨u,hu,hux⟩:=hi i j h8 h9 (by simp);refine⟨u,?_,jrY hux⟩;rw[zP,xj w g _ cur ty (0,0) h3];have h2:(cur.toList.take (X'.n*X'.e))[i*X'.e+j]?=some u:=by rw[h7,hu]
   rw[z6]at h2;split at h2
   ·simpa using h2
   ·cases h2
 |trow ty ts X' m =>
  simp only[O.xc,zi]at hx;subst hx;obtain⟨us,hr,hi,_⟩:=hok;rcases hr.2 with ⟨h1,hn⟩|⟨g,cap,cur,h1,h2,h3,h4,h5,h6,h7⟩
  ·exact⟨none,0,by rw[hn];exact h1,⟨by omega,fun _=>rfl⟩,fun h=>by omega⟩
  ·refine⟨some ⟨g,0,none⟩,cap,h1,⟨h4,fun h=>by cases h⟩,fun _=>⟨g,0,rfl,fun i j h8 h9=>?_⟩⟩;obtain⟨u,hu,hux,hua⟩:=hi i j h8 h9;refine⟨u,?_,?_⟩
   ·rw[zP,xj w g _ cur ty (0,0) h3];have h2:(cur.toList.take (X'.n*X'.e))[i*X'.e+j]?=some u:=by rw[h7,hu]
    rw[z6]at h2;split at h2
    ·simpa using h2
    ·cases h2
   ·by_cases hq:i*X'.e+j<m
    ·exact jrY (hux hq)
    ·exact NC.at_mono (fun _ h=>.inl h) (hua (by omega))
 |_=>simp[O.xc]at hx
def jxQ [Globs] {U:Env} {B:Kd} {w:zx} {h:Nat} {o:O} {X:XC} (hok:o.ok U B w h) (hx:o.hole=some X):∃a cap,U h=.slice a X.n cap∧(0<X.n->∃b off,a=some ⟨b,off,none⟩):=by
 cases o with
 |mrow ty ts X' ho =>
  cases ho with
  |none=>simp[O.hole]at hx
  |some _ =>
  simp only[O.hole,zi]at hx;subst hx;obtain⟨us,hr,hi,_⟩:=hok;rcases hr.2 with ⟨h1,hn⟩|⟨g,cap,cur,h1,h2,h3,h4,h5,h6,h7⟩
  ·exact⟨none,0,by rw[hn];exact h1,fun h=>by omega⟩
  ·exact⟨some ⟨g,0,none⟩,cap,h1,fun _=>⟨g,0,rfl⟩⟩
 |_=>simp[O.hole]at hx
def jav (U:Env) (nx:Nat) (rd:zH->Option V) (a:Act):Prop:=∀x u,rd x=some u->u.lt nx∧a.eval x=u.val U
section
variable [Globs] {P:zy} {U:Env} {B:Kd} {nx:Nat} {hp:Hp} {w:zx} {rd:zH->Option V} {a:Act}
def V.int?_eq {v:V} {k:IntKind} {n:Int} (h:v.int?=some (k,n)):v=vi k n:=by
 unfold V.int? at h;split at h<;>simp_all [vi]
def V.bool?_eq {v:V} {b:Bool} (h:v.bool?=some b):v=vb b:=by
 unfold V.bool? at h;split at h<;>simp_all [vb]
def V.str?_eq {v:V} {b:ByteArray} (h:v.str?=some b):v=vs b:=by
 unfold V.str? at h;split at h<;>simp_all [vs]
def V.flt?_eq {v:V} {k:zZ} {n:Nat} (h:v.flt?=some (k,n)):v=vf k n:=by
 unfold V.flt? at h;split at h<;>simp_all [vf]
def V.cpx?_eq {v:V} {k:zZ} {p:Nat × Nat} (h:v.cpx?=some (k,p)):v=.w (.c (.d (.z k p))):=by
 unfold V.cpx? at h;split at h<;>simp at h;obtain⟨rfl,rfl⟩:=h;rfl
def V.agg?_eq {v:V} {l:List C} (h:v.agg?=some l):v=.w (.a l):=by
 unfold V.agg? at h;split at h<;>simp_all
@[simp] theorem vi_val (k:IntKind) (n:Int):(vi k n).val U=.int k n:=rfl
@[simp] theorem vb_val (b:Bool):(vb b).val U=.bool b:=rfl
@[simp] theorem vs_val (b:ByteArray):(vs b).val U=.string b:=rfl
@[simp] theorem vf_val (k:zZ) (n:Nat):(vf k n).val U=.float k n:=rfl
@[simp] theorem cell_val (x:C):(V.w (.c x)).val U=x.val U:=rfl
@[simp] theorem agg_val (l:List C):(V.w (.a l)).val U=.agg (l.map (C.val U)).toArray:=rfl
def jcM {t:qf} {cs:List C} {off:Nat} {v:V} (h:jbZ P t cs off=some v) (hl:∀x∈cs,C.lt nx x) :
  (part t (cs.map (C.val U)).toArray off).run P w=.ok (v.val U) w∧v.lt nx:=by
 unfold jbZ at h;split at h
 ·rename_i sz ht hs;split at h
  ·rename_i hle;cases h;refine⟨?_,fun x hx=>hl x (yj (xU hx))⟩;simp only[part,zn,jgH w ht,zh,if_true,jaD w hs,zp,agg_val]
   congr 2
   apply qy;simp[List.map_take,List.map_drop,List.take_drop]
  ·cases h
 ·rename_i sz ht hs;cases hc:cs[off]? with
  |none=>simp[hc]at h
  |some c =>
   simp[hc]at h;subst h;refine⟨?_,hl c (qX hc)⟩;simp only[part,zn,jgH w ht,zh,qN,if_false];simp[hc]
 ·cases h
def jkz {α:Type} {f:α->Option Bool} {a:α} {r:List α} {b:Bool} (h:jeR f (a::r)=some b):∃x y,f a=some x∧jeR f r=some y∧b=(x&&y):=by
 cases r with
 |nil=>exact⟨b,true,h,rfl,by simp⟩
 |cons c r =>
  simp only[jeR]at h;split at h
  ·rename_i x y hx hy;cases h;exact⟨x,y,hx,hy,rfl⟩
  ·cases h
def jis (e:Nat):∀(d:Nat) (t:qf) (u v:V) (b:Bool),eqV P d t u v=some b->u.lt nx->v.lt nx->(gJ (d+e) t (u.val U) (v.val U)).run P w=.ok b w
 |0,_,_,_,_,h,_,_=>by cases h
 |d+1,t,u,v,b,h,hu,hv=>by
  have hde:d+1+e=(d+e)+1:=by omega
  rw[hde];unfold eqV at h;split at h
  ·rename_i k0 k a k' a' ht;split at h
   ·rename_i hk;cases h;subst hk;exact run_equalIn_int w (d+e) t k k0 a a' ht
   ·cases h
  ·rename_i a a' ht;cases h;exact fv w (d+e) t a a' ht
  ·rename_i a a' ht;cases h;rw[f0];exact run_equalIn_string w (d+e) t a a' ht
  ·rename_i fs xs ys ht;split at h
   ·rename_i hs;have hf:P.fieldsOf t=fs:=by simp[Program.fieldsOf,ht]
    rw[agg_val,agg_val,run_equalIn_struct w (d+e) t _ _ (by rw[hf];exact ht) hs,hf]
    generalize fs.toList=l at h
    induction l generalizing b with
    |nil=>cases h;rfl
    |cons f r ih =>
     obtain⟨x,y,hx,hy,rfl⟩:=jkz h;have ih:=ih y hy;split at hx
     ·rename_i a c hn ha hc;have hpa:=jcM (U:=U) (w:=w) ha hu;have hpc:=jcM (U:=U) (w:=w) hc hv;have hrec:=jis e d f.type a c x hx hpa.2 hpc.2;unfold Op.eqFields;have hne:f.name ≠ "_" := by simpa using hn
      rw[if_pos hne];simp only[zn,hpa.1,hpc.1,zh,hrec];cases x
      ·simp
      ·simpa using ih
     ·cases hx
   ·cases h
  ·rename_i n elem xs ys ht;split at h
   ·rename_i sz hsz;simp only[agg_val,gJ,zn,zI ht,zh,jaD w hsz];simp only[je,gS];have hl:List.range' 0 ((n-0+1-1)/1) 1=zG n:=by simp[List.range_eq_range']
    rw[hl]
    generalize zG n=l at h
    induction l generalizing b with
    |nil=>cases h;simp
    |cons i r ih =>
     obtain⟨x,y,hx,hy,rfl⟩:=jkz h;have ih:=ih y hy;split at hx
     ·rename_i a c ha hc;have hpa:=jcM (U:=U) (w:=w) ha hu;have hpc:=jcM (U:=U) (w:=w) hc hv;have hrec:=jis e d elem a c x hx hpa.2 hpc.2;simp only[List.forIn_cons,zn,hpa.1,hpc.1,zh,hrec];cases x
      ·simp
      ·simpa using ih
     ·cases hx
   ·cases h
  ·cases h
def jeu {t:qf} {k:zZ} {E:Nat} {r:List Nat} {ad:Addr} (hag:jbj P t=some true) (hsz:szT P t=some E)
  (hc:∀m,m<E->w.cell? (ad.add m)=some (.float k (r.getD m 0))):(jE t ad).run P w=.ok ((jpC k E r).val U) w:=by
 refine jby w hag (by simpa using hsz) ?_;intro m u hm;simp only[frD,xI,zK,z5]at hm;obtain⟨y,hy,rfl⟩:=hm;obtain⟨hlt2,hy3⟩:=zB.1 hy;simp at hlt2 hy3;subst hy3;exact hc _ hlt2
def jej {α:Type} {f:α->Bool} {cs:List α} {j:Nat} (h:(cs.map f).getD j false=true):∃x,cs[j]?=some x∧f x=true:=by
 rw[qB,zK]at h;cases hx:cs[j]? with
 |none=>rw[hx]at h;cases h
 |some x=>rw[hx]at h;exact⟨x,rfl,h⟩
def jkA {α β:Type} {f:α->β} {cs:List α} {j:Nat} {x:α} {d:β} (h:cs[j]?=some x):(cs.map f).getD j d=f x:=by
 rw[qB,zK,h];rfl
def jkB {z c:C} {cs:List C} {j:Nat} {p:Prop} (h:jpE z cs j=some (p,c)) (hp:p):cs[j]?=some c:=by
 unfold jpE at h;split at h
 ·rename_i k _;cases h;obtain⟨x,hx,hk⟩:=jej hp;unfold ivs;rw[hx,jkA hx];unfold ikC at hk;split at hk
  ·rename_i k' n;have:=of_decide_eq_true hk;subst this;rfl
  ·cases hk
 ·cases h;obtain⟨x,hx,hk⟩:=jej hp;unfold bvs;rw[hx,jkA hx];unfold bkC at hk;split at hk
  ·rfl
  ·cases hk
 ·cases h;obtain⟨x,hx,hk⟩:=jej hp;unfold svs;rw[hx,jkA hx];unfold skC at hk;split at hk
  ·rfl
  ·cases hk
 ·cases h
def joe {cs:List C}:∀{z l:List C} {j:Nat} {p:Prop},jhw cs z j=some (p,l)->p->l.length=z.length∧∀m,m<z.length->cs[j+m]?=l[m]?
 |[],l,j,p,h,hp=>by
  simp only[jhw,zi,qg]at h;obtain⟨_,rfl⟩:=h;exact⟨rfl,fun m hm=>absurd hm (Nat.not_lt_zero _)⟩
 |z::r,l,j,p,h,hp=>by
  simp only[jhw]at h;split at h
  ·rename_i p1 c hc;split at h
   ·cases h;refine⟨rfl,fun m hm=>?_⟩;have:m=0:=by simp only[z4,List.length_nil]at hm;omega
    subst this;rw[qY,jkB hc hp];rfl
   ·split at h
    ·rename_i q l' hl;cases h;have ih:=joe hl hp.2;refine⟨by simp only[z4,ih.1],fun m hm=>?_⟩;cases m with
     |zero=>rw[qY,jkB hc hp.1];rfl
     |succ m =>
      have:=ih.2 m (by simpa using hm);rw[Nat.add_right_comm,qU]at this;rw[this];rfl
    ·cases h
  ·cases h
def jqB {t:qf} {cs:List C} {j:Nat} {p:Prop} {v:V} (h:jky P t cs j=some (p,v)) (hp:p):jbZ P t cs j=some v:=by
 unfold jky at h;unfold jbZ;split at h
 ·rename_i z ha hs hz;split at h
  ·rename_i q c hc;cases h;rw[ha,hs];simp only[jkB hc hp];rfl
  ·cases h
 ·rename_i sz z ha hs hz;split at h
  ·rename_i e1 e2;have e1:=zb e1;have e2:=Nat.le_of_ble_eq_true e2;split at h
   ·rename_i q l hl;cases h;obtain⟨h1,h2⟩:=joe hl hp;rw[ha,hs]
    have hle:j+sz<=cs.length:=by
     have h3:=h2 (sz-1) (by omega)
     have h4:l[sz-1]?≠none:=fun e=>by
      have:=gu.1 e;omega
     rw[<-h3]at h4;have h5:¬cs.length<=j+(sz-1):=fun e=>h4 (gu.2 e);omega
    have hl:(cs.drop j).take sz=l:=by
     apply xg;intro m
     by_cases hm:m<sz
     ·rw[List.getElem?_take_of_lt hm,xN,h2 m (by omega)]
     ·rw[z9 (by rw[qP];omega),z9 (by omega)]
    simp only[hle,if_true,hl]
   ·cases h
  ·cases h
 ·cases h
def jv8 {t:qf} {cs:List C} {i e j:Nat} {p:Prop} {v:V} (h:jet P t cs e j=some (p,v)) (hp:p):jbZ P t cs (i*e+j)=some v:=by
 unfold jet at h;split at h
 ·split at h
  ·rename_i x hx;cases h;rw[fx,zP];exact jqB hx hp
  ·cases h
 ·cases h
def jnc {k:IntKind} {j:Nat} {v:Int}:∀(cs:List C) (m i:Nat),(jpF k j v m cs)[i]?=(cs[i]?).map fun c=>match c with
  | .d (.i k' x)=>if k'=k then .d (.i k' (cond (zt j (m+i)) v x))else c
  |_=>c
 |[],m,i=>by simp[jpF]
 |c::r,m,0=>by
  simp only[jpF,qF,zQ,qY]
  all_goals (cases c with
   |d x=>cases x<;>rfl
   |_=>rfl)
 |c::r,m,i+1=>by
  simp only[jpF,jB];rw[jnc r (m+1) i,show m+1+i=m+(i+1)from by omega]
def jnd {j:Nat} {v:Bool}:∀(cs:List C) (m i:Nat),(jpG j v m cs)[i]?=(cs[i]?).map fun c=>match c with
  | .d (.b x)=>.d (.b (cond (zt j (m+i)) v x))
  |_=>c
 |[],m,i=>by simp[jpG]
 |c::r,m,0=>by
  simp only[jpG,qF,zQ,qY]
  all_goals (cases c with
   |d x=>cases x<;>rfl
   |_=>rfl)
 |c::r,m,i+1=>by
  simp only[jpG,jB];rw[jnd r (m+1) i,show m+1+i=m+(i+1)from by omega]
def jne {j:Nat} {v:ByteArray}:∀(cs:List C) (m i:Nat),(jpH j v m cs)[i]?=(cs[i]?).map fun c=>match c with
  | .d (.s x)=>.d (.s (cond (zt j (m+i)) v x))
  |_=>c
 |[],m,i=>by simp[jpH]
 |c::r,m,0=>by
  simp only[jpH,qF,zQ,qY]
  all_goals (cases c with
   |d x=>cases x<;>rfl
   |_=>rfl)
 |c::r,m,i+1=>by
  simp only[jpH,jB];rw[jne r (m+1) i,show m+1+i=m+(i+1)from by omega]
def jrZ {cs cs':List C} {j:Nat} {x c:C} (hx:cs[j]?=some x) (hj:cs'[j]?=some c) (ho:∀i,i≠j->cs'[i]?=cs[i]?):cs'=cs.set j c:=by
 apply xg;intro i;rw[xh];split
 ·rename_i e;subst e;rw[if_pos (zB.1 hx).1,hj]
 ·rename_i e;exact ho i (fun h=>e h.symm)
def jr0 {i j:Nat} (h:i≠j):zt j i=false:=by
 cases hb:zt j i with
 |false=>rfl
 |true=>exact absurd (zb hb).symm h
def jqC {cs cs':List C} {j:Nat} {c:C} {p:Prop} (h:jpI cs j c=some (p,cs')) (hp:p):cs'=cs.set j c∧j<cs.length:=by
 have beq_self:zt j j=true:=Nat.beq_refl j;unfold jpI at h;split at h
 ·rename_i k v;cases h;obtain⟨x,hx,hk⟩:=jej hp;refine⟨jrZ hx ?_ fun i hi=>?_,(zB.1 hx).1⟩
  ·rw[jnc,hx];unfold ikC at hk;split at hk
   ·have:=of_decide_eq_true hk;subst this;simp[beq_self]
   ·cases hk
  ·rw[jnc];cases hc:cs[i]? with
   |none=>rfl
   |some y =>
    simp only[zQ,zP,jr0 hi,cond_false];split<;>simp
 ·rename_i v;cases h;obtain⟨x,hx,hk⟩:=jej hp;refine⟨jrZ hx ?_ fun i hi=>?_,(zB.1 hx).1⟩
  ·rw[jnd,hx];unfold bkC at hk;split at hk
   ·simp[beq_self]
   ·cases hk
  ·rw[jnd];cases hc:cs[i]? with
   |none=>rfl
   |some y =>
    simp only[zQ,zP,jr0 hi,cond_false];split<;>simp
 ·rename_i v;cases h;obtain⟨x,hx,hk⟩:=jej hp;refine⟨jrZ hx ?_ fun i hi=>?_,(zB.1 hx).1⟩
  ·rw[jne,hx];unfold skC at hk;split at hk
   ·simp[beq_self]
   ·cases hk
  ·rw[jne];cases hc:cs[i]? with
   |none=>rfl
   |some y =>
    simp only[zQ,zP,jr0 hi,cond_false];split<;>simp
 ·cases h
def jqD {cs:List C} {j:Nat} {c:C} (h:j<cs.length):cs.set j c=cs.take j++[c]++cs.drop (j+1):=by
 rw[List.set_eq_take_append_cons_drop,if_pos h];simp
def jof:∀{ds cs cs':List C} {j:Nat} {p:Prop},jl5 cs j ds=some (p,cs')->p->cs'=cs.take j++ds++cs.drop (j+ds.length)∧j+ds.length<=cs.length
 |[],_,_,_,_,h,_=>by cases h
 |c::r,cs,cs',j,p,h,hp=>by
  simp only[jl5]at h;split at h
  ·rename_i p1 cs1 h1;split at h
   ·cases h;obtain⟨rfl,hj⟩:=jqC h1 hp;exact⟨jqD hj,hj⟩
   ·rename_i hr;split at h
    ·rename_i q l hl;cases h;obtain⟨rfl,hj⟩:=jqC h1 hp.1;obtain⟨rfl,hl2⟩:=jof hl hp.2;rw[List.length_set]at hl2;refine⟨?_,by rw[z4];omega⟩;rw[jqD hj,z4]
     have e1:(cs.take j++[c]++cs.drop (j+1)).take (j+1)=cs.take j++[c]:=by
      rw[List.take_append_of_le_length (by simp;omega)];exact yv (by simp;omega)
     have e2:(cs.take j++[c]++cs.drop (j+1)).drop (j+1+r.length)=cs.drop (j+(r.length+1)):=by
      rw[List.drop_append,List.drop_of_length_le (by simp;omega),List.nil_append,List.drop_drop]
      congr 1
      simp;omega
     rw[e1,e2];simp
    ·cases h
  ·cases h
def jb2 {o:O} {h e n:Nat} {cs:List C} (hok:o.ok U B w h) (hl:o.lst=some (e,n,cs)):(∃a cap,U h=.slice a n cap∧(n<=cap∧(a=none->cap=0))∧(0<n->∃b off,a=some ⟨b,off,none⟩))∧cs.length=n*e ∧
  ∀m c,cs[m]?=some c->w.cell? ⟨(base (U h)).block,(base (U h)).off+m,none⟩=some (c.val U):=by
 cases o with
 |lbox ty e' n' cs' =>
  cases hl;obtain⟨hr,_⟩:=hok;have hlen:cs.length=n*e:=by simpa using hr.1
  rcases hr.2 with ⟨h1,h2⟩|⟨g,cap,cur,h1,h2,h3,h4,h5,h6,h7⟩
  ·subst h2;refine⟨⟨none,0,h1,⟨zu 0,fun _=>rfl⟩,fun h=>absurd h (j4 0)⟩,hlen,fun m c hc=>?_⟩;have:=(zB.1 hc).1;rw[hlen]at this;omega
  ·refine⟨⟨_,cap,h1,⟨h4,fun h=>by cases h⟩,fun _=>⟨_,_,rfl⟩⟩,hlen,fun m c hc=>?_⟩;rw[h1];simp only[base,zP];rw[xj w g _ cur ty (0,0) h3];have h8:(cur.toList.take (n*e))[m]?=some (c.val U):=by rw[h7,zK,hc];rfl
   rw[z6]at h8;split at h8
   ·simpa using h8
   ·cases h8
 |lview r e' n' cs' =>
  cases hl;exact hok
 |elist e' n' cs' =>
  cases hl;exact⟨hok.1,hok.2.2⟩
 |_=>cases hl
def jkC {t:qf} {h i e j:Nat} {o:O} {ob:Prop} {v:V} (hh:HRel U B hp nx w) (hf:find hp h=some o)
  (hv:jdd P t o i e j=some (ob,v)) (ho:ob) :
  (jE t ⟨(base (U h)).block,(base (U h)).off+(i*e+j),none⟩).run P w=.ok (v.val U) w∧v.lt nx:=by
 obtain⟨hlt,hol,hok⟩:=hh.ok h o hf
 have key:∀c:Cont,o.cont=some c->jaJ w (U h) c∨(∃g cap cur ty,U h=.slice (some ⟨g,0,none⟩) c.n cap∧w.heap[g]?=some (.cells cur ty (0,0))∧cur.toList.take (c.n*c.e)=c.flat.map D.val)∨c.n=0:=by
  intro c hc;cases o with
  |ext c'=>simp[O.cont]at hc;subst hc;exact .inl hok.1
  |view r c' _=>simp[O.cont]at hc;subst hc;exact .inl hok.1
  |rrow c'=>simp[O.cont]at hc;subst hc;exact .inl hok.1
  |sub _ _ _ _ _ c'=>simp[O.cont]at hc;subst hc;exact .inl (jdj hok.1)
  |fext c'=>simp[O.cont]at hc;subst hc;exact .inl hok.1
  |row ty c' =>
   simp[O.cont]at hc;subst hc;rcases hok.1.2 with ⟨_,hn⟩|⟨g,cap,cur,h1,h2,h3,h4,h5,h6,h7⟩
   ·exact .inr (.inr hn)
   ·exact .inr (.inl ⟨g,cap,cur,ty,h1,h3,h7⟩)
  |_=>simp[O.cont]at hc
 have cellsA:∀c:Cont,o.cont=some c->∀i,i<c.n->∀m,m<c.e->w.cell? ⟨(base (U h)).block,(base (U h)).off+(i*c.e+m),none⟩=some (c.cell i m).val:=by
  intro c hc i hi m hm;have hg:=c.flat_get hi hm;rcases key c hc with ⟨a',cap,hs,_,hx⟩|⟨g,cap,cur,ty,hs,hheap,htk⟩|hn
  ·obtain⟨b,off,rfl,hx'⟩:=hx (by omega);rw[hs];exact hx' _ _ hg
  ·rw[hs];simp only[base,zP];rw[xj w g _ cur ty (0,0) hheap];have h2:(cur.toList.take (c.n*c.e))[i*c.e+m]?=some (c.cell i m).val:=by rw[htk,zK,hg];rfl
   rw[z6]at h2;split at h2
   ·simpa using h2
   ·cases h2
  ·omega
 have cells:=fun c hc=>cellsA c hc i
 have boxy:∀(cs:List C) (ag:Bool) (sz:Nat),jbj P t=some ag->szT P t=some sz->(∀x∈cs,C.lt nx x) ->
   (∀m c,cs[m]?=some c->w.cell? ⟨(base (U h)).block,(base (U h)).off+m,none⟩=some (c.val U)) ->
   (match ag with
    |true=>if i*e+j+sz<=cs.length then some (True,V.w (.a ((cs.drop (i*e+j)).take sz)))else none
    |false=>(cs[i*e+j]?).map fun c=>(True,V.w (.c c)))=some (True,v) ->
   (jE t ⟨(base (U h)).block,(base (U h)).off+(i*e+j),none⟩).run P w=.ok (v.val U) w∧v.lt nx:=by
  intro cs ag sz hag hsz hol hcell hv;split at hv
  ·split at hv
   ·rename_i hle;cases hv;refine⟨?_,fun x hx=>hol x (yj (xU hx))⟩;have hlen:(((cs.drop (i*e+j)).take sz).map (C.val U)).length=sz:=by simp;omega
    refine jby w hag (by rw[hlen];exact hsz) ?_;intro m u hm;rw[jaL,qU];rw[zK,z6]at hm;split at hm
    ·rw[xN]at hm;obtain⟨c,hc,rfl⟩:=z5.1 hm;exact hcell _ _ hc
    ·cases hm
   ·cases hv
  ·cases hc:cs[i*e+j]? with
   |none=>simp[hc]at hv
   |some c =>
    simp[hc]at hv;obtain⟨_,rfl⟩:=hv;exact⟨jaV w hag (hcell _ _ hc),hol c (qX hc)⟩
 have boxSel:∀{cs:List C} {ag:Bool} {sz:Nat},jbj P t=some ag->szT P t=some sz ->
   (match jet P t cs e j with
    |some x=>some x
    |none=>match ag with
     |true=>if i*e+j+sz<=cs.length then some (True,V.w (.a ((cs.drop (i*e+j)).take sz)))else none
     |false=>(cs[i*e+j]?).map fun c=>(True,V.w (.c c)))=some (ob,v)->ob ->
   (match ag with
     |true=>if i*e+j+sz<=cs.length then some (True,V.w (.a ((cs.drop (i*e+j)).take sz)))else none
     |false=>(cs[i*e+j]?).map fun c=>(True,V.w (.c c)))=some (True,v):=by
  intro cs ag sz hag hsz hv ho;split at hv
  ·rename_i x hx;cases hv;have hpw:=jv8 (i:=i) hx ho;unfold jbZ at hpw;rw[hag,hsz]at hpw;cases ag with
   |true =>
    dsimp only at hpw ⊢;split at hpw
    ·rename_i hle;cases hpw;rw[if_pos hle]
    ·cases hpw
   |false =>
    dsimp only at hpw ⊢;cases hc:cs[i*e+j]? with
    |none=>rw[hc]at hpw;cases hpw
    |some c=>rw[hc]at hpw;cases hpw;rfl
  ·cases ag with
   |true =>
    dsimp only at hv ⊢;split at hv
    ·rename_i hle;cases hv;rw[if_pos hle]
    ·cases hv
   |false =>
    dsimp only at hv ⊢;cases hc:cs[i*e+j]? with
    |none=>rw[hc]at hv;cases hv
    |some c=>rw[hc]at hv;cases hv;rfl
 unfold jdd at hv;split at hv
 ·rename_i ag sz hag hsz;split at hv
  ·-- a box
   rename_i ty cs;obtain⟨k,h1,_,h3⟩:=hok;refine boxy cs ag sz hag hsz hol ?_ (boxSel hag hsz hv ho);intro m c hc;rw[h1];simp only[base,zP];rw[xj w k _ _ ty (0,0) h3];simp[hc]
  ·-- a box that came in
   rename_i cs;obtain⟨k,o,h1,_,h3⟩:=hok;refine boxy cs ag sz hag hsz hol ?_ (boxSel hag hsz hv ho);intro m c hc;rw[h1];exact h3 m c hc
  ·-- an array of floats
   rename_i ty k E r;obtain⟨g,h1,_,h3⟩:=hok
   have hcell:∀m,m<E->w.cell? ⟨(base (U h)).block,(base (U h)).off+m,none⟩=some (.float k (r.getD m 0)):=by
    intro m hm;rw[h1];simp only[base,zP];rw[xj w g _ _ ty (0,0) h3];simp[frD,hm,D.val]
   split at hv
   ·split at hv
    ·rename_i e1 e2;cases hv;have e1:=zb e1;have e2:=zb e2;subst e1;rw[e2];refine⟨jeu hag hsz fun m hm=>?_,trivial⟩;rw[jaL,qY];exact hcell m hm
    ·cases hv
   ·cases hv;exact⟨jaV w hag (hcell _ ho),trivial⟩
  ·-- a content with lists within
   rename_i sh l;obtain⟨a',cap,hs,_,hx⟩:=jeS hok rfl;split at hv
   ·cases hv
   ·rename_i hagf
    have gen:∀(x:D) (kk:NK),zt e sh.length=true->sh[j]?=some kk->i<l.length->(kk.norm ((l.getD i []).getD j (.d (.v qe))))=.d x ->
      (jE t ⟨(base (U h)).block,(base (U h)).off+(i*e+j),none⟩).run P w=.ok x.val w:=by
     intro x kk he hj hi hn;have he:=zb he;subst he;have hjl:j<sh.length:=(zB.1 hj).1;obtain⟨b,off,rfl,hcell⟩:=hx (show 0<(XC.st sh l).n from gj (qI _) hi);obtain⟨u,hu,hux⟩:=hcell i j hi hjl;rw[hs]
     have hk:(XC.cell (.st sh l) i j)=.d x:=by
      simp only[XC.cell,qB,hj,zU];simpa [qB]using hn
     rw[hk]at hux;have hux:u=x.val:=hux;subst hux;exact jaV w hag hu
    split at hv
    ·rename_i e1 e2;cases hv;exact⟨gen _ _ e1 e2 ho rfl,trivial⟩
    ·rename_i e1 e2;cases hv;exact⟨gen _ _ e1 e2 ho rfl,trivial⟩
    ·rename_i e1 e2;cases hv;exact⟨gen _ _ e1 e2 ho rfl,trivial⟩
    ·rename_i e1 e2;cases hv;exact⟨gen _ _ e1 e2 ho rfl,trivial⟩
    ·cases hv
  ·cases hv
  ·-- an own one
   rename_i ty sh l;obtain⟨a',cap,hs,_,hx⟩:=jeS hok rfl;split at hv
   ·cases hv
   ·rename_i hagf
    have gen:∀(x:D) (kk:NK),zt e sh.length=true->sh[j]?=some kk->i<l.length->(kk.norm ((l.getD i []).getD j (.d (.v qe))))=.d x ->
      (jE t ⟨(base (U h)).block,(base (U h)).off+(i*e+j),none⟩).run P w=.ok x.val w:=by
     intro x kk he hj hi hn;have he:=zb he;subst he;have hjl:j<sh.length:=(zB.1 hj).1;obtain⟨b,off,rfl,hcell⟩:=hx (show 0<(XC.st sh l).n from gj (qI _) hi);obtain⟨u,hu,hux⟩:=hcell i j hi hjl;rw[hs]
     have hk:(XC.cell (.st sh l) i j)=.d x:=by
      simp only[XC.cell,qB,hj,zU];simpa [qB]using hn
     rw[hk]at hux;have hux:u=x.val:=hux;subst hux;exact jaV w hag hu
    split at hv
    ·rename_i e1 e2;cases hv;exact⟨gen _ _ e1 e2 ho rfl,trivial⟩
    ·rename_i e1 e2;cases hv;exact⟨gen _ _ e1 e2 ho rfl,trivial⟩
    ·rename_i e1 e2;cases hv;exact⟨gen _ _ e1 e2 ho rfl,trivial⟩
    ·rename_i e1 e2;cases hv;exact⟨gen _ _ e1 e2 ho rfl,trivial⟩
    ·cases hv
  ·cases hv
  ·-- an own one with rows of its own
   rename_i ty ts sh l;obtain⟨a',cap,hs,_,hx⟩:=jeS hok rfl;split at hv
   ·cases hv
   ·rename_i hagf
    have gen:∀(x:D) (kk:NK),zt e sh.length=true->sh[j]?=some kk->i<l.length->(kk.norm ((l.getD i []).getD j (.d (.v qe))))=.d x ->
      (jE t ⟨(base (U h)).block,(base (U h)).off+(i*e+j),none⟩).run P w=.ok x.val w:=by
     intro x kk he hj hi hn;have he:=zb he;subst he;have hjl:j<sh.length:=(zB.1 hj).1;obtain⟨b,off,rfl,hcell⟩:=hx (show 0<(XC.st sh l).n from gj (qI _) hi);obtain⟨u,hu,hux⟩:=hcell i j hi hjl;rw[hs]
     have hk:(XC.cell (.st sh l) i j)=.d x:=by
      simp only[XC.cell,qB,hj,zU];simpa [qB]using hn
     rw[hk]at hux;have hux:u=x.val:=hux;subst hux;exact jaV w hag hu
    split at hv
    ·rename_i e1 e2;cases hv;exact⟨gen _ _ e1 e2 ho rfl,trivial⟩
    ·rename_i e1 e2;cases hv;exact⟨gen _ _ e1 e2 ho rfl,trivial⟩
    ·rename_i e1 e2;cases hv;exact⟨gen _ _ e1 e2 ho rfl,trivial⟩
    ·rename_i e1 e2;cases hv;exact⟨gen _ _ e1 e2 ho rfl,trivial⟩
    ·cases hv
  ·cases hv
  ·cases hv
  ·-- a list whose cells are told
   rename_i ty E n cs;obtain⟨_,_,hc⟩:=jb2 hok rfl;split at hv
   ·have hob:ob=True:=by
     split at hv
     ·split at hv
      ·cases hv;rfl
      ·cases hv
     ·cases hcc:cs[i*e+j]? with
      |none=>simp[hcc]at hv
      |some c=>simp[hcc]at hv;exact(propext ⟨fun _=>trivial,fun _=>hv.1⟩)
    subst hob;exact boxy cs ag sz hag hsz hol hc hv
   ·cases hv
  ·rename_i r E n cs;obtain⟨_,_,hc⟩:=jb2 hok rfl;split at hv
   ·have hob:ob=True:=by
     split at hv
     ·split at hv
      ·cases hv;rfl
      ·cases hv
     ·cases hcc:cs[i*e+j]? with
      |none=>simp[hcc]at hv
      |some c=>simp[hcc]at hv;exact(propext ⟨fun _=>trivial,fun _=>hv.1⟩)
    subst hob;exact boxy cs ag sz hag hsz hol.2 hc hv
   ·cases hv
  ·rename_i E n cs;obtain⟨_,_,hc⟩:=jb2 hok rfl;split at hv
   ·have hob:ob=True:=by
     split at hv
     ·split at hv
      ·cases hv;rfl
      ·cases hv
     ·cases hcc:cs[i*e+j]? with
      |none=>simp[hcc]at hv
      |some c=>simp[hcc]at hv;exact(propext ⟨fun _=>trivial,fun _=>hv.1⟩)
    subst hob;exact boxy cs ag sz hag hsz hol hc hv
   ·cases hv
  ·-- a row
   split at hv
   ·-- of arrays of floats
    rename_i k E l hc;split at hv
    ·split at hv
     ·rename_i e1 e2 e3;cases hv;have e1:=zb e1;have e2:=zb e2;have e3:=zb e3;subst e1 e2 e3;refine⟨jeu hag hsz fun m hm=>?_,trivial⟩;rw[jaL,qU,qY];exact cells _ hc ho m hm
     ·cases hv
    ·split at hv
     ·rename_i e1;cases hv;have e1:=zb e1;subst e1;exact⟨jaV w hag (cells _ hc ho.1 j ho.2),trivial⟩
     ·cases hv
   ·-- of floats
    rename_i k l hc;split at hv
    ·rename_i e1 e2;have e1:=zb e1;have e2:=zb e2;subst e1 e2;split at hv
     ·cases hv;refine⟨jeu hag hsz fun m hm=>?_,trivial⟩;have:=cellsA _ hc (i+m) (show i+m<l.length by omega) 0 (by simp[Cont.e]);simp only[Cont.e,fU,qY,Cont.cell]at this;rw[jaL,fU,qY,qU,this];simp only[D.val,qB,z6,xN,if_pos hm]
     ·cases hv;exact⟨jaV w hag (cells _ hc ho 0 (by simp[Cont.e])),trivial⟩
    ·cases hv
   ·rename_i c _ _ hc;split at hv
    ·split at hv
     ·rename_i he;obtain⟨rfl,hle⟩:=he;cases hv;refine⟨?_,fun x hx=>by obtain⟨_,_,rfl⟩:=qu.1 hx;trivial⟩;refine jby w hag (by simpa using hsz) ?_;intro m u hm;simp only[zK,z5]at hm;obtain⟨x,⟨y,hy,rfl⟩,rfl⟩:=hm;have hy2:=zB.1 hy;obtain⟨hlt2,hy3⟩:=hy2;simp at hlt2 hy3;subst hy3;rw[jaL,qU,qU];exact cells c hc ho (j+m) (by omega)
     ·cases hv
    ·split at hv
     ·rename_i he;obtain⟨rfl,hle⟩:=he;cases hv;exact⟨jaV w hag (cells c hc ho j hle),trivial⟩
     ·cases hv
   ·cases hv
 ·cases hv
def jxR {t:qf} {i e j:Nat} {c:Cont} {ob:Prop} {v:V} {U U':Env} (hv:jdd P t (.ext c) i e j=some (ob,v)):v.val U'=v.val U∧v.lt nx:=by
 unfold jdd at hv;split at hv
 ·split at hv<;>rename_i hoc<;>try cases hoc
  split at hv
  ·split at hv
   ·split at hv
    ·cases hv;exact⟨rfl,trivial⟩
    ·cases hv
   ·split at hv
    ·cases hv;exact⟨rfl,trivial⟩
    ·cases hv
  ·split at hv
   ·split at hv<;>cases hv<;>exact⟨rfl,trivial⟩
   ·cases hv
  ·split at hv
   ·split at hv
    ·cases hv;refine⟨?_,fun x hx=>by obtain⟨_,_,rfl⟩:=qu.1 hx;trivial⟩;simp only[agg_val,xI];rfl
    ·cases hv
   ·split at hv
    ·cases hv;exact⟨rfl,trivial⟩
    ·cases hv
  ·cases hv
 ·cases hv
def jr1 (U:Env) (off:Nat):∀(vs:List C) (n:Nat) (cs:List C),
  ((
   (vs.zipIdx n).foldl (fun cs (c,j)=>cs.set (off+j) c) cs).map (C.val U)).toArray =
   (((vs.map (C.val U)).zipIdx n).foldl (fun(cs:Array zF) (c,j)=>cs.setIfInBounds (off+j) c) (cs.map (C.val U)).toArray)
 |[],_,_=>rfl
 |v::vs,n,cs=>by
  simp only[jU,hG,zM];rw[jr1 U off vs (n+1) (cs.set (off+n) v)]
  congr 1
  apply qy;simp[List.map_set]
def jxS {a:Option Addr} {n c:Nat}:(qc a n c).oneCell'=true:=rfl
def C.one_val {c:C} (hh:HRel U B hp nx w) (h:c.one hp=true):(c.val U).oneCell'=true:=by
 cases c with
 |d x=>exact D.one_val h
 |p=>rfl
 |fn=>rfl
 |g=>rfl
 |fb=>rfl
 |o k =>
  simp only[C.one]at h;simp only[C.val];cases hf:find hp k with
  |none=>simp[hf]at h
  |some o =>
   have hok:=(hh.ok k o hf).2.2;cases o with
   |dead=>simp[hf]at h
   |err=>obtain⟨t,p,h1⟩:=hok;rw[h1];rfl
   |atom=>exact hok
   |box ty cs=>obtain⟨g,h1,_⟩:=hok;rw[h1];rfl
   |row ty c =>
    rcases hok.1.2 with ⟨h1,_⟩|⟨g,cap,cur,h1,_⟩<;>rw[h1]<;>rfl
   |ext c=>obtain⟨⟨_,_,h1,_⟩,_⟩:=hok;rw[h1];rfl
   |view r c _=>obtain⟨⟨_,_,h1,_⟩,_⟩:=hok;rw[h1];rfl
   |nan k=>obtain⟨_,h1,_⟩:=hok;rw[h1];rfl
   |ebox cs=>obtain⟨_,_,h1,_⟩:=hok;rw[h1];rfl
   |arr _ _ _ _=>obtain⟨_,h1,_⟩:=hok;rw[h1];rfl
   |xext X=>obtain⟨_,_,h1,_⟩:=hok;rw[h1];rfl
   |map es=>obtain⟨_,_,_,h1,_⟩:=hok;rw[h1];rfl
   |rrow c=>obtain⟨⟨_,_,h1,_⟩,_⟩:=hok;rw[h1];rfl
   |sub _ _ _ _ _ c=>obtain⟨_,_,h1,_⟩:=jdj hok.1;rw[h1];rfl
   |mrow ty ts X ho =>
    obtain⟨us,hr,_⟩:=hok;rcases hr.2 with ⟨h1,_⟩|⟨g,cap,cur,h1,_⟩<;>rw[h1]<;>rfl
   |trow ty ts X m =>
    obtain⟨us,hr,_⟩:=hok;rcases hr.2 with ⟨h1,_⟩|⟨g,cap,cur,h1,_⟩<;>rw[h1]<;>rfl
   |fext c=>obtain⟨⟨_,_,h1,_⟩,_⟩:=hok;rw[h1];rfl
   |xrow ty X=>obtain⟨a,cap,h1,_⟩:=jeS (X:=X) hok rfl;rw[h1];rfl
   |lbox ty e n cs=>obtain⟨⟨a,cap,h1,_⟩,_⟩:=jb2 hok rfl;rw[h1];rfl
   |lview r e n cs=>obtain⟨⟨a,cap,h1,_⟩,_⟩:=jb2 hok rfl;rw[h1];rfl
   |elist e n cs=>obtain⟨⟨a,cap,h1,_⟩,_⟩:=jb2 hok rfl;rw[h1];rfl
def jr2 {v:zF} (h:v.oneCell'=true):v.cells=#[v]:=by cases v<;>first|rfl|simp[Value.oneCell']at h
def W.cells_val {x:W} (hh:HRel U B hp nx w) (h:x.one hp=true):(x.val U).cells=(x.cells.map (C.val U)).toArray:=by
 cases x with
 |c c=>simp only[W.val,W.cells,zM,List.map_nil];exact jr2 (C.one_val hh h)
 |a l=>rfl
 |b k e r=>simp only[W.val,W.cells,xI];rfl
def W.cells_lt {x:W} {n:Nat} (h:x.lt n):∀c∈x.cells,C.lt n c:=by
 cases x with
 |c c=>intro d hd;simp only[W.cells,List.mem_singleton]at hd;subst hd;exact h
 |a l=>exact h
 |b k e r=>intro c hc;obtain⟨_,_,rfl⟩:=qu.1 hc;trivial
def jmA {n:Nat} (off:Nat):∀(vs:List C) (m:Nat) (cs:List C),(∀c∈vs,C.lt n c)->(∀c∈cs,C.lt n c) ->
  (∀c∈(vs.zipIdx m).foldl (fun cs (c,j)=>cs.set (off+j) c) cs,C.lt n c)∧((vs.zipIdx m).foldl (fun cs (c,j)=>cs.set (off+j) c) cs).length=cs.length
 |[],_,cs,_,h=>⟨h,rfl⟩
 |v::vs,m,cs,hv,h=>by
  simp only[jU,hG]
  have:=jmA off vs (m+1) (cs.set (off+m) v) (fun c hc=>hv c (zR _ hc)) (fun c hc=>by
   rcases List.mem_or_eq_of_mem_set hc with h1|h1
   ·exact h c h1
   ·subst h1;exact hv _ zV)
  exact⟨this.1,by rw[this.2];simp⟩
def jdk (place:Nat->Option (Nat × Nat)) (hh:HRel U B hp nx w):∀(parts:List (Nat × W)) (cells out:List C),jde place cells parts=some out ->
  (∀x∈parts,x.2.one hp=true∧x.2.lt nx)->(∀c∈cells,C.lt nx c) ->
  gL place (cells.map (C.val U)).toArray (parts.map fun x=>(x.1,x.2.val U))=some (out.map (C.val U)).toArray∧(∀c∈out,C.lt nx c)∧out.length=cells.length
 |[],cells,out,h,_,hc=>by
  simp only[jde,zi]at h;subst h;exact⟨rfl,hc,rfl⟩
 |(i,v)::rest,cells,out,h,hp',hc=>by
  simp only[jde]at h;have hv:=hp' (i,v) zV;have hcv:=W.cells_val (x:=v) hh hv.1;cases hpl:place i with
  |none=>simp[hpl]at h
  |some p =>
   obtain⟨off,size⟩:=p;simp only[hpl]at h;split at h
   ·rename_i hle;have hf:=jmA (n:=nx) off v.cells 0 cells (W.cells_lt hv.2) hc;have ih:=jdk place hh rest _ out h (fun x hx=>hp' x (zR _ hx)) hf.1;refine⟨?_,ih.2.1,by rw[ih.2.2,hf.2]⟩;simp only[zM,gL,hpl];have hs:(v.val U).cells.size=v.cells.length:=by rw[hcv];simp
    rw[hs,if_neg (by simp[hle.1];omega)];rw[<-ih.1]
    congr 1
    rw[hcv,jr1,<-Array.foldl_toList]
    congr 1
    simp
   ·cases h
def jc3 (hr:jav U nx rd a):∀(ps:List (Nat × zH)) (l:List (Nat × W)),jcp rd hp ps=some l ->
  ps.map (fun x=>(x.1,a.eval x.2))=l.map (fun x=>(x.1,x.2.val U))∧∀x∈l,x.2.one hp=true∧x.2.lt nx
 |[],l,h=>by simp only[jcp,zi]at h;subst h;exact⟨rfl,fun _ h=>by cases h⟩
 |(i,x)::r,l,h=>by
  simp only[jcp]at h;split at h
  ·rename_i v l' hx hl;split at h
   ·rename_i hone;cases h;have ih:=jc3 hr r l' hl;have h1:=hr x _ hx;refine⟨by simp only[zM,ih.1,h1.2,V.val],fun y hy=>?_⟩;rcases qv.1 hy with rfl|hy
    ·exact⟨hone,h1.1⟩
    ·exact ih.2 y hy
   ·cases h
  ·cases h
def jaW {t:qf} {z:List C} (h:jaB P t=some z):∃v,(ym t).run P w=.ok v w∧v.cells=(z.map (C.val U)).toArray∧∀n,∀c∈z,C.lt n c:=by
 unfold jaB at h;cases hi:P.info? t with
 |none=>simp[hi]at h
 |some i =>
  cases hz:i.zero with
  |none=>simp[hi,hz]at h
  |some v =>
   simp[hi,hz]at h;subst h;refine⟨v,by simp[ym,yP,hi,hz],?_,fun n c hc=>?_⟩
   ·apply qy;simp[xq,ji5]
   ·obtain⟨y,_,rfl⟩:=qu.1 hc;exact jkx n y
def jog:∀(fs:List Field) (l:List (Nat × Nat)),(jd0 P fs).mapM id=some l ->
  (fs.mapM (m:=Sem) fun f=>do pure (f.offset,<-sizeOf f.type)).run P w=.ok l w
 |[],l,h=>by simp[jd0]at h;subst h;simp
 |f::fs,l,h=>by
  simp only[jd0,zM,gW,id]at h;cases hs:szT P f.type with
  |none=>simp[hs]at h
  |some s =>
   cases hm:(jd0 P fs).mapM id with
   |none=>simp only[jd0]at hm;simp[hs,hm]at h
   |some l' =>
    have ih:=jog fs l' hm;simp only[jd0]at hm;simp[hs,hm]at h;subst h;simp only[gW,zn,jaD w hs,zh,zp,ih]
def jxT {t:qf} {parts:List (Nat × W)} {out:List C} (hh:HRel U B hp nx w) (h:job P t parts=some out) (hp':∀x∈parts,x.2.one hp=true∧x.2.lt nx) :
  (fX t (parts.map fun x=>(x.1,x.2.val U)).toArray).run P w=.ok (.agg (out.map (C.val U)).toArray) w∧∀c∈out,C.lt nx c:=by
 unfold job at h;split at h
 ·rename_i z fs hz hu;obtain⟨v,hv,hvc,hlt⟩:=jaW (P:=P) (w:=w) (U:=U) hz;split at h
  ·rename_i l hl;have hf:=jdk (U:=U) _ hh parts z out h hp' (hlt nx);refine⟨?_,hf.2.1⟩;have hpl:=jog (P:=P) (w:=w) fs.toList l hl;simp only[fX,zn,hv,zh,zI hu,hvc,Array.mapM_eq_mapM_toList,Sem.run_map,hpl];simp only[List.getElem?_toArray,hf.1,zp]
  ·cases h
 ·rename_i z n elem hz hu;obtain⟨v,hv,hvc,hlt⟩:=jaW (P:=P) (w:=w) (U:=U) hz;split at h
  ·rename_i size hs;have hf:=jdk (U:=U) _ hh parts z out h hp' (hlt nx);refine⟨?_,hf.2.1⟩;simp only[fX,zn,hv,zh,zp,zI hu,hvc,jaD w hs,hf.1]
  ·cases h
 ·cases h
def jdM (hh:HRel U B hp nx w) (hr:jav U nx rd a):∀(xs:List zH) (l:List Nat),jgC rd hp xs=some l->xs.map a.eval=l.map U∧∀h∈l,h<nx
 |[],l,h=>by simp only[jgC,zi]at h;subst h;exact⟨rfl,fun _ h=>by cases h⟩
 |x::r,l,h=>by
  simp only[jgC]at h;split at h
  ·rename_i k e l' hx hl;split at h
   ·rename_i ty cs hf;cases h;have ih:=jdM hh hr r l' hl;have h1:=(hr x _ hx).2;obtain⟨hlt,_,g,hk,_⟩:=hh.ok k _ hf;refine⟨?_,fun y hy=>?_⟩
    ·simp only[zM,ih.1,h1];simp only[cell_val,C.val,hk,base,qQ,qY]
    ·rcases qv.1 hy with rfl|hy
     ·exact hlt
     ·exact ih.2 y hy
   ·rename_i cs hf;cases h;have ih:=jdM hh hr r l' hl;have h1:=(hr x _ hx).2;obtain⟨hlt,_,g,o,hk,_⟩:=hh.ok k _ hf;refine⟨?_,fun y hy=>?_⟩
    ·simp only[zM,ih.1,h1];simp only[cell_val,C.val,hk,base,qQ,qY]
    ·rcases qv.1 hy with rfl|hy
     ·exact hlt
     ·exact ih.2 y hy
   ·cases h
  ·cases h
def ji6 (hr:jav U nx rd a):∀(xs:List zH) (l:List (IntKind × Int)),jir rd xs=some l->xs.map a.eval=l.map fun x=>.int x.1 x.2
 |[],l,h=>by simp only[jir,zi]at h;subst h;rfl
 |x::r,l,h=>by
  simp only[jir]at h;split at h
  ·rename_i v l' hx hl;cases hv:v.int? with
   |none=>simp[hv]at h
   |some p =>
    obtain⟨k,n⟩:=p;simp[hv]at h;subst h;have h1:=(hr x _ hx).2;rw[V.int?_eq hv]at h1;simp only[zM,ji6 hr r l' hl,h1,vi_val]
  ·cases h
def jr3:∀(l:List (IntKind × Int)) (k:IntKind) (n:Int) (v:V),jpJ k n l=some v ->
  ((l.map fun x=>xV x.1 x.2).foldlM kC (.int k n)).run P w=.ok (v.val U) w∧∀m,v.lt m
 |[],k,n,v,h=>by simp only[jpJ,zi]at h;subst h;exact⟨rfl,fun _=>trivial⟩
 |(k',b)::r,k,n,v,h=>by
  simp only[jpJ]at h;split at h
  ·rename_i hk;subst hk;have ih:=jr3 r k _ v h;refine⟨?_,ih.2⟩;simp only[zM,fH,kC,zn,zp,zh];exact ih.1
  ·cases h
def jr4:∀(l:List (IntKind × Int)) (k:IntKind) (n:Int) (v:V),jpK k n l=some v ->
  ((l.map fun x=>xV x.1 x.2).foldlM kD (.int k n)).run P w=.ok (v.val U) w∧∀m,v.lt m
 |[],k,n,v,h=>by simp only[jpK,zi]at h;subst h;exact⟨rfl,fun _=>trivial⟩
 |(k',b)::r,k,n,v,h=>by
  simp only[jpK]at h;split at h
  ·rename_i hk;subst hk;have ih:=jr4 r k _ v h;refine⟨?_,ih.2⟩;simp only[zM,fH,kD,zn,zp,zh];exact ih.1
  ·cases h
def jxU {src dst:qf} {v:V} {ob:Prop} {u:V} (h:jrM P src dst v=some (ob,u)) (ho:ob) :
  (convert src dst (v.val U)).run P w=.ok (u.val U) w∧∀n,u.lt n:=by
 unfold jrM at h;split at h
 ·rename_i hs hd hv;cases h;rw[V.int?_eq hv];refine⟨?_,fun _=>trivial⟩;simp[convert,zI hs,zI hd,Conv.intToInt]
 ·rename_i hs hd hv;cases h;rw[V.int?_eq hv];refine⟨?_,fun _=>trivial⟩;simp[convert,zI hs,zI hd,Conv.intToFloat]
 ·rename_i s b hs hd hv;cases h;rw[V.flt?_eq hv];refine⟨?_,fun _=>trivial⟩;simp only[vf_val,convert,zn,zI hs,zI hd,zh,Conv.floatToInt];unfold joc at ho;split at ho
  ·rename_i n hi;have ho:=of_decide_eq_true ho;simp[hi,ho,f2i]
  ·cases ho
 ·cases h
def jv9 {o:zX} {ob:Prop} {v:V} (hh:HRel U B hp nx w) (hr:jav U nx rd a) (h:ja3 P o.op rd hp=some (ob,v)) (ho:ob) :
  (qr a.eval o).run P w=.ok (.value (v.val U)) w∧v.lt nx:=by
 unfold ja3 at h;unfold qr;split at h<;>rename_i hop<;>simp only[hop]
 ·-- move
  rename_i x;cases hx:rd x with
  |none=>simp[hx]at h
  |some u=>simp[hx]at h;obtain⟨_,rfl⟩:=h;have:=hr _ _ hx;simp[this]
 ·rename_i x;cases hx:rd x with
  |none=>simp[hx]at h
  |some u=>simp[hx]at h;obtain⟨_,rfl⟩:=h;have:=hr _ _ hx;simp[this]
 ·-- pick
  rename_i c x y;cases hc:rd c with
  |none=>simp[hc]at h
  |some cv =>
   cases hb:cv.bool? with
   |none=>simp[hc,hb]at h
   |some b =>
    have h1:=hr _ _ hc;rw[V.bool?_eq hb]at h1;cases b
    ·simp only[hc,hb,zw]at h;cases hx:rd y with
     |none=>simp[hx]at h
     |some u=>simp[hx]at h;obtain⟨_,rfl⟩:=h;have:=hr _ _ hx;simp[h1.2,asBool,this]
    ·simp only[hc,hb,zw]at h;cases hx:rd x with
     |none=>simp[hx]at h
     |some u=>simp[hx]at h;obtain⟨_,rfl⟩:=h;have:=hr _ _ hx;simp[h1.2,asBool,this]
 ·-- binOp
  rename_i op t x y yt;split at h
  ·rename_i u u' hx hy;have h1:=hr _ _ hx;have h2:=hr _ _ hy;split at h
   ·rename_i k n k' n' hu hu';rw[V.int?_eq hu]at h1;rw[V.int?_eq hu']at h2;have:=jv5 (P:=P) w (t:=t) h ho U;refine⟨?_,this.2 _⟩;simp only[h1.2,h2.2,vi_val,zn]
    have hg:(yn op t x y (xV k n) (xV k' n')).run P w=.ok () w:=by
     cases op<;>simp[yn]
    simp[hg,this.1]
   ·split at h
    ·rename_i b b' hu hu';rw[V.bool?_eq hu]at h1;rw[V.bool?_eq hu']at h2;split at h
     ·rename_i ht;have:=jug (P:=P) w (t:=t) h ht U;refine⟨?_,this.2 _⟩;simp only[h1.2,h2.2,vb_val,zn]
      have hg:(yn op t x y (kh b) (kh b')).run P w=.ok () w:=by
       cases op<;>simp[yn]
      simp[hg,this.1]
     ·cases h
    ·split at h
     ·rename_i b b' hu hu';rw[V.str?_eq hu]at h1;rw[V.str?_eq hu']at h2;have:=jv7 (P:=P) w (t:=t) h U;refine⟨?_,this.2 _⟩;simp only[h1.2,h2.2,vs_val,zn]
      have hg:(yn op t x y (gM b) (gM b')).run P w=.ok () w:=by
       cases op<;>simp[yn]
      simp[hg,this.1]
     ·split at h
      ·rename_i k n k' n' hu hu';rw[V.flt?_eq hu]at h1;rw[V.flt?_eq hu']at h2;have:=jv6 (P:=P) w (t:=t) h ho U;refine⟨?_,this.2 _⟩;simp only[h1.2,h2.2,vf_val,zn]
       have hg:(yn op t x y (yS k n) (yS k' n')).run P w=.ok () w:=by
        cases op<;>simp[yn]
       simp[hg,this.1]
      ·split at h
       ·rename_i xs ys hxs hys hgt;rw[V.agg?_eq hxs]at h1;rw[V.agg?_eq hys]at h2
        have hg:(yn op t x y ((V.w (.a xs)).val U) ((V.w (.a ys)).val U)).run P w=.ok () w:=by
         rw[agg_val,agg_val];exact run_eqGuard_agg w op t x y _ _ hgt
        split at h
        ·cases he:eqV P 16 t (.w (.a xs)) (.w (.a ys))with
         |none=>simp[he]at h
         |some b =>
          simp[he]at h;obtain⟨_,rfl⟩:=h;refine⟨?_,trivial⟩;have:=jis (U:=U) (w:=w) 9984 16 t _ _ b he h1.1 h2.1;simp only[h1.2,h2.2,zn,hg,zh];rw[agg_val,agg_val]at this ⊢;simp only[run_eql_struct,this,zh];rfl
        ·cases he:eqV P 16 t (.w (.a xs)) (.w (.a ys))with
         |none=>simp[he]at h
         |some b =>
          simp[he]at h;obtain⟨_,rfl⟩:=h;refine⟨?_,trivial⟩;have:=jis (U:=U) (w:=w) 9984 16 t _ _ b he h1.1 h2.1;simp only[h1.2,h2.2,zn,hg,zh];rw[agg_val,agg_val]at this ⊢;simp only[run_neq_struct,this,zh];rfl
        ·cases h
       ·cases h
  ·cases h
 ·-- unOp
  rename_i op t x;split at h
  ·rename_i u hx;have h1:=hr _ _ hx;cases hb:u.bool? with
   |none=>simp[hb]at h
   |some b =>
    simp[hb]at h;obtain⟨_,rfl⟩:=h;rw[V.bool?_eq hb]at h1;simp[h1.2,Op.unary];trivial
  ·rename_i u hx;have h1:=hr _ _ hx;cases hb:u.int? with
   |none=>simp[hb]at h
   |some p =>
    obtain⟨k,n⟩:=p;simp[hb]at h;obtain⟨_,rfl⟩:=h;rw[V.int?_eq hb]at h1;simp[h1.2,Op.unary,kI];trivial
  ·cases h
 ·-- convert
  rename_i src dst x;cases hx:rd x with
  |none=>simp[hx]at h
  |some u =>
   simp only[hx,zw]at h;have:=jxU (w:=w) (U:=U) h ho;refine⟨?_,this.2 _⟩;simp[(hr _ _ hx).2,this.1]
 ·-- extract
  rename_i t i;split at h
  ·rename_i l hx;have h1:=hr _ _ hx;cases hi:l[i]? with
   |none=>simp[hi]at h
   |some u =>
    simp[hi]at h;obtain⟨_,rfl⟩:=h;refine⟨?_,h1.1 u (qX hi)⟩;simp[h1.2,V.val,Instr.extract,hi]
  ·cases h
 ·-- field
  rename_i t x f;split at h
  ·rename_i fs cs hu hx;cases hrx:rd x with
   |none=>simp[hrx]at hx
   |some u =>
    simp only[hrx,zw]at hx;have h1:=hr _ _ hrx;rw[V.agg?_eq hx]at h1;split at h
    ·rename_i g hg;cases hpw:jbZ P g.type cs g.offset with
     |none=>simp[hpw]at h
     |some u2 =>
      simp[hpw]at h;obtain⟨_,rfl⟩:=h;have hp2:=jcM (w:=w) (U:=U) hpw h1.1;refine⟨?_,hp2.2⟩;simp only[h1.2,agg_val,Instr.field,zn,zI hu,zh];rw[yz]at hg;simp[hg,asAgg,hp2.1]
    ·cases h
  ·cases h
 ·-- index
  rename_i t x i;split at h
  ·-- a string
   rename_i s0 k n hx hu hi;cases hrx:rd x with
   |none=>simp[hrx]at hx
   |some u =>
    cases hri:rd i with
    |none=>simp[hri]at hi
    |some ui =>
     simp only[hrx,zw]at hx;simp only[hri,zw]at hi;have h1:=hr _ _ hrx;have h2:=hr _ _ hri;rw[V.str?_eq hx]at h1;rw[V.int?_eq hi]at h2;cases h;refine⟨?_,trivial⟩;have hlt:n.toNat<s0.size:=by omega
     simp only[h1.2,h2.2,vs_val,vi_val,fY,yU,zn,zp,zI hu,zh];rw[if_pos ho.1];have hg:s0[n.toNat]?=some (s0[n.toNat]):=by simp[hlt]
     simp only[hg,zp,zh]
     have hd:s0.data.getD n.toNat 0=s0[n.toNat]:=by
      have:n.toNat<s0.data.size:=hlt;rw[Array.getD_eq_getD_getElem?,qE this];rfl
     rw[hd]
  ·cases h
  split at h
  ·rename_i len elem cs k n hu hx hi;cases hrx:rd x with
   |none=>simp[hrx]at hx
   |some u =>
    cases hri:rd i with
    |none=>simp[hri]at hi
    |some ui =>
     simp only[hrx,zw]at hx;simp only[hri,zw]at hi;have h1:=hr _ _ hrx;have h2:=hr _ _ hri;rw[V.agg?_eq hx]at h1;rw[V.int?_eq hi]at h2;split at h
     ·rename_i size hs
      obtain⟨hpw,ho⟩:jbZ P elem cs (n.toNat*size)=some v∧(0<=n∧n<(len:Int)):=by
       split at h
       ·rename_i p v' _ hsel;cases h;exact⟨jqB hsel ho.2,ho.1⟩
       ·cases hpw:jbZ P elem cs (n.toNat*size)with
        |none=>simp[hpw]at h
        |some u2 =>
         simp only[hpw,zQ,zi,qg]at h;obtain⟨rfl,rfl⟩:=h;exact⟨rfl,ho⟩
      ·have hp2:=jcM (w:=w) (U:=U) hpw h1.1;refine⟨?_,hp2.2⟩;simp only[h1.2,h2.2,agg_val,vi_val,fY,yU,zn,zp,zI hu,zh,ho,and_self,if_true,jaD w hs];simp[hp2.1]
     ·cases h
  ·cases h
 ·-- nilCheck
  rename_i x;split at h
  ·rename_i k i e j hx;cases h;have h1:=hr _ _ hx;refine⟨?_,h1.1⟩;simp[h1.2,C.val]
  ·cases h
 ·-- fieldAddr
  rename_i s x f;split at h
  ·rename_i fs k i e j hu hx;have h1:=hr _ _ hx;split at h
   ·rename_i g hg;split at h
    ·rename_i n hs;cases h;refine⟨?_,h1.1⟩;rw[yz]at hg;simp only[h1.2,cell_val,C.val,kv,zn,zI hu,zh,hg,qA,zp,fieldPlace,jaD w hs];simp[jaL,qU]
    ·cases h
   ·cases h
  ·cases h
 ·-- indexAddr
  rename_i t x ix;split at h
  ·rename_i len elem k i e j kk n hu hx hix;cases hri:rd ix with
   |none=>simp[hri]at hix
   |some ui =>
    simp only[hri,zw]at hix;have h1:=hr _ _ hx;have h2:=hr _ _ hri;rw[V.int?_eq hix]at h2;split at h
    ·rename_i size hs;split at h
     ·cases h;refine⟨?_,h1.1⟩;simp only[h1.2,h2.2,cell_val,vi_val,C.val,yZ,yU,zn,zp,zI hu,zh,qA];simp[ho,jaD w hs,jaL,qU]
     ·cases h;refine⟨?_,h1.1⟩;simp only[h1.2,h2.2,cell_val,vi_val,C.val,yZ,yU,zn,zp,zI hu,zh,qA];simp[ho,jaD w hs,jaL,qU]
    ·cases h
  ·rename_i elem k kk n hu hx hix;cases hri:rd ix with
   |none=>simp[hri]at hix
   |some ui =>
    simp only[hri,zw]at hix;have h1:=hr _ _ hx;have h2:=hr _ _ hri;rw[V.int?_eq hix]at h2;split at h
    ·rename_i c size hc hs;split at h
     ·rename_i hsz;cases h;refine⟨?_,h1.1⟩;cases hf:find hp k with
      |none=>simp[hf]at hc
      |some o' =>
       simp only[hf,zw]at hc
       have hrow:∃b off cap,U k=.slice (some ⟨b,off,none⟩) c.n cap:=by
        have hok:=(hh.ok k o' hf).2.2;have hn:0<c.n:=by omega
        cases o' with
        |ext c' =>
         simp[O.cont]at hc;subst hc;obtain⟨⟨a',cap,hs',_,hx'⟩,_⟩:=hok;obtain⟨b,off,rfl,_⟩:=hx' hn;exact⟨b,off,cap,hs'⟩
        |view r c' _ =>
         simp[O.cont]at hc;subst hc;obtain⟨⟨a',cap,hs',_,hx'⟩,_⟩:=hok;obtain⟨b,off,rfl,_⟩:=hx' hn;exact⟨b,off,cap,hs'⟩
        |rrow c' =>
         simp[O.cont]at hc;subst hc;obtain⟨⟨a',cap,hs',_,hx'⟩,_⟩:=hok;obtain⟨b,off,rfl,_⟩:=hx' hn;exact⟨b,off,cap,hs'⟩
        |sub _ _ _ _ _ c' =>
         simp[O.cont]at hc;subst hc;obtain⟨a',cap,hs',_,hx'⟩:=jdj hok.1;obtain⟨b,off,rfl,_⟩:=hx' hn;exact⟨b,off,cap,hs'⟩
        |fext c' =>
         simp[O.cont]at hc;subst hc;obtain⟨⟨a',cap,hs',_,hx'⟩,_⟩:=hok;obtain⟨b,off,rfl,_⟩:=hx' hn;exact⟨b,off,cap,hs'⟩
        |row ty c' =>
         simp[O.cont]at hc;subst hc;rcases hok.1.2 with ⟨_,hn'⟩|⟨g,cap,cur,h3,_⟩
         ·omega
         ·exact⟨g,0,cap,h3⟩
        |_=>simp[O.cont]at hc
       obtain⟨b,off,cap,hrow⟩:=hrow;simp only[h1.2,h2.2,cell_val,vi_val,C.val,hrow,yZ,yU,zn,zp,zI hu,zh,base];simp[ho,jaD w hs,jaL,hsz]
     ·cases h
    ·cases h
  ·cases h
 ·-- load
  rename_i t x;split at h
  ·rename_i k i e j hx;have h1:=hr _ _ hx;split at h
   ·rename_i o' hf;have:=jkC hh hf h ho;refine⟨?_,this.2⟩;simp[h1.2,C.val,yE,qA,this.1]
   ·cases h
  ·cases h
 ·-- build
  rename_i t parts;split at h
  ·rename_i l hl;cases hb:job P t l with
   |none=>simp[hb]at h
   |some cs =>
    simp[hb]at h;obtain⟨_,rfl⟩:=h;have hps:=jc3 hr parts.toList l hl;have hbr:=jxT hh hb hps.2;refine⟨?_,hbr.2⟩
    have he:(parts.map fun(i,x)=>(i,a.eval x))=(l.map fun x=>(x.1,x.2.val U)).toArray:=by
     rw[<-hps.1];apply qy;simp
    simp only[he,zn,hbr.1,zh,zp,agg_val]
  ·cases h
 ·-- makeFunc
  rename_i f first captured
  split at h
  ·rename_i hs hfirst hb;cases h;have:=jdM hh hr captured.toList hs hb;refine⟨?_,this.2⟩;have e1:first=#[]:=by apply qy;simpa using hfirst
   have e2:captured.map a.eval=(hs.map U).toArray:=by
    rw[<-this.1];apply qy;simp
   simp[ki,e1,e2,C.val]
  ·rename_i x hfirst hb;split at h
   ·rename_i hs hb1;cases h;have h1:=jdM hh hr [x] hs hb1;have h0:=jdM hh hr captured.toList [] hb;refine⟨?_,h1.2⟩
    have e1:first.map a.eval=(hs.map U).toArray:=by
     rw[<-h1.1];apply qy;simp[hfirst]
    have e2:captured.map a.eval=#[]:=by
     apply qy;simpa using h0.1
    simp[ki,e1,e2,C.val]
   ·cases h
  ·cases h
 ·-- call
  rename_i c;split at h
  ·-- len
   rename_i x t hcal hargs hts;have e1:c.args=#[x]:=by apply qy;simpa using hargs
   have e2:c.argTypes=#[t]:=by apply qy;simpa using hts
   simp only[yF,hcal,e1,e2,zn,zp,zh,jg,builtin];split at h
   ·rename_i el k hu hx;have h1:=hr _ _ hx;cases hc:(find hp k).bind O.cont with
    |none=>simp[hc]at h
    |some c' =>
     simp[hc]at h;obtain⟨_,rfl⟩:=h;cases hf:find hp k with
     |none=>simp[hf]at hc
     |some o' =>
      simp only[hf,zw]at hc
      have hrow:∃a' cap,U k=.slice a' c'.n cap:=by
       have hok:=(hh.ok k o' hf).2.2;cases o' with
       |ext c2=>simp[O.cont]at hc;subst hc;obtain⟨⟨a',cap,hs',_⟩,_⟩:=hok;exact⟨a',cap,hs'⟩
       |view r c2 _=>simp[O.cont]at hc;subst hc;obtain⟨⟨a',cap,hs',_⟩,_⟩:=hok;exact⟨a',cap,hs'⟩
       |rrow c2=>simp[O.cont]at hc;subst hc;obtain⟨⟨a',cap,hs',_⟩,_⟩:=hok;exact⟨a',cap,hs'⟩
       |sub _ _ _ _ _ c2=>simp[O.cont]at hc;subst hc;obtain⟨a',cap,hs',_⟩:=jdj hok.1;exact⟨a',cap,hs'⟩
       |fext c2=>simp[O.cont]at hc;subst hc;obtain⟨⟨a',cap,hs',_⟩,_⟩:=hok;exact⟨a',cap,hs'⟩
       |row ty c2 =>
        simp[O.cont]at hc;subst hc;rcases hok.1.2 with ⟨h3,hn'⟩|⟨g,cap,cur,h3,_⟩
        ·rw[hn'];exact⟨_,_,h3⟩
        ·exact⟨_,_,h3⟩
       |_=>simp[O.cont]at hc
      obtain⟨a',cap,hrow⟩:=hrow;refine⟨?_,trivial⟩;simp[h1.2,C.val,hrow,jF,zI hu,goInt]
   ·rename_i u _ hu hx;split at h
    ·rename_i hn;cases h;have h1:=hr _ _ hx;refine⟨?_,trivial⟩
     have hval:u.val U=.slice none 0 0:=by
      unfold V.nils? at hn;split at hn
      ·rfl
      ·cases hn
     simp[h1.2,hval,jF,zI hu,goInt]
    ·cases h
   ·rename_i u hu hx;have h1:=hr _ _ hx;cases hs:u.str? with
    |none=>simp[hs]at h
    |some s =>
     simp[hs]at h;obtain⟨_,rfl⟩:=h;rw[V.str?_eq hs]at h1;refine⟨?_,trivial⟩;simp[h1.2,jF,zI hu,goInt]
   ·rename_i n el u hu hx;cases h;refine⟨?_,trivial⟩;simp[jF,zI hu,goInt]
   ·cases h
  ·-- min
   rename_i hcal;split at h
   ·rename_i k n r hl;cases hm:jpJ k n r with
    |none=>simp[hm]at h
    |some u =>
     simp[hm]at h;obtain⟨_,rfl⟩:=h;have e:=ji6 hr _ _ hl;have hrun:=jr3 (P:=P) (U:=U) (w:=w) r k n u hm;refine⟨?_,hrun.2 _⟩;have e1:(c.args.map a.eval).toList=xV k n::r.map fun x=>xV x.1 x.2:=by simpa using e
     simp only[yF,hcal,zn,zp,zh,jg,builtin,Builtin.min_,e1,hrun.1]
   ·cases h
  ·-- max
   rename_i hcal;split at h
   ·rename_i k n r hl;cases hm:jpK k n r with
    |none=>simp[hm]at h
    |some u =>
     simp[hm]at h;obtain⟨_,rfl⟩:=h;have e:=ji6 hr _ _ hl;have hrun:=jr4 (P:=P) (U:=U) (w:=w) r k n u hm;refine⟨?_,hrun.2 _⟩;have e1:(c.args.map a.eval).toList=xV k n::r.map fun x=>xV x.1 x.2:=by simpa using e
     simp only[yF,hcal,zn,zp,zh,jg,builtin,Builtin.max_,e1,hrun.1]
   ·cases h
  ·cases h
 ·cases h
def ji7 (hh:HRel U B hp nx w) {v:V} {k:zZ} (h:v.nan? hp=some k):∃n,v.val U=.float k n∧(k.decode n).isNaN=true:=by
 unfold V.nan? at h;split at h
 ·split at h
  ·rename_i hf;cases h;exact(hh.ok _ _ hf).2.2
  ·cases h
 ·cases h
def jbz {k k':zZ} (h:jbN k k'=true):k=k':=by cases k<;>cases k' <;> simp[jbN]at h<;>rfl
def jkD {k:zZ} {m n:Nat} (h:(k.decode m).isNaN=true∨(k.decode n).isNaN=true):k.format.order m n=none:=by
 unfold kP;unfold jo at h;rcases h with h|h
 ·cases hm:k.format.read m<;>simp[hm,jp]at h;simp[fJ]
 ·cases hn:k.format.read n<;>simp[hn,jp]at h;cases k.format.read m<;>simp[fJ]
def jr5 (hh:HRel U B hp nx w) {u v:V} (h:jpM hp u v=true):∃k m n,u.val U=.float k m∧v.val U=.float k n∧k.format.order m n=none:=by
 unfold jpM at h;split at h
 ·rename_i k k' hu hv;obtain⟨m,h1,h2⟩:=ji7 hh hu;obtain⟨n,h3,h4⟩:=ji7 hh hv;have:=jbz h;subst this;exact⟨k,m,n,h1,h3,jkD (.inl h2)⟩
 ·rename_i k hu hv;obtain⟨m,h1,h2⟩:=ji7 hh hu;split at h
  ·rename_i k' n hf;have:=jbz h;subst this;exact⟨k,m,n,h1,by rw[V.flt?_eq hf];rfl,jkD (.inl h2)⟩
  ·cases h
 ·rename_i k hu hv;obtain⟨m,h1,h2⟩:=ji7 hh hv;split at h
  ·rename_i k' n hf;have:=jbz h;subst this;exact⟨k',n,m,by rw[V.flt?_eq hf];rfl,h1,jkD (.inr h2)⟩
  ·cases h
 ·cases h
def joh {len:Nat} {l m:Option Int} {k k':IntKind} (h0:0<=l.getD 0) (h1:l.getD 0<=m.getD (len:Int)) (h2:m.getD (len:Int)<=(len:Int)) :
  (xr false len len (l.map (xV k ·)) (m.map (xV k' ·)) none).run P w=.ok ((l.getD 0).toNat,(m.getD (len:Int)).toNat,len) w:=by
 cases l with
 |none =>
  cases m with
  |none=>simp[xr]
  |some m =>
   simp only[x8,zU]at h1 h2;simp[xr,yQ,yU,h1,h2]
 |some l =>
  simp only[zU]at h0 h1;cases m with
  |none =>
   simp only[x8]at h1;simp[xr,yQ,yU,h0,h1]
  |some m =>
   simp only[zU]at h1 h2;have a1:0<=m∧m<=(len:Int):=by omega
   have a2:0<=l∧l<=(m.toNat:Int):=by omega
   simp only[xr,yQ,yU,zQ,zn,zp,zh,if_pos a1,if_pos a2,fp,qN,if_false,zU]
def jcB (hr:jav U nx rd a) {x:Option zH} {l:Option Int} (h:jaM rd x=some l):∃k,x.map a.eval=l.map (xV k ·):=by
 cases x with
 |none=>simp only[jaM,zi]at h;subst h;exact⟨.i64,rfl⟩
 |some x =>
  simp only[jaM]at h;split at h
  ·rename_i k n hx;cases h;cases hrx:rd x with
   |none=>simp[hrx]at hx
   |some u =>
    simp only[hrx,zw]at hx;have:=hr _ _ hrx;rw[V.int?_eq hx]at this;exact⟨k,by simp[this.2]⟩
  ·cases h
def jwa {h:Nat} {o:O} {c:Cont} (hh:HRel U B hp nx w) (hf:find hp h=some o) (hc:o.cont=some c):h<nx∧∃a cap,U h=.slice a c.n cap∧(0<c.n->∃b off,a=some ⟨b,off,none⟩):=by
 obtain⟨hlt,_,hok⟩:=hh.ok h o hf;refine⟨hlt,?_⟩;cases o with
 |ext c' =>
  simp[O.cont]at hc;subst hc;obtain⟨⟨a,cap,h1,_,h3⟩,_⟩:=hok;exact⟨a,cap,h1,fun h=>by obtain⟨b,off,h4,_⟩:=h3 h;exact⟨b,off,h4⟩⟩
 |view r c' _ =>
  simp[O.cont]at hc;subst hc;obtain⟨⟨a,cap,h1,_,h3⟩,_⟩:=hok;exact⟨a,cap,h1,fun h=>by obtain⟨b,off,h4,_⟩:=h3 h;exact⟨b,off,h4⟩⟩
 |rrow c' =>
  simp[O.cont]at hc;subst hc;obtain⟨⟨a,cap,h1,_,h3⟩,_⟩:=hok;exact⟨a,cap,h1,fun h=>by obtain⟨b,off,h4,_⟩:=h3 h;exact⟨b,off,h4⟩⟩
 |sub _ _ _ _ _ c' =>
  simp[O.cont]at hc;subst hc;obtain⟨a,cap,h1,_,h3⟩:=jdj hok.1;exact⟨a,cap,h1,fun h=>by obtain⟨b,off,h4,_⟩:=h3 h;exact⟨b,off,h4⟩⟩
 |fext c' =>
  simp[O.cont]at hc;subst hc;obtain⟨⟨a,cap,h1,_,h3⟩,_⟩:=hok;exact⟨a,cap,h1,fun h=>by obtain⟨b,off,h4,_⟩:=h3 h;exact⟨b,off,h4⟩⟩
 |row ty c' =>
  simp[O.cont]at hc;subst hc;rcases hok.1.2 with ⟨h1,hn⟩|⟨g,cap,cur,h1,_⟩
  ·exact⟨none,0,by rw[hn];exact h1,fun h=>by omega⟩
  ·exact⟨_,cap,h1,fun _=>⟨g,0,rfl⟩⟩
 |_=>simp[O.cont]at hc
def jnf (hh:HRel U B hp nx w) {v:V} {b:Bool} (h:v.ifn? hp=some b):(b=true∧v.val U=.nilIface)∨(b=false∧∃t p,v.val U=.iface t p):=by
 unfold V.ifn? at h;split at h
 ·cases h;exact .inl ⟨rfl,rfl⟩
 ·rename_i k;split at h
  ·rename_i hf;cases h;exact .inr ⟨rfl,(hh.ok _ _ hf).2.2⟩
  ·cases h
 ·cases h
def jBs (hh:HRel U B hp nx w) {op:j6} {t:qf} {x y:zH} {u u' v:V} {b:Bool} {ob:Prop} (h1:u.lt nx∧a.eval x=u.val U) (h2:u'.lt nx∧a.eval y=u'.val U) (hy:y=.const .nilIface) (hu:u.ifn? hp=some b) (hit:jv4 P t=true) (h:jfK op b=some (ob,v)) :
  ((do yn op t x y (a.eval x) (a.eval y);binOp op t (a.eval x) (a.eval y):Sem zF) >>= fun v=>pure (gN v)).run P w=.ok (.value (v.val U)) w∧v.lt nx:=by
 subst hy;have e2:a.eval (.const .nilIface)=.nilIface:=rfl
 obtain⟨ms,hms⟩:∃ms,P.underlying t=some (.interface ms):=by
  unfold jv4 at hit;split at hit
  ·rename_i ms h';exact⟨ms,h'⟩
  ·cases hit
 have heq:(gh t (a.eval x) .nilIface).run P w=.ok b w:=by
  rw[h1.2];rcases jnf hh hu with ⟨rfl,e⟩|⟨rfl,tt,p,e⟩<;>rw[e]<;>unfold gh<;>rw[show gV=9999+1 from rfl,gJ]<;>simp only[zn,zI hms,zh,zp]
 have hg:(yn op t x (.const .nilIface) (a.eval x) .nilIface).run P w=.ok () w:=by
  rw[h1.2];rcases jnf hh hu with ⟨_,e⟩|⟨_,tt,p,e⟩<;>rw[e]<;>cases op<;>cases x<;>rfl
 rw[e2];simp only[zn,hg,zh];unfold jfK at h
 have hc:(∃c,u.val U=Value.nilIface∧c=0)∨∃tt p,u.val U=.iface tt p:=by
  rcases jnf hh hu with ⟨_,e⟩|⟨_,tt,p,e⟩
  ·exact .inl ⟨0,e,rfl⟩
  ·exact .inr ⟨tt,p,e⟩
 split at h
 ·cases h;refine⟨?_,trivial⟩
  have hb:(binOp .eql t (a.eval x) .nilIface).run P w=.ok (.bool b) w:=by
   rw[h1.2]at heq ⊢;rcases hc with ⟨_,e,_⟩|⟨tt,p,e⟩<;>rw[e]at heq ⊢ <;> simp only[binOp,zn,heq,zh,zp]
  simp only[hb,zh,zp];rfl
 ·cases h;refine⟨?_,trivial⟩
  have hb:(binOp .neq t (a.eval x) .nilIface).run P w=.ok (.bool (!b)) w:=by
   rw[h1.2]at heq ⊢;rcases hc with ⟨_,e,_⟩|⟨tt,p,e⟩<;>rw[e]at heq ⊢ <;> simp only[binOp,zn,heq,zh,zp]
  simp only[hb,zh,zp];rfl
 ·cases h
def jaX {h:Nat} {o:O} {c:Cont} (hok:o.ok U B w h) (hc:o.cont=some c):jaJ w (U h) c:=by
 cases o with
 |ext c'=>simp[O.cont]at hc;subst hc;exact hok.1
 |view r c' _=>simp[O.cont]at hc;subst hc;exact hok.1
 |rrow c'=>simp[O.cont]at hc;subst hc;exact hok.1
 |sub _ _ _ _ _ c'=>simp[O.cont]at hc;subst hc;exact jdj hok.1
 |fext c'=>simp[O.cont]at hc;subst hc;exact hok.1
 |row ty c' =>
  simp[O.cont]at hc;subst hc;rcases hok.1.2 with ⟨h1,hn⟩|⟨g,cap,cur,h1,h2,h3,h4,h5,h6,h7⟩
  ·exact⟨none,0,by rw[hn];exact h1,⟨by omega,fun _=>rfl⟩,fun h=>by omega⟩
  ·refine⟨some ⟨g,0,none⟩,cap,h1,⟨h4,fun h=>by cases h⟩,fun _=>⟨g,0,rfl,fun j x hj=>?_⟩⟩;rw[zP,xj w g j cur ty (0,0) h3];have h2:(cur.toList.take (c'.n*c'.e))[j]?=some x.val:=by rw[h7,zK,hj];rfl
   rw[z6]at h2;split at h2
   ·simpa using h2
   ·cases h2
 |_=>simp[O.cont]at hc
def jxV {src dst e h:Nat} {o:O} {l:List Int} (hh:HRel U B hp nx w) (hs:P.underlying src=some (.slice e)) (hd:P.underlying dst=some .string) (he:P.underlying e=some (.int .u8)) (hf:find hp h=some o) (hc:o.cont=some (.ints .u8 l)) :
  (convert src dst (U h)).run P w=.ok (.string (jxO l)) w:=by
 obtain⟨a',cap,hv,_,hx⟩:=jaX (hh.ok h o hf).2.2 hc;have hn:(Cont.ints .u8 l).n=l.length:=rfl;rw[hv,run_convert_bytes_string w src dst e _ _ _ hs he hd];cases l with
 |nil =>
  cases a' with
  |none=>rfl
  |some p =>
   have:=fy (P:=P) w p 0 cap [] (by simpa using gi (P:=P) w p [] (fun j v hj=>by simp at hj));exact this
 |cons x r =>
  obtain⟨b,off,rfl,hcell⟩:=hx (by rw[hn];simp)
  have:=gi (P:=P) w ⟨b,off,none⟩ ((x::r).map (xV .u8)) (fun j v hj=>by
   rw[jaL];rw[zK]at hj;obtain⟨y,hy,rfl⟩:=z5.1 hj
   exact hcell j (.i .u8 y) (by
    show((x::r).flatMap fun x=>[D.i .u8 x])[j]?=_
    have hfl:∀l:List Int,(l.flatMap fun x=>[D.i .u8 x])=l.map (D.i .u8):=fun l=>by
     induction l with
     |nil=>rfl
     |cons x r ih=>simp[xp,ih]
    rw[hfl,zK,hy];rfl))
  exact fy (P:=P) w _ _ cap (x::r) (by simpa [Cont.n]using this)
def jng (hh:HRel U B hp nx w) {v:V} {b:Bool} (h:v.sln? hp=some b):(b=true∧v.val U=.slice none 0 0)∨(b=false∧∃p n cap,v.val U=.slice (some p) n cap):=by
 unfold V.sln? at h;split at h
 ·cases h;exact .inl ⟨rfl,rfl⟩
 ·rename_i k;split at h
  ·rename_i o hf;have hok:=(hh.ok _ _ hf).2.2;split at h
   ·rename_i c hc;split at h
    ·rename_i hn;cases h;obtain⟨a,cap,e,_,hcell⟩:=jaX hok hc;obtain⟨b,off,rfl,_⟩:=hcell (by simpa using hn);exact .inr ⟨rfl,_,_,_,e⟩
    ·cases h
   ·split at h
    ·rename_i e n cs hl;split at h
     ·rename_i hn;cases h;obtain⟨⟨a,cap,e,_,hadr⟩,_,_⟩:=jb2 hok hl;obtain⟨b,off,rfl⟩:=hadr (by simpa using hn);exact .inr ⟨rfl,_,_,_,e⟩
     ·cases h
    ·cases h
  ·cases h
 ·cases h
def jBt (hh:HRel U B hp nx w) {op:j6} {t:qf} {x y:zH} {u u' v:V} {b:Bool} {ob:Prop} (h1:u.lt nx∧a.eval x=u.val U) (h2:u'.lt nx∧a.eval y=u'.val U) (hy:y=.const (.slice none 0 0)) (hu:u.sln? hp=some b) (hit:jl6 P t=true) (h:jfK op b=some (ob,v)) :
  ((do yn op t x y (a.eval x) (a.eval y);binOp op t (a.eval x) (a.eval y):Sem zF) >>= fun v=>pure (gN v)).run P w=.ok (.value (v.val U)) w∧v.lt nx:=by
 subst hy;have e2:a.eval (.const (.slice none 0 0))=.slice none 0 0:=rfl
 obtain⟨ms,hms⟩:∃ms,P.underlying t=some (.slice ms):=by
  unfold jl6 at hit;split at hit
  ·rename_i ms h';exact⟨ms,h'⟩
  ·cases hit
 have heq:(gh t (a.eval x) (.slice none 0 0)).run P w=.ok b w:=by
  rw[h1.2];rcases jng hh hu with ⟨rfl,e⟩|⟨rfl,tt,p,q,e⟩<;>rw[e]<;>unfold gh<;>rw[show gV=9999+1 from rfl,gJ]<;>simp only[zn,zI hms,zh,zp]<;>rfl
 have hg:(yn op t x (.const (.slice none 0 0)) (a.eval x) (.slice none 0 0)).run P w=.ok () w:=by
  rw[h1.2];rcases jng hh hu with ⟨_,e⟩|⟨_,tt,p,q,e⟩<;>rw[e]<;>cases op<;>cases x<;>rfl
 rw[e2];simp only[zn,hg,zh];unfold jfK at h
 have hc:(∃c,u.val U=qc none 0 0∧c=0)∨∃tt p q,u.val U=.slice (some tt) p q:=by
  rcases jng hh hu with ⟨_,e⟩|⟨_,tt,p,q,e⟩
  ·exact .inl ⟨0,e,rfl⟩
  ·exact .inr ⟨tt,p,q,e⟩
 split at h
 ·cases h;refine⟨?_,trivial⟩
  have hb:(binOp .eql t (a.eval x) (.slice none 0 0)).run P w=.ok (.bool b) w:=by
   rw[h1.2]at heq ⊢;rcases hc with ⟨_,e,_⟩|⟨tt,p,q,e⟩<;>rw[e]at heq ⊢ <;> simp only[binOp,zn,heq,zh,zp]
  simp only[hb,zh,zp];rfl
 ·cases h;refine⟨?_,trivial⟩
  have hb:(binOp .neq t (a.eval x) (.slice none 0 0)).run P w=.ok (.bool (!b)) w:=by
   rw[h1.2]at heq ⊢;rcases hc with ⟨_,e,_⟩|⟨tt,p,q,e⟩<;>rw[e]at heq ⊢ <;> simp only[binOp,zn,heq,zh,zp]
  simp only[hb,zh,zp];rfl
 ·cases h
def jzp (hh:HRel U B hp nx w) {op:j6} {t:qf} {x y:zH} {u u' v:V} {b:Bool} {ob:Prop} (h1:u.lt nx∧a.eval x=u.val U) (h2:u'.lt nx∧a.eval y=u'.val U) (hq:nilQ P hp t u y=some b) (h:jfK op b=some (ob,v)) :
  ((do yn op t x y (a.eval x) (a.eval y);binOp op t (a.eval x) (a.eval y):Sem zF) >>= fun v=>pure (gN v)).run P w=.ok (.value (v.val U)) w∧v.lt nx:=by
 unfold nilQ at hq;split at hq
 ·split at hq
  ·rename_i hit;exact jBs hh h1 h2 rfl hq hit h
  ·cases hq
 ·split at hq
  ·rename_i hit;exact jBt hh h1 h2 rfl hq hit h
  ·cases hq
 ·cases hq
def jxW {o:zX} {ob:Prop} {v:V} (hh:HRel U B hp nx w) (hr:jav U nx rd a) (h:jfs P o.op rd hp=some (ob,v)) (ho:ob) :
  (qr a.eval o).run P w=.ok (.value (v.val U)) w∧v.lt nx:=by
 unfold jfs at h;unfold qr;split at h<;>rename_i hop<;>simp only[hop]
 ·-- binOp
  rename_i op t x y yt;split at h
  ·rename_i u u' hx hy;have h1:=hr _ _ hx;have h2:=hr _ _ hy;split at h
   ·rename_i b b' hu hu';rw[V.str?_eq hu]at h1;rw[V.str?_eq hu']at h2;split at h
    ·cases h
     have hm:¬(((b.size+b'.size:Nat):Int)>xF.max):=by
      have:xF.max=9223372036854775807:=rfl;rw[this];omega
     refine⟨?_,trivial⟩
     have hr2:(binOp .add t (.string b) (.string b')).run P w=.ok (.string (b++b')) w:=by
      simp only[binOp,kK];rw[if_neg hm];rfl
     simp only[h1.2,h2.2,vs_val,zn];have hg:(yn BinOp.add t x y (gM b) (gM b')).run P w=.ok () w:=by simp[yn]
     simp[hg,hr2]
    ·cases h
   ·split at h
    ·rename_i hnp;obtain⟨k,m,n,e1,e2,e3⟩:=jr5 hh hnp
     have hg:(yn op t x y (yS k m) (yS k n)).run P w=.ok () w:=by
      cases op<;>simp[yn]
     have hres:(binOp op t (.float k m) (.float k n)).run P w=.ok (v.val U) w∧v.lt nx:=by
      unfold jod at h
      cases op<;>simp only[zi,qg,reduceCtorEq]at h<;>obtain⟨_,rfl⟩:=h<;>refine⟨?_,trivial⟩ <;>
       simp[binOp,kJ,e3,vb,V.val,W.val,C.val,D.val]
     refine⟨?_,hres.2⟩;simp only[h1.2,h2.2,e1,e2,zn];simp[hg,hres.1]
    ·split at h
     ·rename_i b hq;exact jzp hh h1 h2 hq h
     ·cases h
  ·cases h
 ·-- a string cut
  rename_i t x lo hi;split at h
  ·rename_i s l m hu hx hl hm;cases h;cases hrx:rd x with
   |none=>simp[hrx]at hx
   |some u =>
    simp only[hrx,zw]at hx;have h1:=hr _ _ hrx;rw[V.str?_eq hx]at h1;obtain⟨k,hk⟩:=jcB hr hl;obtain⟨k',hk'⟩:=jcB hr hm;refine⟨?_,trivial⟩;have hb:=joh (P:=P) (w:=w) (k:=k) (k':=k') ho.1 ho.2.1 ho.2.2;simp only[h1.2,vs_val,yf,jh,zn,zI hu,zh,hk,hk',xm,fp,qN,if_false,zp];simp[hb]
  ·cases h
 ·-- bytes asq a text
  rename_i src dst x;split at h
  ·rename_i e k hs hd hx;split at h
   ·rename_i l he hc;cases h;obtain⟨o,hf,hc⟩:=zD.1 hc;have h1:=hr _ _ hx;refine⟨?_,trivial⟩;simp only[h1.2,cell_val,C.val,zn,jxV hh hs hd he hf hc,zh,zp];rfl
   ·cases h
  ·cases h
 ·-- an array's element
  rename_i t x i;split at h
  ·rename_i k E r hx;split at h
   ·rename_i len elem kk n hu hi;split at h
    ·rename_i hs hE hag;cases h;cases hri:rd i with
     |none=>simp[hri]at hi
     |some ui =>
      simp only[hri,zw]at hi;have h1:=hr _ _ hx;have h2:=hr _ _ hri;rw[V.int?_eq hi]at h2;have hE:=zb hE;subst hE;refine⟨?_,trivial⟩;have hlt:n.toNat<len:=by omega
      have e1:a.eval x=.agg ((frD k len r).map D.val).toArray:=h1.2;have e2:a.eval i=.int kk n:=h2.2;have hg:((frD k len r).map D.val)[n.toNat]?=some (.float k (r.getD n.toNat 0)):=by simp[frD,hlt,D.val]
      simp only[e1,e2,fY,yU,zn,zp,zI hu,zh,ho,and_self,if_true,jaD w hs];simp[part,jgH w hag,hg,fU]
    ·cases h
   ·cases h
  ·cases h
 ·-- a slice's array
  rename_i arr x;split at h
  ·rename_i n elem k hu hx;cases hb:(find hp k).bind O.cont with
   |none=>simp[hb]at h
   |some c =>
    simp only[hb,zi,qg]at h;obtain⟨rfl,rfl⟩:=h;have h1:=hr _ _ hx;cases hf:find hp k with
    |none=>simp[hf]at hb
    |some o =>
     simp only[hf,zw]at hb;obtain⟨hlt,a2,cap,hs,hat⟩:=jwa hh hf hb;obtain⟨b,off,rfl⟩:=hat ho.2;refine⟨?_,hlt⟩;have e1:¬c.n<n:=by omega
     simp[h1.2,C.val,hs,base,Instr.arrayAt,zI hu,e1]
  ·cases h
 ·-- nilCheck
  rename_i x;split at h
  ·rename_i k i e j hx;cases h;have h1:=hr _ _ hx;refine⟨?_,h1.1⟩;simp[h1.2,C.val]
  ·cases h
 ·-- fieldAddr
  rename_i s x f;split at h
  ·rename_i fs k i e j hu hx;have h1:=hr _ _ hx;split at h
   ·rename_i g hg;split at h
    ·rename_i n hs;cases h;refine⟨?_,h1.1⟩;rw[yz]at hg;simp only[h1.2,cell_val,C.val,kv,zn,zI hu,zh,hg,qA,zp,fieldPlace,jaD w hs];simp[j7,qU]
    ·cases h
   ·cases h
  ·cases h
 ·-- indexAddr
  rename_i t x ix;split at h
  ·rename_i len elem k e kk n hu hx hix;cases hri:rd ix with
   |none=>simp[hri]at hix
   |some ui =>
    simp only[hri,zw]at hix;have h1:=hr _ _ hx;have h2:=hr _ _ hri;rw[V.int?_eq hix]at h2;split at h
    ·rename_i size hs;split at h
     ·rename_i he;have he:=zb he;subst he;cases h;refine⟨?_,trivial⟩;simp only[h1.2,h2.2,cell_val,vi_val,C.val,yZ,yU,zn,zp,zI hu,zh,qA,ho,and_self,if_true,jaD w hs];simp only[jaL,qQ,zP,qY]
     ·cases h
    ·cases h
  ·rename_i elem k kk n hu hx hix;cases hri:rd ix with
   |none=>simp[hri]at hix
   |some ui =>
    simp only[hri,zw]at hix;have h1:=hr _ _ hx;have h2:=hr _ _ hri;rw[V.int?_eq hix]at h2;split at h
    ·rename_i X size hf hs;obtain⟨ob2,hf,hxc⟩:=zD.1 hf;split at h
     ·rename_i hsz;have hsz:=zb hsz;cases h;refine⟨?_,h1.1⟩;obtain⟨a',cap,hs',_,hx'⟩:=jeS (hh.ok k _ hf).2.2 hxc;obtain⟨b,off,rfl,_⟩:=hx' (by omega);simp only[h1.2,h2.2,cell_val,vi_val,C.val,hs',yZ,yU,zn,zp,zI hu,zh,base];simp[ho,jaD w hs,j7,hsz]
     ·cases h
    ·rename_i size hf hs;split at h
     ·rename_i e m cs hl;obtain⟨ob2,hf,hl⟩:=zD.1 hl;split at h
      ·rename_i hsz;have hsz:=zb hsz;cases h;refine⟨?_,h1.1⟩;obtain⟨⟨a',cap,hs',_,hx'⟩,_⟩:=jb2 (hh.ok k _ hf).2.2 hl;obtain⟨b,off,rfl⟩:=hx' (by omega);simp only[h1.2,h2.2,cell_val,vi_val,C.val,hs',yZ,yU,zn,zp,zI hu,zh,base];simp[ho,jaD w hs,j7,hsz]
      ·cases h
     ·split at h
      ·rename_i X hX;obtain⟨ob2,hf,hX⟩:=zD.1 hX;split at h
       ·rename_i hsz;have hsz:=zb hsz;cases h;refine⟨?_,h1.1⟩;obtain⟨a',cap,hs',hx'⟩:=jxQ (hh.ok k _ hf).2.2 hX;obtain⟨b,off,rfl⟩:=hx' (by omega);simp only[h1.2,h2.2,cell_val,vi_val,C.val,hs',yZ,yU,zn,zp,zI hu,zh,base];simp[ho,jaD w hs,j7,hsz]
       ·cases h
      ·cases h
    ·cases h
  ·cases h
 ·-- load
  rename_i t x;split at h
  ·rename_i k i e j hx;have h1:=hr _ _ hx;split at h
   ·rename_i c hc;split at h
    ·cases h
    split at h
    ·rename_i hwh;obtain⟨hag,hsz,rfl,rfl⟩:=juf hwh;cases h;obtain⟨hB,hcell,_⟩:=hh.glob.1 k c hc;refine⟨?_,fun x hx=>by obtain⟨_,_,rfl⟩:=qu.1 hx;trivial⟩
     have hld:(jE t ⟨k,0,none⟩).run P w=.ok ((V.w (.a (c.flat.map C.d))).val U) w:=by
      refine jby w hag (by simpa using hsz) ?_;intro m u hm;rw[xI,zK]at hm;obtain⟨x,hx,rfl⟩:=z5.1 hm;rw[jaL,zP];exact hcell m x hx
     simp only[h1.2,cell_val,C.val,yE,qA];have e1:(⟨k,0*e+0,none⟩:Addr)=⟨k,0,none⟩:=by simp
     rw[e1];simp[hld]
    ·obtain⟨hB,hcell,_⟩:=hh.glob.1 k c hc
     let U1:Env:=fun _=>.slice (some ⟨k,0,none⟩) c.n c.n
     have hh1:HRel U1 B [(0,.ext c)] 1 w:=by
      refine⟨fun y o hf=>?_,fun y o y' o' b hf hf' hne hb=>?_,hh.glob⟩
      ·simp only[find]at hf;split at hf
       ·rename_i e0;subst e0;cases hf;refine⟨by omega,trivial,⟨some ⟨k,0,none⟩,c.n,rfl,⟨zu _,fun e=>by cases e⟩,fun _=>⟨k,0,rfl,fun j x hj=>by rw[zP];exact hcell j x hj⟩⟩,?_⟩;intro a' n cap hv _;cases hv;exact hB
       ·cases hf
      ·simp only[find]at hf;split at hf
       ·cases hf;cases hb
       ·cases hf
     have:=jkC (U:=U1) hh1 (h:=0) rfl h ho;have hv:v.val U1=v.val U∧v.lt nx:=jxR h;refine⟨?_,hv.2⟩;rw[hv.1]at this;simp only[h1.2,cell_val,C.val,yE,qA];have e1:(⟨(base (U1 0)).block,(base (U1 0)).off+(i*e+j),none⟩:Addr)=⟨k,i*e+j,none⟩:=by simp[U1,base]
     rw[e1]at this;simp[this.1]
   ·cases h
  ·cases h
 ·-- len
  rename_i c;split at h
  ·rename_i x t hcal hargs hts;have e1:c.args=#[x]:=by apply qy;simpa using hargs
   have e2:c.argTypes=#[t]:=by apply qy;simpa using hts
   simp only[yF,hcal,e1,e2,zn,zp,zh,jg,builtin];split at h
   ·rename_i el k hu hx;have h1:=hr _ _ hx;split at h
    ·rename_i X hf;obtain⟨ob2,hf,hxc⟩:=zD.1 hf;cases h;obtain⟨a',cap,hs',_⟩:=jeS (hh.ok k _ hf).2.2 hxc;refine⟨?_,trivial⟩;simp[h1.2,C.val,hs',jF,zI hu,goInt]
    ·split at h
     ·rename_i e m cs hl;obtain⟨ob2,hf,hl⟩:=zD.1 hl;cases h;obtain⟨⟨a',cap,hs',_⟩,_⟩:=jb2 (hh.ok k _ hf).2.2 hl;refine⟨?_,trivial⟩;simp[h1.2,C.val,hs',jF,zI hu,goInt]
     ·cases h
   ·cases h
  ·-- complex
   rename_i x y hcal hargs;have e1:c.args=#[x,y]:=by apply qy;simpa using hargs
   simp only[yF,hcal,e1,zn,zp,zh,jg,builtin];split at h
   ·rename_i k n k' m hx hy;split at h
    ·rename_i hk;obtain rfl:=jbz hk;cases h;obtain⟨u,hu,hu'⟩:=zD.1 hx;obtain⟨u2,hu2,hu2'⟩:=zD.1 hy;have h1:=hr _ _ hu;have h2:=hr _ _ hu2;rw[V.flt?_eq hu']at h1;rw[V.flt?_eq hu2']at h2;refine⟨?_,trivial⟩
     have hrun:∀ts t,(Builtin.complex_ ts t #[.float k n,.float k m]).run P w=.ok (.complex k n m) w:=fun ts t=>by
      show(if k=k then(pure (Value.complex k n m):Sem zF)else _).run P w=_
      rw[if_pos rfl];rfl
     simp[h1.2,h2.2,hrun,C.val,D.val]
    ·cases h
   ·cases h
  ·-- real
   rename_i x hcal hargs;have e1:c.args=#[x]:=by apply qy;simpa using hargs
   simp only[yF,hcal,e1,zn,zp,zh,jg,builtin];split at h
   ·rename_i k p hx;cases h;obtain⟨u,hu,hu'⟩:=zD.1 hx;have h1:=hr _ _ hu;rw[V.cpx?_eq hu']at h1;refine⟨?_,trivial⟩;have hrun:∀ts t,(Builtin.real_ ts t #[.complex k p.1 p.2]).run P w=.ok (.float k p.1) w:=fun ts t=>rfl;simp[h1.2,hrun,C.val,D.val]
   ·cases h
  ·-- imag
   rename_i x hcal hargs;have e1:c.args=#[x]:=by apply qy;simpa using hargs
   simp only[yF,hcal,e1,zn,zp,zh,jg,builtin];split at h
   ·rename_i k p hx;cases h;obtain⟨u,hu,hu'⟩:=zD.1 hx;have h1:=hr _ _ hu;rw[V.cpx?_eq hu']at h1;refine⟨?_,trivial⟩;have hrun:∀ts t,(Builtin.imag_ ts t #[.complex k p.1 p.2]).run P w=.ok (.float k p.2) w:=fun ts t=>rfl;simp[h1.2,hrun,C.val,D.val]
   ·cases h
  ·cases h
 ·cases h
def jek {o:zX} {ob:Prop} {v:V} (hh:HRel U B hp nx w) (hr:jav U nx rd a) (h:ja4 P o.op rd hp=some (ob,v)) (ho:ob) :
  (qr a.eval o).run P w=.ok (.value (v.val U)) w∧v.lt nx:=by
 unfold ja4 at h;split at h
 ·rename_i x hx;cases h;exact jv9 hh hr hx ho
 ·exact jxW hh hr h ho
end
end Go.Sx
end

section
open Go.RowKit
namespace Go.Sx
def jgI (k:IntKind):List (List D)->Option (List Int)
 |[]=>some []
 |[.i k' n]::r=>if k'=k then(jgI k r).map (n :: ·)else none
 |_=>none
def jgJ (k:zZ):List (List D)->Option (List Nat)
 |[]=>some []
 |[.f k' n]::r=>if k'=k then(jgJ k r).map (n :: ·)else none
 |_=>none
def jgK:List (List D)->Option (List ByteArray)
 |[]=>some []
 |[.s n]::r=>(jgK r).map (n :: ·)
 |_=>none
def jeT:List (List D)->Option (List Bool)
 |[]=>some []
 |[.b n]::r=>(jeT r).map (n :: ·)
 |_=>none
def ji8:List D->Option (List Int)
 |[]=>some []
 | .i .i64 n::r=>(ji8 r).map (n :: ·)
 |_=>none
def jit (e:Nat):List (List D)->Option (List (List Int))
 |[]=>some []
 |x::r =>
  match ji8 x,jit e r with
  |some y,some l=>if y.length=e then some (y::l)else none
  |_,_=>none
def jgL (e:Nat):List (List D)->Option (List (List D))
 |[]=>some []
 |x::r=>if x.length=e then(jgL e r).map (x :: ·)else none
def jgl (k:zZ):List D->Option (List Nat)
 |[]=>some []
 | .f k' n::r=>if k'=k then(jgl k r).map (n :: ·)else none
 |_=>none
def jl7 (k:zZ) (e:Nat):List (List D)->Option (List (List Nat))
 |[]=>some []
 |x::r =>
  match jgl k x,jl7 k e r with
  |some y,some l=>if y.length=e then some (y::l)else none
  |_,_=>none
def jwb:List D->Option zZ
 | .f k _::_=>some k
 |_=>none
def isI64:D->Bool
 | .i .i64 _=>true
 |_=>false
def jdN (zero:List D) (ls:List (List D)):Option Cont :=
 match zero with
 |[.i k _]=>(jgI k ls).map (.ints k)
 |[.f k _]=>(jgJ k ls).map (.floats k)
 |[.s _]=>(jgK ls).map .strs
 |[.b _]=>(jeT ls).map .bools
 |_=>match jwb zero with
  |some k=>(jl7 k zero.length ls).map (.frs k zero.length)
  |none=>if zero.all isI64=true then(jit zero.length ls).map (.recs zero.length)else(jgL zero.length ls).map (.lits zero.length)
def jkE (r:List Int):ji3 r.length r=r.map (D.i .i64):=by
 apply yw
 ·simp
 ·intro i h1 h2;simp[ji3]at h1 ⊢;simp[h1]
def jkF (r:List D):ji4 r.length r=r:=by
 apply yw
 ·simp
 ·intro i h1 h2;simp[ji4]at h1 ⊢;simp[h1]
def jmB {k:IntKind}:∀{ls:List (List D)} {l:List Int},jgI k ls=some l->l.flatMap (fun x=>[D.i k x])=ls.flatten∧l.length=ls.length
 |[],l,h=>by simp only[jgI,zi]at h;subst h;exact⟨rfl,rfl⟩
 |x::r,l,h=>by
  unfold jgI at h;split at h<;>first|(rename_i h';cases h';done)|skip
  ·rename_i k' n r' he;cases he;split at h
   ·rename_i hk;subst hk;cases hi:jgI k' r with
    |none=>simp[hi]at h
    |some l' =>
     simp[hi]at h;subst h;have:=jmB hi;exact⟨by simp[<-this.1],by simp[this.2]⟩
   ·cases h
  ·cases h
def jmC {k:zZ}:∀{ls:List (List D)} {l:List Nat},jgJ k ls=some l->l.flatMap (fun x=>[D.f k x])=ls.flatten∧l.length=ls.length
 |[],l,h=>by simp only[jgJ,zi]at h;subst h;exact⟨rfl,rfl⟩
 |x::r,l,h=>by
  unfold jgJ at h;split at h<;>first|(rename_i h';cases h';done)|skip
  ·rename_i k' n r' he;cases he;split at h
   ·rename_i hk;subst hk;cases hi:jgJ k' r with
    |none=>simp[hi]at h
    |some l' =>
     simp[hi]at h;subst h;have:=jmC hi;exact⟨by simp[<-this.1],by simp[this.2]⟩
   ·cases h
  ·cases h
def jmD:∀{ls:List (List D)} {l:List ByteArray},jgK ls=some l->l.flatMap (fun x=>[D.s x])=ls.flatten∧l.length=ls.length
 |[],l,h=>by simp only[jgK,zi]at h;subst h;exact⟨rfl,rfl⟩
 |x::r,l,h=>by
  unfold jgK at h;split at h<;>first|(rename_i h';cases h';done)|skip
  ·rename_i n r' he;cases he;cases hi:jgK r with
   |none=>simp[hi]at h
   |some l' =>
    simp[hi]at h;subst h;have:=jmD hi;exact⟨by simp[<-this.1],by simp[this.2]⟩
  ·cases h
def jkG:∀{ls:List (List D)} {l:List Bool},jeT ls=some l->l.flatMap (fun x=>[D.b x])=ls.flatten∧l.length=ls.length
 |[],l,h=>by simp only[jeT,zi]at h;subst h;exact⟨rfl,rfl⟩
 |x::r,l,h=>by
  unfold jeT at h;split at h<;>first|(rename_i h';cases h';done)|skip
  ·rename_i n r' he;cases he;cases hi:jeT r with
   |none=>simp[hi]at h
   |some l' =>
    simp[hi]at h;subst h;have:=jkG hi;exact⟨by simp[<-this.1],by simp[this.2]⟩
  ·cases h
def jiu:∀{x:List D} {y:List Int},ji8 x=some y->x=y.map (D.i .i64)
 |[],y,h=>by simp only[ji8,zi]at h;subst h;rfl
 |d::r,y,h=>by
  unfold ji8 at h;split at h<;>first|(rename_i h';cases h';done)|skip
  ·rename_i n r' he;cases he;cases hi:ji8 r with
   |none=>simp[hi]at h
   |some l' =>
    simp[hi]at h;subst h;simp[jiu hi]
  ·cases h
def jmE {e:Nat}:∀{ls:List (List D)} {l:List (List Int)},jit e ls=some l->l.flatMap (ji3 e)=ls.flatten∧l.length=ls.length
 |[],l,h=>by simp only[jit,zi]at h;subst h;exact⟨rfl,rfl⟩
 |x::r,l,h=>by
  unfold jit at h;split at h
  ·rename_i y l' hy hl;split at h
   ·rename_i hlen;cases h;have:=jmE hl;subst hlen;refine⟨?_,by simp[this.2]⟩;rw[xp,yo,this.1,jkE,jiu hy]
   ·cases h
  ·cases h
def jmF {e:Nat}:∀{ls:List (List D)} {l:List (List D)},jgL e ls=some l->l.flatMap (ji4 e)=ls.flatten∧l.length=ls.length
 |[],l,h=>by simp only[jgL,zi]at h;subst h;exact⟨rfl,rfl⟩
 |x::r,l,h=>by
  unfold jgL at h;split at h
  ·rename_i hlen;cases hi:jgL e r with
   |none=>simp[hi]at h
   |some l' =>
    simp[hi]at h;subst h;have:=jmF hi;subst hlen;refine⟨?_,by simp[this.2]⟩;rw[xp,yo,this.1,jkF]
  ·cases h
def ji9 (k:zZ) (r:List Nat):frD k r.length r=r.map (D.f k):=by
 apply xg;intro i;simp only[frD,zK]
 by_cases hi:i<r.length
 ·rw[js hi];simp[za,zJ hi]
 ·rw[z9 (by simpa using hi),z9 (by simpa using hi)];rfl
def jgM {k:zZ}:∀{x:List D} {y:List Nat},jgl k x=some y->x=y.map (D.f k)
 |[],y,h=>by simp only[jgl,zi]at h;subst h;rfl
 |d::r,y,h=>by
  cases d with
  |f k' n =>
   simp only[jgl]at h;split at h
   ·rename_i e;subst e;obtain⟨l,hl,rfl⟩:=z5.1 h;rw[jgM hl];rfl
   ·cases h
  |_=>simp only[jgl]at h;cases h
def joi {k:zZ} {e:Nat}:∀{ls:List (List D)} {l:List (List Nat)},jl7 k e ls=some l->l.flatMap (frD k e)=ls.flatten∧l.length=ls.length
 |[],l,h=>by simp only[jl7,zi]at h;subst h;exact⟨rfl,rfl⟩
 |x::r,l,h=>by
  simp only[jl7]at h;split at h
  ·rename_i y l' hx hl;split at h
   ·rename_i he;cases h;have ih:=joi hl;refine⟨?_,by simp[ih.2]⟩;rw[xp,yo,ih.1,jgM hx,<-he,ji9]
   ·cases h
  ·cases h
def jc4 {zero:List D} {ls:List (List D)} {c:Cont} (h:jdN zero ls=some c):c.flat=ls.flatten∧c.n=ls.length∧c.e=zero.length:=by
 unfold jdN at h;split at h
 ·rename_i k _;cases hi:jgI k ls with
  |none=>simp[hi]at h
  |some l=>simp[hi]at h;subst h;have:=jmB hi;exact⟨this.1,this.2,rfl⟩
 ·rename_i k _;cases hi:jgJ k ls with
  |none=>simp[hi]at h
  |some l=>simp[hi]at h;subst h;have:=jmC hi;exact⟨this.1,this.2,rfl⟩
 ·cases hi:jgK ls with
  |none=>simp[hi]at h
  |some l=>simp[hi]at h;subst h;have:=jmD hi;exact⟨this.1,this.2,rfl⟩
 ·cases hi:jeT ls with
  |none=>simp[hi]at h
  |some l=>simp[hi]at h;subst h;have:=jkG hi;exact⟨this.1,this.2,rfl⟩
 ·split at h
  ·rename_i k _;cases hi:jl7 k zero.length ls with
   |none=>simp[hi]at h
   |some l=>simp[hi]at h;subst h;have:=joi hi;exact⟨this.1,this.2,rfl⟩
  split at h
  ·cases hi:jit zero.length ls with
   |none=>simp[hi]at h
   |some l=>simp[hi]at h;subst h;have:=jmE hi;exact⟨this.1,this.2,rfl⟩
  ·cases hi:jgL zero.length ls with
   |none=>simp[hi]at h
   |some l=>simp[hi]at h;subst h;have:=jmF hi;exact⟨this.1,this.2,rfl⟩
def jl8 (zero:List D) (n:Nat):Option Cont :=
 match zero with
 |[.i k x]=>some (.ints k (zr n x))
 |[.f k x]=>some (.floats k (zr n x))
 |[.s x]=>some (.strs (zr n x))
 |[.b x]=>some (.bools (zr n x))
 |_=>match jwb zero with
  |some k=>(jgl k zero).map fun z=>.frs k zero.length (zr n z)
  |none=>match ji8 zero with
   |some z=>some (.recs zero.length (zr n z))
   |none=>some (.lits zero.length (zr n zero))
def jbk {α:Type} (g:α->List D) (x:α) (n:Nat):(zr n x).flatMap g=(zr n (g x)).flatten:=by
 induction n with
 |zero=>rfl
 |succ n ih=>simp[gc,ih]
def jr6 {zero:List D} {n:Nat} {c:Cont} (h:jl8 zero n=some c):c.flat=(zr n zero).flatten∧c.n=n∧c.e=zero.length:=by
 unfold jl8 at h;split at h
 ·cases h;exact⟨by simp only[Cont.flat,jbk],by simp[Cont.n],rfl⟩
 ·cases h;exact⟨by simp only[Cont.flat,jbk],by simp[Cont.n],rfl⟩
 ·cases h;exact⟨by simp only[Cont.flat,jbk],by simp[Cont.n],rfl⟩
 ·cases h;exact⟨by simp only[Cont.flat,jbk],by simp[Cont.n],rfl⟩
 ·split at h
  ·rename_i k _;cases hz:jgl k zero with
   |none=>simp[hz]at h
   |some z =>
    simp only[hz,zQ,zi]at h;subst h;refine⟨?_,by simp[Cont.n],rfl⟩;have hl:zero.length=z.length:=by rw[jgM hz];simp
    rw[Cont.flat,jbk,hl,ji9,<-jgM hz]
  split at h
  ·rename_i z hz;cases h;refine⟨?_,by simp[Cont.n],rfl⟩;have hl:zero.length=z.length:=by rw[jiu hz];simp
   rw[Cont.flat,jbk,hl,jkE,<-jiu hz]
  ·cases h;refine⟨?_,by simp[Cont.n],rfl⟩;rw[Cont.flat,jbk,jkF]
def Cont.app:Cont->Cont->Option Cont
 | .ints k l,.ints k' l'=>if k=k' then some (.ints k (l++l'))else none
 | .recs e l,.recs e' l'=>if e=e' then some (.recs e (l++l'))else none
 | .floats k l,.floats k' l'=>if k=k' then some (.floats k (l++l'))else none
 | .strs l,.strs l'=>some (.strs (l++l'))
 | .bools l,.bools l'=>some (.bools (l++l'))
 | .lits e l,.lits e' l'=>if e=e' then some (.lits e (l++l'))else none
 | .frs k e l,.frs k' e' l'=>if k=k' then if e=e' then some (.frs k e (l++l'))else none else none
 |_,_=>none
def Cont.app_flat {a b c:Cont} (h:a.app b=some c):c.flat=a.flat++b.flat∧c.n=a.n+b.n∧c.e=a.e∧b.e=a.e:=by
 unfold Cont.app at h
 split at h<;>first
  |(
    split at h
    ·split at h
     ·rename_i hk hk';subst hk;subst hk';cases h;exact⟨by simp[Cont.flat],by simp[Cont.n],rfl,rfl⟩
     ·cases h
    ·cases h)
  |(
    split at h
    ·rename_i hk;subst hk;cases h;exact⟨by simp[Cont.flat],by simp[Cont.n],rfl,rfl⟩
    ·cases h)
  |(cases h;exact⟨by simp[Cont.flat],by simp[Cont.n],rfl,rfl⟩)
  |cases h
def wr (e:Nat) (r:List Int) (j:Nat) (xs:List Int):List Int :=
 (zG e).map fun t=>if j<=t∧t<j+xs.length then xs.getD (t-j) 0 else r.getD t 0
def Cont.upd (c:Cont) (i j:Nat) (ds:List D):Option Cont :=
 match c,ds with
 | .ints k l,[.i k' x]=>if k'=k∧j=0 then some (.ints k (l.set i x))else none
 | .floats k l,[.f k' x]=>if k'=k∧j=0 then some (.floats k (l.set i x))else none
 | .strs l,[.s x]=>if j=0 then some (.strs (l.set i x))else none
 | .bools l,[.b x]=>if j=0 then some (.bools (l.set i x))else none
 | .recs e l,ds=>(ji8 ds).bind fun xs=>if j+xs.length<=e then some (.recs e (l.set i (wr e (l.getD i []) j xs)))else none
 |_,_=>none
def jaT {α:Type} (l:List α) (i k:Nat) (x d:α) (hi:i<l.length):(l.set i x).getD k d=if k=i then x else l.getD k d:=by
 simp only[za,xh]
 by_cases h:i=k
 ·subst h;simp[hi]
 ·simp[h,Ne.symm h]
def Cont.upd_cell {c c':Cont} {i j:Nat} {ds:List D} (h:c.upd i j ds=some c') (hi:i<c.n) :
  c'.n=c.n∧c'.e=c.e∧j+ds.length<=c.e ∧
   ∀k m,m<c.e->c'.cell k m=if k=i∧j<=m∧m<j+ds.length then ds.getD (m-j) (.v qe)else c.cell k m:=by
 unfold Cont.upd at h;split at h
 ·split at h
  ·rename_i hk;obtain⟨rfl,rfl⟩:=hk;cases h;refine⟨by simp[Cont.n],rfl,by simp[Cont.e],fun k m hm=>?_⟩;simp only[Cont.e]at hm;obtain rfl:m=0:=by omega
   simp only[Cont.cell,Cont.n]at *;rw[jaT _ _ _ _ _ hi]
   by_cases hki:k=i<;>simp[hki]
  ·cases h
 ·split at h
  ·rename_i hk;obtain⟨rfl,rfl⟩:=hk;cases h;refine⟨by simp[Cont.n],rfl,by simp[Cont.e],fun k m hm=>?_⟩;simp only[Cont.e]at hm;obtain rfl:m=0:=by omega
   simp only[Cont.cell,Cont.n]at *;rw[jaT _ _ _ _ _ hi]
   by_cases hki:k=i<;>simp[hki]
  ·cases h
 ·split at h
  ·rename_i hk;subst hk;cases h;refine⟨by simp[Cont.n],rfl,by simp[Cont.e],fun k m hm=>?_⟩;simp only[Cont.e]at hm;obtain rfl:m=0:=by omega
   simp only[Cont.cell,Cont.n]at *;rw[jaT _ _ _ _ _ hi]
   by_cases hki:k=i<;>simp[hki]
  ·cases h
 ·split at h
  ·rename_i hk;subst hk;cases h;refine⟨by simp[Cont.n],rfl,by simp[Cont.e],fun k m hm=>?_⟩;simp only[Cont.e]at hm;obtain rfl:m=0:=by omega
   simp only[Cont.cell,Cont.n]at *;rw[jaT _ _ _ _ _ hi]
   by_cases hki:k=i<;>simp[hki]
  ·cases h
 ·rename_i e l;cases hx:ji8 ds with
  |none=>simp[hx]at h
  |some xs =>
   simp only[hx,zw]at h;split at h
   ·rename_i hle;cases h;have hds:=jiu hx;subst hds;refine⟨by simp[Cont.n],rfl,by simpa [Cont.e]using hle,fun k m hm=>?_⟩;simp only[Cont.cell,Cont.n,Cont.e]at *;rw[jaT _ _ _ _ _ hi]
    by_cases hki:k=i
    ·subst hki;simp only[if_true,true_and,qG,wr];rw[qB,zK,js hm];simp only[zQ,zU];split
     ·rename_i hin;have:m-j<xs.length:=by omega
      simp[za,this]
     ·rfl
    ·simp[hki]
   ·cases h
 ·cases h
def Cont.sub:Cont->Nat->Nat->Cont
 | .ints k l,lo,hi=>.ints k ((l.drop lo).take (hi-lo))
 | .recs e l,lo,hi=>.recs e ((l.drop lo).take (hi-lo))
 | .floats k l,lo,hi=>.floats k ((l.drop lo).take (hi-lo))
 | .strs l,lo,hi=>.strs ((l.drop lo).take (hi-lo))
 | .bools l,lo,hi=>.bools ((l.drop lo).take (hi-lo))
 | .lits e l,lo,hi=>.lits e ((l.drop lo).take (hi-lo))
 | .frs k e l,lo,hi=>.frs k e ((l.drop lo).take (hi-lo))
def Cont.sub_cell (c:Cont) {lo hi:Nat} (h:lo<=hi) (hh:hi<=c.n):(c.sub lo hi).n=hi-lo∧(c.sub lo hi).e=c.e∧∀k m,k<hi-lo->(c.sub lo hi).cell k m=c.cell (lo+k) m:=by
 cases c<;>simp only[Cont.sub,Cont.n,Cont.e,Cont.cell]at * <;>
  first
  |(refine⟨by simp;omega,trivial,fun k m hk=>?_⟩;simp[za,hk])
  |(refine⟨by simp;omega,rfl,fun k m hk=>?_⟩;simp[za,hk])
def jr7 (e:Nat) (r:List Nat):List Nat:=(zG e).map fun j=>r.getD j 0
def juh (e:Nat) (r:List Nat):(jr7 e r).length=e:=by simp[jr7]
def jzq {e:Nat} {r:List Nat} {j:Nat} (h:j<e):(jr7 e r).getD j 0=r.getD j 0:=by simp[jr7,za,h]
def jja (e:Nat) (r:List Nat) (j x:Nat):List Nat:=(jr7 e r).set j x
def jr8 {e:Nat} {r:List Nat} {j x m:Nat} (hj:j<e) (hm:m<e):(jja e r j x).getD m 0=if m=j then x else r.getD m 0:=by
 rw[jja,jaT _ _ _ _ _ (by rw[juh];exact hj)];split
 ·rfl
 ·exact jzq hm
end Go.Sx
end

section
open Go.RowKit
namespace Go.Sx
structure Res where
 ob:Prop
 v:V
 hp:Hp
 nx:Nat
inductive RT where
 |leaf (r:Res)
 |br (b:Bool) (x y:RT)
def RT.sel:RT->Res
 | .leaf r=>r
 | .br b x y=>match b with
  |true=>x.sel
  |false=>y.sel
def RT.leaf?:RT->Option Res
 | .leaf r=>some r
 |_=>none
abbrev Spec:=List V->Hp->Nat->Option RT
def jah (hp:Hp):Hp:=hp.map fun x=>(x.1,match x.2 with | .view _ _ _=>.dead | .sub _ _ _ _ _ _=>.dead | .lview _ _ _ _=>.dead|o=>o)
def jaz (hp:Hp) (h:Nat):find (jah hp) h=(find hp h).map fun o=>match o with | .view _ _ _=>.dead | .sub _ _ _ _ _ _=>.dead | .lview _ _ _ _=>.dead|o=>o:=by
 induction hp with
 |nil=>rfl
 |cons x r ih =>
  obtain⟨k,o⟩:=x;simp only[jah,zM,find]at *;split
  ·rfl
  ·exact ih
def dOf:C->Option D
 | .d x=>some x
 |_=>none
def jbA:List C->Option (List D)
 |[]=>some []
 |x::r=>match dOf x,jbA r with
  |some d,some l=>some (d::l)
  |_,_=>none
def jcf:∀{l:List C} {ds:List D},jbA l=some ds->l=ds.map C.d
 |[],ds,h=>by simp only[jbA,zi]at h;subst h;rfl
 |x::r,ds,h=>by
  simp only[jbA]at h;split at h
  ·rename_i d l hx hl;cases h;have:=jcf hl;cases x<;>simp[dOf]at hx;subst hx;simp[this]
  ·cases h
def jjb (e:Nat):Nat->List D->List (List D)
 |0,_=>[]
 |n+1,l=>l.take e::jjb e n (l.drop e)
def jjc (e:Nat):∀(n:Nat) (l:List D),l.length=n*e->(jjb e n l).flatten=l∧(jjb e n l).length=n
 |0,l,h=>by
  have:l=[]:=List.eq_nil_of_length_eq_zero (by simpa using h);subst this;exact⟨rfl,rfl⟩
 |n+1,l,h=>by
  have h2:(l.drop e).length=n*e:=by rw[xf,h,qo];omega
  have:=jjc e n (l.drop e) h2;simp only[jjb,yo,this.1,xi,z4,this.2,and_self]
def jmG {α:Type} (z:List α) (n:Nat):(zr n z).flatten.length=n*z.length:=by simp
def jhx {α:Type} (z:List α):∀(n i:Nat),i<n*z.length->(zr n z).flatten[i]?=z[i%z.length]?
 |0,i,h=>by simp at h
 |n+1,i,h=>by
  rw[gc,yo]
  by_cases hi:i<z.length
  ·rw[z7 hi,Nat.mod_eq_of_lt hi]
  ·have hge:z.length<=i:=by omega
   rw[qa hge,jhx z n (i-z.length) (by rw[qo]at h;omega)]
   congr 1
   exact(Nat.mod_eq_sub_mod hge).symm
def jel (z:Array zF) (n:Nat):(ja z (n*z.size)).toList=(zr n z.toList).flatten:=by
 apply xg;intro i
 by_cases hi:i<n*z.size
 ·have h0:0<z.size:=by
   rcases x9 z.size with h|h
   ·rw[h]at hi;omega
   ·exact h
  have hm:=ya i h0;rw[jhx z.toList n i (by simpa using hi)];simp[ja,hi,hm]
 ·rw[z9 (by simp[ja];omega),z9 (by simp;omega)]
def jft (P:zy) (elem n:Nat) (parts:List (Nat × W)):Option Cont :=
 match jaB P elem,szT P elem with
 |some z,some (e+1) =>
  if z.length=e+1∧n*(e+1)<=4096 then
   match jde (fun i=>some (i*(e+1),e+1)) (zr n z).flatten parts,jbA z with
   |some out,some zd=>match jbA out with
    |some ds=>jdN zd (jjb (e+1) n ds)
    |none=>none
   |_,_=>none
  else none
 |_,_=>none
def jcg (hp:Hp) (v:V):Option (Option Nat × Option Cont) :=
 match v with
 | .w (.c (.o h))=>match(find hp h).bind O.cont with
  |some c=>some (some h,some c)
  |none=>none
 | .w (.c (.d (.v (.slice none 0 0))))=>some (none,none)
 |_=>none
def jcu (z:List D) (c:Option Cont):Option Cont :=
 match c with
 |some c=>some c
 |none=>jdN z []
def jhS (h:Nat) (o:O) (c:Cont):O :=
 match o with
 | .ext _=>.ext c
 | .fext _=>.fext c
 | .view r _ _=>.view r c false
 |_=>.view h c false
def jaQ (P:zy) (t:qf):Option Nat:=(P.info? t).map (·.bytes)
def jhy (rd:zH->Option V):List zH->Option (List V)
 |[]=>some []
 |x::r=>match rd x,jhy rd r with
  |some v,some l=>some (v::l)
  |_,_=>none
def Cont.one:Cont->Bool
 | .lits e l=>(Cont.lits e l).flat.all D.one
 |_=>true
def jjd (hp:Hp) (v:Option V):Option Cont :=
 match v with
 |some (.w (.c (.o h)))=>match find hp h with
  |some (.view _ c true)=>some c
  |_=>none
 |_=>none
def jfu (P:zy) (t:qf) (c1:Cont) (x:Option V) (hp:Hp) (nx:Nat):Option Res :=
 match P.underlying t,x.bind (jcg hp)with
 |some (.slice elem),some (_,cx) =>
  match(jaB P elem).bind jbA,szT P elem,jaQ P elem with
  |some z,some (e+1),some b=>match jcu z cx with
   |some c2=>match c1.app c2 with
    |some c3=>if z.length=e+1∧c1.e=e+1 then
      some ⟨0<c1.n∧0<c2.n∧(c1.n+c2.n)*b<=140737488355328∧c1.n+c2.n<=9223372036854775807,.w (.c (.o nx)),(nx,.row elem c3)::hp,nx+1⟩
     else none
    |none=>none
   |none=>none
  |_,_,_=>none
 |_,_=>none
def arrF (P:zy) (t:qf):Option (zZ × List Nat) :=
 match jbj P t,szT P t,(jaB P t).bind jbA with
 |some true,some sz,some ds=>match jwb ds,qn 8 ds.length,zt sz ds.length with
  |some k,true,true=>(jgl k ds).map fun r=>(k,r)
  |_,_,_=>none
 |_,_,_=>none
def XC.sub:XC->Nat->Nat->XC
 | .st sh l,lo,hi=>.st sh ((l.drop lo).take (hi-lo))
 | .ii k l,lo,hi=>.ii k ((l.drop lo).take (hi-lo))
 | .ff k l,lo,hi=>.ff k ((l.drop lo).take (hi-lo))
 | .bb k e l,lo,hi=>.bb k e ((l.drop lo).take (hi-lo))
 | .rr e l,lo,hi=>.rr e ((l.drop lo).take (hi-lo))
def jeU (b:Bool) (c:Cont):O:=match b with
 |true=>.fext c
 |false=>.ext c
def O.xk:O->Option (Bool × XC)
 | .xext x=>some (false,x)
 | .xrow _ x=>some (true,x)
 |_=>none
def ncH (b:Bool) (nx:Nat) (hp:Hp):NC->Hp
 | .d _=>hp
 | .r c=>(nx,jeU b c)::hp
def ncN (nx:Nat):NC->Nat
 | .d _=>nx
 | .r _=>nx+1
def ncs (b:Bool):List NC->Nat->Hp->List C × Hp × Nat
 |[],nx,hp=>([],hp,nx)
 |x::l,nx,hp=>match ncs b l (ncN nx x) (ncH b nx hp x)with
  |(cs,hp',nx')=>((match x with | .d y=>C.d y | .r _=>C.o nx)::cs,hp',nx')
def jd1 (k:zZ):List C->Option (List Nat)
 |[]=>some []
 | .d (.f k' n)::l=>match jbN k k',jd1 k l with
  |true,some r=>some (n::r)
  |_,_=>none
 |_::_=>none
def jcY:List ((Int × Int) × Int)->Int->Int->Option Int
 |[],_,_=>none
 |e::r,a,b=>match e.1.1==a&&e.1.2==b with
  |true=>some e.2
  |false=>jcY r a b
def jdl:List ((Int × Int) × Int)->Int->Int->Int->List ((Int × Int) × Int)
 |[],a,b,v=>[((a,b),v)]
 |e::r,a,b,v=>match e.1.1==a&&e.1.2==b with
  |true=>((a,b),v)::r
  |false=>e::jdl r a b v
def mapT (P:zy) (t:qf):Option (qf × qf × qf) :=
 match P.underlying t with
 |some (.map k e)=>match P.underlying k,P.underlying e,(P.info? e).bind (·.zero)with
  |some (.array 2 el),some (.int .i64),some (.int .i64 0)=>match P.underlying el,szT P el,jbj P el with
   |some (.int .i64),some 1,some false=>some (k,e,el)
   |_,_,_=>none
  |_,_,_=>none
 |_=>none
def jje (P:zy) (t:qf):Bool:=(mapT P t).isSome
def jdS (P:zy) (op:Op) (rd:zH->Option V) (hp:Hp) (nx:Nat):Option Res :=
 match op with
 | .box elem x =>
  match rd x with
  |some (.w (.b k e r))=>some ⟨True,.w (.c (.p nx 0 1 0)),(nx,.arr elem k e r)::hp,nx+1⟩
  |_=>none
 | .alloc elem =>
  match arrF P elem with
  |some (k,r)=>some ⟨True,.w (.c (.p nx 0 1 0)),(nx,.arr elem k r.length r)::hp,nx+1⟩
  |none=>none
 | .buildSlice t n parts =>
  match P.underlying t,parts.toList with
  |some (.slice elem),[(0,x)]=>match rd x,szT P elem,jaB P elem with
   |some (.w (.b k (e+1) r)),some sz,some z=>match zt n 1,zt sz (e+1),zt z.length (e+1),qn (e+1) 4096 with
    |true,true,true,true=>some ⟨True,.w (.c (.o nx)),(nx,.row elem (.frs k (e+1) [r]))::hp,nx+1⟩
    |_,_,_,_=>none
   |_,_,_=>none
  |_,_=>none
 | .slice t x lo hi none =>
  match P.underlying t,rd x,jaM rd lo,jaM rd hi with
  |some (.array n elem),some (.w (.c (.p h 0 1 0))),some l,some m =>
   match find hp h,szT P elem with
   |some (.arr _ k E r),some 1=>match zt n E,qn 1 n with
    |true,true =>
     some ⟨r.length=n∧0<=l.getD 0∧l.getD 0<=m.getD (n:Int)∧m.getD (n:Int)<=(n:Int),.w (.c (.o nx)),(nx,.view h (Cont.sub (.floats k r) (l.getD 0).toNat (m.getD (n:Int)).toNat) m.isNone)::hp,nx+1⟩
    |_,_=>none
   |_,_=>none
  |some (.slice elem),some (.w (.c (.o h))),some l,some m =>
   match find hp h,szT P elem with
   |some (.xext X),some sz=>match zt sz X.e,qn 1 sz with
    |true,true =>
     some ⟨0<=l.getD 0∧l.getD 0<=m.getD (X.n:Int)∧m.getD (X.n:Int)<=(X.n:Int),.w (.c (.o nx)),(nx,.xext (X.sub (l.getD 0).toNat (m.getD (X.n:Int)).toNat))::hp,nx+1⟩
    |_,_=>none
   |_,_=>none
  |_,_,_,_=>none
 | .slice t x lo (some hi) (some mx) =>
  match P.underlying t,rd x,jaM rd lo,(rd hi).bind V.int?,(rd mx).bind V.int? with
  |some (.slice elem),some (.w (.c (.o h))),some l,some (_,m),some (_,q) =>
   match find hp h,szT P elem with
   |some o,some (e+1)=>match o.cont with
    |some c=>if c.e=e+1 then
      some ⟨0<=l.getD 0∧l.getD 0<=m∧m<=q∧q<=(c.n:Int),.w (.c (.o nx)),(nx,jhS h o (c.sub (l.getD 0).toNat m.toNat))::hp,nx+1⟩
     else none
    |none=>none
   |_,_=>none
  |_,_,_,_,_=>none
 | .load t x =>
  match rd x with
  |some (.w (.c (.p h i e j)))=>match(find hp h).bind O.xk with
   |some (b,X)=>match zt e X.e,jbj P t with
    |true,some false=>match qh j X.e,X.cell i j with
     |true,.r c=>some ⟨i<X.n,.w (.c (.o nx)),(nx,jeU b c)::hp,nx+1⟩
     |_,_=>none
    |true,some true=>match zt j 0,szT P t with
     |true,some sz=>match zt sz X.e with
      |true=>match ncs b ((zG X.e).map fun m=>X.cell i m) nx hp with
       |(cs,hp',nx')=>some ⟨i<X.n,.w (.a cs),hp',nx'⟩
      |false=>none
     |_,_=>none
    |_,_=>none
   |none=>none
  |_=>none
 | .store t x y =>
  match rd x,rd y with
  |some (.w (.c (.p h i e j))),some (.w (.c (.d (.f k v)))) =>
   match jbj P t,szT P t,find hp h with
   |some false,some 1,some (.arr ty k' E r)=>match jbN k k' with
    |true=>some ⟨i*e+j<E,vu,(h,.arr ty k' E (jja E r (i*e+j) v))::jah hp,nx⟩
    |false=>none
   |some false,some 1,some (.row ty (.frs k' (E+1) l))=>match jbN k k',zt e (E+1)with
    |true,true=>some ⟨i<l.length∧j<E+1,vu,(h,.row ty (.frs k' (E+1) (l.set i (jja (E+1) (l.getD i []) j v))))::jah hp,nx⟩
    |_,_=>none
   |_,_,_=>none
  |some (.w (.c (.p h i e 0))),some (.w (.b k E' v)) =>
   match jbj P t,szT P t,find hp h with
   |some true,some sz,some (.arr ty k' E r)=>match jbN k k',zt sz E,zt E' E,zt i 0 with
    |true,true,true,true=>some ⟨True,vu,(h,.arr ty k' E v)::jah hp,nx⟩
    |_,_,_,_=>none
   |some true,some sz,some (.row ty (.frs k' (E+1) l))=>match jbN k k',zt sz (E+1),zt E' (E+1),zt e (E+1)with
    |true,true,true,true=>some ⟨i<l.length,vu,(h,.row ty (.frs k' (E+1) (l.set i v)))::jah hp,nx⟩
    |_,_,_,_=>none
   |_,_,_=>none
  |some (.w (.c (.p h i e 0))),some (.w (.a cs)) =>
   match jbj P t,szT P t,find hp h with
   |some true,some sz,some (.arr ty k E r)=>match jd1 k cs with
    |some v=>match zt sz E,zt v.length E,zt i 0 with
     |true,true,true=>some ⟨True,vu,(h,.arr ty k E v)::jah hp,nx⟩
     |_,_,_=>none
    |none=>none
   |_,_,_=>none
  |_,_=>none
 | .makeMap t none =>
  match jje P t with
  |true=>some ⟨True,.w (.c (.o nx)),(nx,.map [])::hp,nx+1⟩
  |false=>none
 | .lookup t x i true =>
  match jje P t,rd x,rd i with
  |true,some (.w (.c (.o h))),some (.w (.a [.d (.i .i64 a),.d (.i .i64 b)]))=>match find hp h with
   |some (.map es)=>some ⟨True,.t [.c (.d (.i .i64 ((jcY es a b).getD 0))),.c (.d (.b (jcY es a b).isSome))],hp,nx⟩
   |_=>none
  |_,_,_=>none
 | .mapUpdate t m i y =>
  match jje P t,rd m,rd i,rd y with
  |true,some (.w (.c (.o h))),some (.w (.a [.d (.i .i64 a),.d (.i .i64 b)])),some (.w (.c (.d (.i .i64 v))))=>match find hp h with
   |some (.map es)=>some ⟨True,vu,(h,.map (jdl es a b v))::jah hp,nx⟩
   |_=>none
  |_,_,_,_=>none
 |_=>none
def jbw:NK->NC->Bool
 | .i k,.d (.i k' _)=>decide (k=k')
 | .b,.d (.b _)=>true
 | .f k,.d (.f k' _)=>jbN k k'
 | .s,.d (.s _)=>true
 | .ints k,.r (.ints k' _)=>decide (k=k')
 | .recs e,.r (.recs e' _)=>zt e e'
 | .flts k,.r (.floats k' _)=>jbN k k'
 | .strs,.r (.strs _)=>true
 | .bools,.r (.bools _)=>true
 | .frs k e,.r (.frs k' e' _)=>match jbN k k' with
  |true=>zt e e'
  |false=>false
 |_,_=>false
def jl9:NK->Option NC
 | .ints k=>some (.r (.ints k []))
 | .recs (e+1)=>some (.r (.recs (e+1) []))
 | .flts k=>some (.r (.floats k []))
 | .strs=>some (.r (.strs []))
 | .bools=>some (.r (.bools []))
 | .frs k (e+1)=>some (.r (.frs k (e+1) []))
 |_=>none
def XC.sh:XC->List NK
 | .st sh _=>sh
 | .ii k _=>[.ints k]
 | .ff k _=>[.flts k]
 | .bb k e _=>[.frs k e]
 | .rr e _=>[.recs e]
def jiv (hp:Hp) (k:NK) (c:C):Option (NC × Option Nat) :=
 match c with
 | .d (.v (.slice none 0 0))=>match jl9 k with
  |some x=>some (x,none)
  |none=>none
 | .d x=>match jbw k (.d x)with
  |true=>some (.d x,none)
  |false=>none
 | .o h=>match find hp h with
  |some (.row _ c)=>match jbw k (.r c)with
   |true=>some (.r c,some h)
   |false=>none
  |some (.rrow c)=>match jbw k (.r c)with
   |true=>some (.r c,some h)
   |false=>none
  |some (.fext c)=>match jbw k (.r c)with
   |true=>some (.r c,none)
   |false=>none
  |_=>none
 |_=>none
def jbP (hp:Hp):List NK->List C->Option (List NC × List Nat)
 |[],[]=>some ([],[])
 |k::ks,c::cs=>match jiv hp k c,jbP hp ks cs with
  |some (x,h),some (l,hs)=>some (x::l,match h with|some h=>h::hs|none=>hs)
  |_,_=>none
 |_,_=>none
def frz (hp:Hp):List Nat->Hp
 |[]=>hp
 |h::r=>match(find (frz hp r) h).bind O.cont with
  |some c=>(h,.fext c)::frz hp r
  |none=>frz hp r
def XC.put (X:XC) (i:Nat) (r:List NC):XC :=
 match X with
 | .st sh l=>.st sh (l.set i r)
 | .ii k l=>.ii k (l.set i ((r.headD (.d (.v qe))).toInts))
 | .ff k l=>.ff k (l.set i ((r.headD (.d (.v qe))).toFlts))
 | .bb k e l=>.bb k e (l.set i ((r.headD (.d (.v qe))).toFrs))
 | .rr e l=>.rr e (l.set i ((r.headD (.d (.v qe))).toRecs))
def XC.mk (X:XC) (rs:List (List NC)):XC :=
 match X with
 | .st sh _=>.st sh rs
 | .ii k _=>.ii k (rs.map fun r=>(r.headD (.d (.v qe))).toInts)
 | .ff k _=>.ff k (rs.map fun r=>(r.headD (.d (.v qe))).toFlts)
 | .bb k e _=>.bb k e (rs.map fun r=>(r.headD (.d (.v qe))).toFrs)
 | .rr e _=>.rr e (rs.map fun r=>(r.headD (.d (.v qe))).toRecs)
def XC.rep (X:XC) (n:Nat) (r:List NC):XC :=
 match X with
 | .st sh _=>.st sh (zr n r)
 | .ii k _=>.ii k (zr n ((r.headD (.d (.v qe))).toInts))
 | .ff k _=>.ff k (zr n ((r.headD (.d (.v qe))).toFlts))
 | .bb k e _=>.bb k e (zr n ((r.headD (.d (.v qe))).toFrs))
 | .rr e _=>.rr e (zr n ((r.headD (.d (.v qe))).toRecs))
def XC.app:XC->XC->Option XC
 | .st sh l,.st sh' l'=>if sh=sh' then some (.st sh (l++l'))else none
 | .ii k l,.ii k' l'=>if k=k' then some (.ii k (l++l'))else none
 | .ff k l,.ff k' l'=>if k=k' then some (.ff k (l++l'))else none
 | .bb k e l,.bb k' e' l'=>if k=k'∧e=e' then some (.bb k e (l++l'))else none
 | .rr e l,.rr e' l'=>if e=e' then some (.rr e (l++l'))else none
 |_,_=>none
def jd2 (sh:List NK) (r:List NC) (j:Nat) (x:NC):List NC:=(zG sh.length).map fun m=>cond (zt m j) x ((sh.getD m .b).norm (r.getD m (.d (.v qe))))
def XC.row (X:XC) (i j:Nat) (x:NC):List NC :=
 match X with
 | .st sh l=>jd2 sh (l.getD i []) j x
 |_=>[x]
def nkSl (P:zy) (e:qf) (sub:Option (List NK)):Option NK :=
 match P.underlying e with
 |some (.int k)=>some (.ints k)
 |some (.float k)=>some (.flts k)
 |some .string=>some .strs
 |some .bool=>some .bools
 |some (.array n el)=>match P.underlying el with
  |some (.float k)=>match szT P el with
   |some 1=>some (.frs k n)
   |_=>none
  |_=>none
 |some (.struct _)=>match sub with
  |some l=>match l.all fun x=>decide (x=.i .i64)with
   |true=>some (.recs l.length)
   |false=>none
  |none=>none
 |_=>none
def nkT (P:zy):Nat->qf->Option (List NK)
 |0,_=>none
 |n+1,t=>match P.underlying t with
  |some (.int k)=>some [.i k]
  |some (.float k)=>some [.f k]
  |some .string=>some [.s]
  |some .bool=>some [.b]
  |some (.slice e)=>match nkSl P e (nkT P n e)with
   |some k=>some [k]
   |none=>none
  |some (.array m e)=>match nkT P n e with
   |some l=>some (zr m l).flatten
   |none=>none
  |some (.struct fs)=>fs.toList.foldr (fun f l=>match nkT P n f.type,l with
   |some a,some b=>some (a++b)
   |_,_=>none) (some [])
  |_=>none
def NK.isSl:NK->Bool
 | .i _=>false
 | .b=>false
 | .f _=>false
 | .s=>false
 |_=>true
def xcT (P:zy) (elem:qf):Option XC :=
 match nkT P 6 elem with
 |some sh=>match P.underlying elem with
  |some (.struct _)=>match sh.any NK.isSl with
   |true=>some (.st sh [])
   |false=>none
  |some (.slice _)=>match sh with
   |[.ints k]=>some (.ii k [])
   |[.flts k]=>some (.ff k [])
   |[.frs k e]=>some (.bb k e [])
   |[.recs e]=>some (.rr e [])
   |_=>none
  |_=>none
 |none=>none
def jgD (hp:Hp) (sh:List NK):Nat->List (Nat × W)->Option (List (List NC) × List Nat)
 |_,[]=>some ([],[])
 |n,(i,u)::r=>match zt i n,jbP hp sh u.cells,jgD hp sh (n+1) r with
  |true,some (x,hs),some (l,gs)=>some (x::l,hs++gs)
  |_,_,_=>none
def xOf (hp:Hp) (X0:XC) (v:V):Option (Option Nat × Nat × XC) :=
 match v with
 | .w (.c (.o h))=>match find hp h with
  |some (.xrow ty X)=>some (some h,ty,X)
  |_=>none
 | .w (.c (.d (.v (.slice none 0 0))))=>some (none,0,X0)
 |_=>none
def jdT [Globs] (P:zy) (op:Op) (rd:zH->Option V) (hp:Hp) (nx:Nat):Option Res :=
 match op with
 | .makeSlice t l c =>
  match P.underlying t,(rd l).bind V.int?,(rd c).bind V.int? with
  |some (.slice elem),some (_,n),some (_,m)=>match xcT P elem,jaB P elem,jaQ P elem,szT P elem with
   |some X0,some z,some b,some (e+1)=>match jbP [] X0.sh z,zt z.length (e+1)with
    |some (r,_),true=>some ⟨0<=n∧n=m∧(b:Int)*n<=281474976710656∧n<=9223372036854775807,.w (.c (.o nx)),(nx,.xrow elem (X0.rep n.toNat r))::hp,nx+1⟩
    |_,_=>none
   |_,_,_,_=>none
  |_,_,_=>none
 | .buildSlice t n parts =>
  match Globs.nestT t,P.underlying t,jcp rd hp parts.toList with
  |true,some (.slice elem),some l=>match xcT P elem,jaB P elem,szT P elem with
   |some X0,some z,some (e+1)=>match jgD hp X0.sh 0 l,zt l.length n,zt z.length (e+1),zt X0.sh.length (e+1),qn (n*(e+1)) 4096 with
    |some (rs,hs),true,true,true,true=>some ⟨True,.w (.c (.o nx)),(nx,.xrow elem (X0.mk rs))::frz hp hs,nx+1⟩
    |_,_,_,_,_=>none
   |_,_,_=>none
  |_,_,_=>none
 | .store t x y =>
  match rd x,rd y with
  |some (.w (.c (.p h i e j))),some (.w u) =>
   match find hp h,szT P t with
   |some (.xrow ty X),some sz=>match u.one hp,u.cells.all (fun c=>c.one hp),zt e X.e,zt X.sh.length e,qn 1 e,zt sz u.cells.length with
    |true,true,true,true,true,true=>match zt sz e with
     |true=>match zt j 0,jbP hp X.sh u.cells with
      |true,some (r,hs)=>some ⟨i<X.n,vu,(h,.xrow ty (X.put i r))::frz (jah hp) hs,nx⟩
      |_,_=>none
     |false=>match u.cells,X.sh[j]? with
      |[c],some k=>match jiv hp k c with
       |some (x,g)=>some ⟨i<X.n,vu,(h,.xrow ty (X.put i (X.row i j x)))::frz (jah hp) g.toList,nx⟩
       |none=>none
      |_,_=>none
    |_,_,_,_,_,_=>none
   |_,_=>none
  |_,_=>none
 | .call c =>
  match c.callee,c.args.toList,c.argTypes.toList with
  | .builtin .append,[s,x],[t,t'] =>
   match zt t t',P.underlying t with
   |true,some (.slice elem)=>match xcT P elem,jaB P elem,szT P elem,jaQ P elem with
    |some X0,some z,some (e+1),some b=>match(rd s).bind (xOf hp X0),(rd x).bind (xOf hp X0)with
     |some (hs,ty,X1),some (hx,ty',X2)=>match X1.app X2,(match hs with|some _=>zt ty elem|none=>true),(match hx with|some _=>zt ty' elem|none=>true),zt z.length (e+1),zt X1.sh.length (e+1)with
      |some X3,true,true,true,true=>some ⟨(X1.n+X2.n)*b<=140737488355328∧X1.n+X2.n<=9223372036854775807,.w (.c (.o nx)),
        (nx,.xrow elem X3)::(match hs with|some h=>(h,.dead)::jah hp|none=>jah hp),nx+1⟩
      |_,_,_,_,_=>none
     |_,_=>none
    |_,_,_,_=>none
   |_,_=>none
  |_,_,_=>none
 |_=>none
def tyT (P:zy):Nat->qf->Option (List Nat)
 |0,_=>none
 |n+1,t=>match P.underlying t with
  |some (.int _)=>some [0]
  |some (.float _)=>some [0]
  |some .string=>some [0]
  |some .bool=>some [0]
  |some (.slice e)=>some [e]
  |some (.array m e)=>match tyT P n e with
   |some l=>some (zr m l).flatten
   |none=>none
  |some (.struct fs)=>fs.toList.foldr (fun f l=>match tyT P n f.type,l with
   |some a,some b=>some (a++b)
   |_,_=>none) (some [])
  |_=>none
def jch (hp:Hp) (k:NK) (t:Nat) (c:C):Option (NC × Option Nat) :=
 match c with
 | .d (.v (.slice none 0 0))=>match jl9 k with
  |some x=>some (x,none)
  |none=>none
 | .d x=>match jbw k (.d x)with
  |true=>some (.d x,none)
  |false=>none
 | .o h=>match find hp h with
  |some (.row ty c)=>match jbw k (.r c),zt ty t with
   |true,true=>some (.r c,some h)
   |_,_=>none
  |_=>none
 |_=>none
def jaP (hp:Hp):List NK->List Nat->List C->Option (List NC × List Nat)
 |[],_,[]=>some ([],[])
 |k::ks,ts,c::cs=>match jch hp k (ts.headD 0) c,jaP hp ks ts.tail cs with
  |some (x,h),some (l,hs)=>some (x::l,match h with|some h=>h::hs|none=>hs)
  |_,_=>none
 |_,_,_=>none
def jeV (hp:Hp) (sh:List NK) (ts:List Nat):Nat->List (Nat × W)->Option (List (List NC) × List Nat)
 |_,[]=>some ([],[])
 |n,(i,u)::r=>match zt i n,jaP hp sh ts u.cells,jeV hp sh ts (n+1) r with
  |true,some (x,hs),some (l,gs)=>some (x::l,hs++gs)
  |_,_,_=>none
def jfL:List Nat->Bool
 |[]=>true
 |h::r=>match r.contains h with
  |true=>false
  |false=>jfL r
def jdm (hp:Hp):List Nat->Hp
 |[]=>hp
 |h::r=>(h,.dead)::jdm hp r
def jcI (h i e:Nat) (ts:List Nat):Nat->List NC->Nat->Hp->List C × Hp × Nat
 |_,[],nx,hp=>([],hp,nx)
 |j,x::l,nx,hp=>match x with
  | .d y=>match jcI h i e ts (j+1) l nx hp with
   |(cs,hp',nx')=>(.d y::cs,hp',nx')
  | .r c=>match jcI h i e ts (j+1) l (nx+1) ((nx,.sub h i e j (ts.getD j 0) c)::hp)with
   |(cs,hp',nx')=>(.o nx::cs,hp',nx')
def jma (r e j:Nat) (hp:Hp):Hp:=hp.map fun x=>(x.1,match x.2 with
 | .view _ _ _=>.dead
 | .sub r2 i2 e2 j2 t2 c2=>match zt r2 r,zt e2 e,zt j2 j with
  |true,true,false=>.sub r2 i2 e2 j2 t2 c2
  |_,_,_=>.dead
 | .lview _ _ _ _=>.dead
 |o=>o)
def mOf (hp:Hp) (X0:XC) (v:V):Option (Option Nat × Nat × List Nat × XC) :=
 match v with
 | .w (.c (.o h))=>match find hp h with
  |some (.mrow ty ts X none)=>some (some h,ty,ts,X)
  |_=>none
 | .w (.c (.d (.v (.slice none 0 0))))=>some (none,0,[],X0)
 |_=>none
def jcG (hp:Hp):Option Nat->Hp
 |some h=>(h,.dead)::hp
 |none=>hp
def jfM [Globs] (P:zy) (t elem:qf) (us ux:Option V) (hp:Hp) (nx:Nat):Option Res :=
 match Globs.nestM t,xcT P elem,jaB P elem,szT P elem,jaQ P elem,tyT P 6 elem with
 |true,some X0,some z,some (e+1),some b,some ts=>match us.bind (mOf hp X0),ux.bind (mOf hp X0)with
  |some (hs,ty,t1,X1),some (hx,ty',t2,X2)=>match X1.app X2,(match hs with|some _=>zt ty elem&&decide (t1=ts)|none=>true),(match hx with|some _=>zt ty' elem&&decide (t2=ts)|none=>true),zt z.length (e+1),zt X1.sh.length (e+1),(match hs,hx with|some a,some b=>!(zt a b)|_,_=>true)with
   |some X3,true,true,true,true,true=>some ⟨(X1.n+X2.n)*b<=140737488355328∧X1.n+X2.n<=9223372036854775807,.w (.c (.o nx)),
     (nx,.mrow elem ts X3 none)::jcG (jcG (jah hp) hs) hx,nx+1⟩
   |_,_,_,_,_,_=>none
  |_,_=>none
 |_,_,_,_,_,_=>none
def jdU [Globs] (P:zy) (op:Op) (rd:zH->Option V) (hp:Hp) (nx:Nat):Option Res :=
 match op with
 | .makeSlice t l c =>
  match Globs.nestM t,P.underlying t,(rd l).bind V.int?,(rd c).bind V.int? with
  |true,some (.slice elem),some (_,n),some (_,m)=>match xcT P elem,jaB P elem,jaQ P elem,szT P elem,tyT P 6 elem with
   |some X0,some z,some b,some (e+1),some ts=>match jaP [] X0.sh ts z,zt z.length (e+1)with
    |some (r,_),true=>some ⟨0<=n∧n=m∧(b:Int)*n<=281474976710656∧n<=9223372036854775807,.w (.c (.o nx)),(nx,.mrow elem ts (X0.rep n.toNat r) none)::hp,nx+1⟩
    |_,_=>none
   |_,_,_,_,_=>none
  |_,_,_,_=>none
 | .buildSlice t n parts =>
  match Globs.nestM t,Globs.nestT t,P.underlying t,jcp rd hp parts.toList with
  |true,true,some (.slice elem),some l=>match xcT P elem,jaB P elem,szT P elem,tyT P 6 elem with
   |some X0,some z,some (e+1),some ts=>match jeV hp X0.sh ts 0 l,zt l.length n,zt z.length (e+1),zt X0.sh.length (e+1),qn (n*(e+1)) 4096 with
    |some (rs,hs),true,true,true,true=>match jfL hs with
     |true=>some ⟨True,.w (.c (.o nx)),(nx,.mrow elem ts (X0.mk rs) none)::jdm hp hs,nx+1⟩
     |false=>none
    |_,_,_,_,_=>none
   |_,_,_,_=>none
  |_,_,_,_=>none
 | .load t x =>
  match rd x with
  |some (.w (.c (.p h i e j)))=>match find hp h with
   |some (.mrow _ ts X none)=>match zt e X.e,jbj P t with
    |true,some false=>match qh j X.e,X.cell i j with
     |true,.r c=>some ⟨i<X.n,.w (.c (.o nx)),(nx,.sub h i X.e j (ts.getD j 0) c)::hp,nx+1⟩
     |_,_=>none
    |true,some true=>match zt j 0,szT P t with
     |true,some sz=>match zt sz X.e with
      |true=>match jcI h i X.e ts 0 ((zG X.e).map fun m=>X.cell i m) nx hp with
       |(cs,hp',nx')=>some ⟨i<X.n,.w (.a cs),hp',nx'⟩
      |false=>none
     |_,_=>none
    |_,_=>none
   |_=>none
  |_=>none
 | .store t x y =>
  match rd x,rd y with
  |some (.w (.c (.p h i e j))),some (.w u) =>
   match find hp h,szT P t with
   |some (.mrow ty ts X ho),some sz=>match u.one hp,u.cells.all (fun c=>c.one hp),zt e X.e,zt X.sh.length e,qn 1 e,zt sz u.cells.length with
    |true,true,true,true,true,true=>match zt sz e,ho with
     |true,none=>match zt j 0,jaP hp X.sh ts u.cells with
      |true,some (r,hs)=>match jfL hs with
       |true=>some ⟨i<X.n,vu,(h,.mrow ty ts (X.put i r) none)::jdm (jah hp) hs,nx⟩
       |false=>none
      |_,_=>none
     |_,_=>match u.cells,X.sh[j]? with
      |[c],some k=>match jch hp k (ts.getD j 0) c with
       |some (x,g)=>match ho with
        |none=>some ⟨i<X.n,vu,(h,.mrow ty ts (X.put i (X.row i j x)) none)::jdm (jah hp) g.toList,nx⟩
        |some (i0,j0)=>match zt j j0 with
         |true=>some ⟨i=i0∧i<X.n,vu,(h,.mrow ty ts (X.put i (X.row i j x)) none)::jdm (jah hp) g.toList,nx⟩
         |false=>none
       |none=>none
      |_,_=>none
    |_,_,_,_,_,_=>none
   |some (.sub r i0 e0 j0 t0 c),some sz=>match u.one hp,u.cells.all (fun c=>c.one hp),zt e c.e,qn 1 e,zt sz u.cells.length,jbA u.cells with
    |true,true,true,true,true,some ds=>match c.upd i j ds,find hp r with
     |some c',some (.mrow ty ts X none)=>match zt e0 X.e,X.sh[j0]? with
      |true,some k=>match jbw k (.r c'),zt (ts.getD j0 0) t0 with
       |true,true=>some ⟨i<c.n,vu,(r,.mrow ty ts (X.put i0 (X.row i0 j0 (.r c'))) none)::(h,.sub r i0 e0 j0 t0 c')::jma r e0 j0 hp,nx⟩
       |_,_=>none
      |_,_=>none
     |_,_=>none
    |_,_,_,_,_,_=>none
   |_,_=>none
  |_,_=>none
 | .call c =>
  match c.callee,c.args.toList,c.argTypes.toList with
  | .builtin .append,[s,x],[t,t'] =>
   match zt t t',P.underlying t with
   |true,some (.slice elem) =>
    match(rd s).bind V.obj? with
    |some hs0=>match find hp hs0 with
     |some (.sub r i e0 j t0 c1)=>match(rd x).bind (jcg hp),(jaB P elem).bind jbA,szT P elem,jaQ P elem,find hp r with
      |some (_,cx),some z,some (e+1),some b,some (.mrow ty ts X none)=>match jcu z cx with
       |some c2=>match c1.app c2,zt t0 elem,zt e0 X.e with
        |some c3,true,true=>if z.length=e+1∧c1.e=e+1∧c2.one=true then
          some ⟨(c1.n+c2.n)*b<=140737488355328∧c1.n+c2.n<=9223372036854775807,.w (.c (.o nx)),(nx,.row elem c3)::(r,.mrow ty ts X (some (i,j)))::jah hp,nx+1⟩
         else none
        |_,_,_=>none
       |none=>none
      |_,_,_,_,_=>none
     |_=>jfM P t elem (rd s) (rd x) hp nx
    |none=>jfM P t elem (rd s) (rd x) hp nx
   |_,_=>none
  |_,_,_=>none
 |_=>none
def O.isSub:O->Bool
 | .sub _ _ _ _ _ _=>true
 |_=>false
def jxX (hp:Hp):Bool:=hp.any fun x=>x.2.isSub
def jrN (hp:Hp):O->O
 | .view _ _ _=>.dead
 | .lview _ _ _ _=>.dead
 | .sub r i e j t c=>match find hp r with
  |some (.mrow _ _ _ none)=>.sub r i e j t c
  |_=>.dead
 |o=>o
def joj (hp:Hp):Hp:=hp.map fun x=>(x.1,jrN hp x.2)
def jdV (P:zy) (op:Op) (rd:zH->Option V) (hp:Hp) (nx:Nat):Option Res :=
 match op with
 | .load t x =>
  match rd x with
  |some (.w (.c (.p h i e j)))=>match find hp h with
   |some (.trow _ _ X m)=>match zt e X.e,jbj P t with
    |true,some false=>match qh j X.e,X.cell i j with
     |true,.r c=>some ⟨i<X.n∧m<=i*X.e+j,.w (.c (.o nx)),(nx,.ext c)::hp,nx+1⟩
     |_,_=>none
    |_,_=>none
   |_=>none
  |_=>none
 | .store t x y =>
  match rd x,rd y with
  |some (.w (.c (.p h i e j))),some (.w u) =>
   match find hp h,szT P t with
   |some (.trow ty ts X m),some sz=>match u.one hp,u.cells.all (fun c=>c.one hp),zt e X.e,zt sz u.cells.length with
    |true,true,true,true=>match u.cells,X.sh[j]? with
     |[c],some k=>match jch hp k (ts.getD j 0) c with
      |some (x,g)=>some ⟨i<X.n∧m<=i*X.e+j∧∀i' j',j'<X.e->m<=i' * X.e+j'->i' * X.e+j'<i*X.e+j->(X.sh.getD j' .b).isSl=false,
        vu,(h,.trow ty ts (X.put i (X.row i j x)) (i*X.e+j+1))::jdm (jah hp) g.toList,nx⟩
      |none=>none
     |_,_=>none
    |_,_,_,_=>none
   |some (.box ty cs),some sz=>match jxX hp,u.one hp,u.cells.all (fun c=>c.one hp),zt sz u.cells.length,qn 1 e,qn (i*e+j+u.cells.length) cs.length with
    |true,true,true,true,true,true=>some ⟨True,vu,(h,.box ty (cs.take (i*e+j)++u.cells++cs.drop (i*e+j+u.cells.length)))::joj hp,nx⟩
    |_,_,_,_,_,_=>none
   |_,_=>none
  |_,_=>none
 |_=>none
def lOf (hp:Hp) (v:V):Option (Option Nat × Nat × Nat × Nat × List C) :=
 match v with
 | .w (.c (.o h))=>match find hp h with
  |some (.lbox ty e n cs)=>some (some h,ty,e,n,cs)
  |_=>none
 | .w (.c (.d (.v (.slice none 0 0))))=>some (none,0,0,0,[])
 |_=>none
def lRd (hp:Hp) (v:V):Option (Nat × List C) :=
 match v with
 | .w (.c (.o h))=>match(find hp h).bind O.lst with
  |some (_,n,cs)=>some (n,cs)
  |none=>none
 | .w (.c (.d (.v (.slice none 0 0))))=>some (0,[])
 |_=>none
def jr9 (P:zy) (elem n:Nat) (parts:List (Nat × W)):Option (Nat × List C) :=
 match jaB P elem,szT P elem with
 |some z,some (e+1) =>
  if z.length=e+1∧n*(e+1)<=4096 then
   match jde (fun i=>some (i*(e+1),e+1)) (zr n z).flatten parts with
   |some out=>some (e+1,out)
   |none=>none
  else none
 |_,_=>none
def jev [Globs] (P:zy) (op:Op) (rd:zH->Option V) (hp:Hp) (nx:Nat):Option Res :=
 match op with
 | .makeSlice t l c =>
  match Globs.nestL t,P.underlying t,(rd l).bind V.int?,(rd c).bind V.int? with
  |true,some (.slice elem),some (_,n),some (_,m)=>match jaB P elem,szT P elem,jaQ P elem with
   |some z,some (e+1),some b=>match zt z.length (e+1)with
    |true=>some ⟨0<=n∧n=m∧(b:Int)*n<=281474976710656∧n<=9223372036854775807,.w (.c (.o nx)),(nx,.lbox elem (e+1) n.toNat (zr n.toNat z).flatten)::hp,nx+1⟩
    |false=>none
   |_,_,_=>none
  |_,_,_,_=>none
 | .buildSlice t n parts =>
  match Globs.nestL t,P.underlying t,jcp rd hp parts.toList with
  |true,some (.slice elem),some l=>match jr9 P elem n l with
   |some (e,cs)=>some ⟨True,.w (.c (.o nx)),(nx,.lbox elem e n cs)::hp,nx+1⟩
   |none=>none
  |_,_,_=>none
 | .slice t x lo hi none =>
  match P.underlying t,rd x,jaM rd lo,jaM rd hi with
  |some (.slice elem),some (.w (.c (.o h))),some l,some m =>
   match(find hp h).bind O.lst,szT P elem with
   |some (e,n,cs),some (sz+1)=>match zt e (sz+1)with
    |true=>some ⟨0<=l.getD 0∧l.getD 0<=m.getD (n:Int)∧m.getD (n:Int)<=(n:Int),.w (.c (.o nx)),
      (nx,.lview h e ((m.getD (n:Int)).toNat-(l.getD 0).toNat) ((cs.drop ((l.getD 0).toNat*e)).take (((m.getD (n:Int)).toNat-(l.getD 0).toNat)*e)))::hp,nx+1⟩
    |false=>none
   |_,_=>none
  |_,_,_,_=>none
 | .store t x y =>
  match rd x,rd y with
  |some (.w (.c (.p h i e j))),some (.w u) =>
   match find hp h,szT P t with
   |some (.lbox ty E n cs),some sz=>match u.one hp,u.cells.all (fun c=>c.one hp),zt sz u.cells.length&&qn 1 sz,qn (i*e+j+u.cells.length) cs.length with
    |true,true,true,true=>some ⟨True,vu,(h,.lbox ty E n (cs.take (i*e+j)++u.cells++cs.drop (i*e+j+u.cells.length)))::jah hp,nx⟩
    |_,_,_,_=>none
   |_,_=>none
  |_,_=>none
 | .call c =>
  match c.callee,c.args.toList,c.argTypes.toList with
  | .builtin .append,[s,x],[t,t'] =>
   match Globs.nestL t,zt t t',P.underlying t with
   |true,true,some (.slice elem)=>match jaB P elem,szT P elem,jaQ P elem with
    |some z,some (e+1),some b=>match(rd s).bind (lOf hp),(rd x).bind (lRd hp)with
     |some (hs,ty,e1,n1,cs1),some (n2,cs2)=>match(match hs with|some _=>zt ty elem&&zt e1 (e+1)|none=>true),zt z.length (e+1),zt cs1.length (n1*(e+1)),zt cs2.length (n2*(e+1)),cs2.all (fun c=>c.one hp)with
      |true,true,true,true,true=>some ⟨(n1+n2)*b<=140737488355328∧n1+n2<=9223372036854775807,.w (.c (.o nx)),
        (nx,.lbox elem (e+1) (n1+n2) (cs1++cs2))::(match hs with|some h=>(h,.dead)::jah hp|none=>jah hp),nx+1⟩
      |_,_,_,_,_=>none
     |_,_=>none
    |_,_,_=>none
   |_,_,_=>none
  |_,_,_=>none
 |_=>none
def jok (cs:List C) (e j:Nat) (ds:List C):Option (Prop × List C) :=
 match e with
 |0=>match ds with
  |[]=>none
  |_::_=>jl5 cs j ds
 |_+1=>none
def jhz (P:zy) (sp:Nat->Option (Bool × Spec)) (op:Op) (rd:zH->Option V) (hp:Hp) (nx:Nat):Option Res :=
 match op with
 | .box elem x =>
  match rd x with
  |some (.w u)=>if u.one hp=true then some ⟨True,.w (.c (.p nx 0 1 0)),(nx,.box elem u.cells)::hp,nx+1⟩else none
  |_=>none
 | .alloc elem =>
  match jaB P elem with
  |some z=>some ⟨True,.w (.c (.p nx 0 1 0)),(nx,.box elem z)::hp,nx+1⟩
  |none=>none
 | .buildSlice t n parts =>
  match P.underlying t,jcp rd hp parts.toList with
  |some (.slice elem),some l=>match jft P elem n l with
   |some c=>some ⟨True,.w (.c (.o nx)),(nx,.row elem c)::hp,nx+1⟩
   |none=>none
  |_,_=>none
 | .makeSlice t l c =>
  match P.underlying t,(rd l).bind V.int?,(rd c).bind V.int? with
  |some (.slice elem),some (_,n),some (_,m) =>
   match(jaB P elem).bind jbA,szT P elem,jaQ P elem with
   |some z,some (e+1),some b=>if z.length=e+1 then match jl8 z n.toNat with
     |some c=>some ⟨0<=n∧n=m∧(b:Int)*n<=281474976710656∧n<=9223372036854775807,.w (.c (.o nx)),(nx,.row elem c)::hp,nx+1⟩
     |none=>none
    else none
   |_,_,_=>none
  |_,_,_=>none
 | .slice t x lo hi none =>
  match P.underlying t,rd x,jaM rd lo,jaM rd hi with
  |some (.array n elem),some (.w (.c (.p h 0 1 j))),some none,some none =>
   match find hp h,szT P elem,(jaB P elem).bind jbA with
   |some (.box _ cs),some (e+1),some z=>match jbA ((cs.drop j).take (n*(e+1)))with
    |some ds=>if z.length=e+1∧ds.length=n*(e+1)∧0<n then match jdN z (jjb (e+1) n ds)with
      |some c=>some ⟨True,.w (.c (.o nx)),(nx,.view h c true)::hp,nx+1⟩
      |none=>none
     else none
    |none=>none
   |_,_,_=>none
  |some (.slice elem),some (.w (.c (.o h))),some l,some m =>
   match find hp h,szT P elem with
   |some o,some (e+1)=>match o.cont with
    |some c=>if c.e=e+1 then
      let lo:=l.getD 0
      let hi:=m.getD (c.n:Int)
      some ⟨0<=lo∧lo<=hi∧hi<=(c.n:Int),.w (.c (.o nx)),(nx,jhS h o (c.sub lo.toNat hi.toNat))::hp,nx+1⟩
     else none
    |none=>none
   |_,_=>none
  |_,_,_,_=>none
 | .store t x y =>
  match rd x,rd y with
  |some (.w (.c (.p h i e j))),some (.w u) =>
   if u.one hp=true∧szT P t=some u.cells.length∧(u.cells.all fun c=>c.one hp)=true then
    match find hp h with
    |some (.box ty cs)=>match jok cs e j u.cells with
     |some (p,cs')=>some ⟨p,vu,(h,.box ty cs')::jah hp,nx⟩
     |none=>if i*e+j+u.cells.length<=cs.length then
       some ⟨True,vu,(h,.box ty (cs.take (i*e+j)++u.cells++cs.drop (i*e+j+u.cells.length)))::jah hp,nx⟩
      else none
    |some (.row ty c)=>match jbA u.cells with
     |some ds=>match c.upd i j ds with
      |some c'=>if e=c.e∧0<e then some ⟨i<c.n,vu,(h,.row ty c')::jah hp,nx⟩else none
      |none=>none
     |none=>none
    |_=>none
   else none
  |_,_=>none
 | .call c =>
  match c.callee,c.args.toList,c.argTypes.toList with
  | .builtin .append,[s,x],[t,t'] =>
   if t=t' then
    match jjd hp (rd s)with
    |some c1=>jfu P t c1 (rd x) hp nx
    |none=>match P.underlying t,(rd s).bind (jcg hp),(rd x).bind (jcg hp)with
    |some (.slice elem),some (hs,cs),some (_,cx) =>
     match(jaB P elem).bind jbA,szT P elem,jaQ P elem,find hp (hs.getD nx)with
     |some z,some (e+1),some b,os =>
      match(match hs,os with
        |none,_=>true
        |some _,some (.row ty _)=>ty==elem
        |_,_=>false),jcu z cs,jcu z cx with
      |true,some c1,some c2=>match c1.app c2 with
       |some c3=>if z.length=e+1∧c1.e=e+1∧c2.one=true then
         some ⟨(c1.n+c2.n)*b<=140737488355328∧c1.n+c2.n<=9223372036854775807,.w (.c (.o nx)),
          (nx,.row elem c3)::(match hs with|some h=>(h,.dead)::jah hp|none=>jah hp),nx+1⟩
        else none
       |none=>none
      |_,_,_=>none
     |_,_,_,_=>none
    |_,_,_=>none
   else none
  | .value f,args,_ =>
   match rd f,jhy rd args with
   |some (.w (.c (.fn g hs))),some vs=>match sp g with
    |some (_,S)=>(S (vs++hs.map fun h=>.w (.c (.o h))) hp nx).bind RT.leaf?
    |none=>none
   |some (.w (.c (.fb g hs))),some vs=>match sp g with
    |some (_,S)=>(S ((hs.map fun h=>.w (.c (.o h)))++vs) hp nx).bind RT.leaf?
    |none=>none
   |_,_=>none
  |_,_,_=>none
 |_=>none
def jwd (op:j6) (k:zZ) (a b:Nat):Option (Option Nat) :=
 match op with
 | .add=>some (k.format.add a b)
 | .sub=>some (k.format.sub a b)
 | .mul=>some (k.format.mul a b)
 | .quo=>some (k.format.div a b)
 |_=>none
def jgm (P:zy) (sp:Nat->Option (Bool × Spec)) (op:Op) (rd:zH->Option V) (hp:Hp) (nx:Nat):Option RT :=
 match op with
 | .binOp op _ x y _ =>
  match rd x,rd y with
  |some (.w (.c (.d (.f k a)))),some (.w (.c (.d (.f k' b))))=>match jbN k k',jwd op k a b with
   |true,some r=>some (.br r.isSome (.leaf ⟨True,vf k (r.getD 0),hp,nx⟩) (.leaf ⟨True,.w (.c (.o nx)),(nx,.nan k)::hp,nx+1⟩))
   |_,_=>none
  |_,_=>none
 | .convert src dst x =>
  match P.underlying src,P.underlying dst,rd x with
  |some (.float .f32),some (.float .f64),some (.w (.c (.d (.f .f32 b)))) =>
   some (.br (jpL b) (.leaf ⟨True,.w (.c (.o nx)),(nx,.nan .f64)::hp,nx+1⟩) (.leaf ⟨True,vf .f64 (to64 b),hp,nx⟩))
  |_,_,_=>none
 | .call c =>
  match c.callee with
  | .value f=>match rd f,jhy rd c.args.toList with
   |some (.w (.c (.fn g hs))),some vs=>match sp g with
    |some (_,S)=>S (vs++hs.map fun h=>.w (.c (.o h))) hp nx
    |none=>none
   |some (.w (.c (.fb g hs))),some vs=>match sp g with
    |some (_,S)=>S ((hs.map fun h=>.w (.c (.o h)))++vs) hp nx
    |none=>none
   |_,_=>none
  |_=>none
 |_=>none
end Go.Sx
end

section
open Go.RowKit
namespace Go.Sx
section
variable [Globs] {P:zy} {U:Env} {B:Kd} {nx:Nat} {hp:Hp} {w:zx} {rd:zH->Option V} {a:Act}
structure Grow (B B':Kd) (M:Bool) (w w':zx):Prop where
 le:B.Le B'
 new:∀k,B'.all k->B.all k∨k<w'.heap.size
 out:∀k,B'.fr k->B.fr k∨¬B.kp k
 mono:M=true->(∀k,B'.all k->B.all k∨w.heap.size<=k)∧B.LeM B'
def Grow.refl (B:Kd) (M:Bool) (w w':zx):Grow B B M w w':=⟨⟨fun _ h=>h,fun _ h=>h⟩,fun _ h=>.inl h,fun _ h=>.inl h,fun _=>⟨fun _ h=>.inl h,fun _ _ h=>h⟩⟩
def Grow.trans {B B1 B2:Kd} {M:Bool} {w w1 w2:zx} (h:Grow B B1 M w w1) (k:Grow B1 B2 M w1 w2) (hw:w.heap.size<=w1.heap.size) (hw2:w1.heap.size<=w2.heap.size):Grow B B2 M w w2:=by
 refine⟨⟨fun i hi=>k.le.kp i (h.le.kp i hi),fun i hi=>k.le.fr i (h.le.fr i hi)⟩,fun i hi=>?_,fun i hi=>?_,fun hM=>⟨fun i hi=>?_,fun i g hi=>(k.mono hM).2 i g ((h.mono hM).2 i g hi)⟩⟩
 ·rcases k.new i hi with h1|h1
  ·rcases h.new i h1 with h2|h2
   ·exact .inl h2
   ·exact .inr (zC h2 hw2)
  ·exact .inr h1
 ·rcases k.out i hi with h1|h1
  ·exact h.out i h1
  ·exact .inr fun h2=>h1 (h.le.kp i h2)
 ·rcases(k.mono hM).1 i hi with h1|h1
  ·exact(h.mono hM).1 i h1
  ·exact .inr (qx hw h1)
def Grow.weak {B B':Kd} {M:Bool} {w w1 w':zx} (h:Grow B B' M w w'):Grow B B' false w1 w':=⟨h.le,h.new,h.out,fun h=>by cases h⟩
def Grow.later {B B':Kd} {w w1 w' w2:zx} (h:Grow B B' false w w') (hs:w'.heap.size<=w2.heap.size):Grow B B' false w1 w2:=⟨h.le,fun k hk=>(h.new k hk).imp id fun b=>zC b hs,h.out,fun h=>by cases h⟩
def Grow.old {B B':Kd} {M:Bool} {w w':zx} (h:Grow B B' M w w') (hB:Old B w'):Old B' w':=fun k hk=>(h.new k hk).elim (hB k) id
def HRel.gr {U':Env} {B:Kd} {M:Bool} {w w':zx} {hp':Hp} {nx':Nat} (h:HRel U' B hp' nx' w'):∃B',Grow B B' M w w'∧HRel U' B' hp' nx' w':=⟨B,Grow.refl B M w w',h⟩
structure Left [Globs] (U:Env) (B:Kd) (nx:Nat) (w:zx) (r:Res) (M:Bool) (U':Env) (w':zx):Prop where
 agree:jae nx U U'
 lt:r.v.lt r.nx
 le:nx<=r.nx
 heap:∃B',Grow B B' M w w'∧HRel U' B' r.hp r.nx w'
 below:Bel B w w'
 mono:M=true->xA w.heap.size w w'
 fresh:M=true->∀h o k,nx<=h->find r.hp h=some o->o.blk (U' h)=some k->w.heap.size<=k
def jax (P:zy) (U:Env) (B:Kd) (nx:Nat) (a:Act) (w:zx) (o:zX) (r:Res) (M:Bool):Prop :=
 ∀(K:Act->zx->Prop) (Q:Exit->Act->zx->Prop),(∀U' w',Left U B nx w r M U' w'->K (a.put o.dst (r.v.val U')) w')->o.wp P a w K Q
def upd (U:Env) (n:Nat) (v:zF):Env:=fun h=>if h=n then v else U h
def jal (U:Env) (n:Nat) (v:zF):jae n U (upd U n v):=fun h hh=>by simp[upd,Nat.ne_of_lt hh]
@[simp] theorem upd_same (U:Env) (n:Nat) (v:zF):upd U n v n=v:=by simp[upd]
def jak {o:zX} {r:Res} {M:Bool} {U':Env} {w':zx} (h:(qr a.eval o).run P w=.ok (.value (r.v.val U')) w') (hl:Left U B nx w r M U' w'):jax P U B nx a w o r M:=by
 intro K Q hK;unfold jv;rw[h];exact hK U' w' hl
def jbR {o:zX} {r:Res} {M:Bool} {U':Env} {w':zx} (h:(qr a.eval o).run P w=.ok .skip w') (hv:r.v.val U'=qe) (hl:Left U B nx w r M U' w'):jax P U B nx a w o r M:=by
 intro K Q hK;unfold jv;rw[h];have:=hK U' w' hl;rw[hv]at this;exact this
def jbi {r:Res} (hh:HRel U B hp nx w) (hB:Old B w) (v:zF) (cells:Array zF) (ty:Nat) (obj:O) (hr:r.hp=(nx,obj)::hp) (hn:r.nx=nx+1) (hv:r.v.lt (nx+1)) (M:Bool)
  (hl:obj.lt (nx+1)) (ho:obj.ok (upd U nx v) B (w.alloc (.cells cells ty)) nx) (hb:∀k,obj.blk v=some k->w.heap.size<=k) :
  Left U B nx w r M (upd U nx v) (w.alloc (.cells cells ty)):=by
 have hbel:xA w.heap.size w (w.alloc (.cells cells ty)):=(qO _ w).alloc (zu _) _;refine⟨jal _ _ _,by rw[hn];exact hv,by omega,HRel.gr ?_,jbV hbel hB,fun _=>hbel,fun _ h o k hnh hf hk=>?_⟩
 ·rw[hr,hn];exact hh.add hbel hB (jal _ _ _) hl ho (by simpa using hb)
 ·rw[hr]at hf;simp only[find]at hf;split at hf
  ·rename_i e;subst e;cases hf;rw[upd_same]at hk;exact hb k hk
  ·have:=(hh.ok h o hf).1;omega
def jxY {cs:List C} {ty:Nat} (hB:Old B w) (hl:∀c∈cs,C.lt nx c) :
  (O.box ty cs).ok (upd U nx (.pointer (some ⟨w.heap.size,0,none⟩))) B (w.alloc (.cells (cs.map (C.val U)).toArray ty)) nx:=by
 refine⟨w.heap.size,by simp,fun hc=>j4 _ (hB _ hc),?_⟩;rw[yx]
 congr 3
 exact z8 fun c hc=>(C.val_agree (jal U nx _) (hl c hc)).symm
def jsa {c:Cont} {ty:Nat} (hB:Old B w) (hm:c.n<=9223372036854775807) :
  (O.row ty c).ok (upd U nx (.slice (some ⟨w.heap.size,0,none⟩) c.n c.n)) B (w.alloc (.cells (c.flat.map D.val).toArray ty)) nx:=by
 refine⟨⟨by simp[Cont.flat_length],.inr ⟨w.heap.size,c.n,_,by simp,qI _,yx w _,zu _,by simpa [maxLen]using hm,by simp[Cont.flat_length],?_⟩⟩,fun k hk hc=>?_⟩
 rotate_left
 ·simp[zL]at hk;have:=hB k hc;omega
 rw[<-Cont.flat_length];exact yv (by simp)
def jxZ {o:zX} {elem:Nat} {x:zH} {u:W} (hh:HRel U B hp nx w) (hB:Old B w) (hr:jav U nx rd a) (ho:o.op=.box elem x) (hx:rd x=some (.w u)) (hone:u.one hp=true) :
  jax P U B nx a w o ⟨True,.w (.c (.p nx 0 1 0)),(nx,.box elem u.cells)::hp,nx+1⟩ true:=by
 have h1:=hr _ _ hx;have hc:=W.cells_val hh hone;have hlt:∀c∈u.cells,C.lt nx c:=W.cells_lt h1.1
 refine jak (U':=upd U nx (.pointer (some ⟨w.heap.size,0,none⟩))) (w':=w.alloc (.cells (u.cells.map (C.val U)).toArray elem)) ?_
  (jbi hh hB _ _ _ (.box elem u.cells) rfl rfl (show V.lt (nx+1) (.w (.c (.p nx 0 1 0)))from zo nx) true (fun c hc=>C.lt_mono (qt nx) (hlt c hc)) (jxY hB hlt) (by simp[O.blk,base]))
 unfold qr;simp only[ho,Instr.box,newVar,gz,zn,ji,zh,zp,h1.2,V.val,hc];simp[W.val,C.val,base]
def jui {o:zX} {elem:Nat} {z:List C} (hh:HRel U B hp nx w) (hB:Old B w) (ho:o.op=.alloc elem) (hz:jaB P elem=some z) :
  jax P U B nx a w o ⟨True,.w (.c (.p nx 0 1 0)),(nx,.box elem z)::hp,nx+1⟩ true:=by
 obtain⟨v,hv,hvc,hlt⟩:=jaW (P:=P) (w:=w) (U:=U) hz
 refine jak (U':=upd U nx (.pointer (some ⟨w.heap.size,0,none⟩))) (w':=w.alloc (.cells (z.map (C.val U)).toArray elem)) ?_
  (jbi hh hB _ _ _ (.box elem z) rfl rfl (show V.lt (nx+1) (.w (.c (.p nx 0 1 0)))from zo nx) true (hlt (nx+1)) (jxY hB (hlt nx)) (by simp[O.blk,base]))
 unfold qr;simp only[ho,Instr.alloc,newVar,gz,zn,ji,zh,zp,hv,hvc];simp[V.val,W.val,C.val,base]
def jol {elem n:Nat} {parts:List (Nat × W)} {c:Cont} (hh:HRel U B hp nx w) (h:jft P elem n parts=some c) (hp':∀x∈parts,x.2.one hp=true∧x.2.lt nx) (t:Nat) (hu:P.underlying t=some (.slice elem)) :
  (xP t n (parts.map fun x=>(x.1,x.2.val U)).toArray).run P w=.ok (.slice (some ⟨w.heap.size,0,none⟩) n n) (w.alloc (.cells (c.flat.map D.val).toArray elem))∧c.n=n∧n<=4096:=by
 unfold jft at h;split at h
 ·rename_i z e hz hs;split at h
  ·rename_i hzl;split at h
   ·rename_i out zd hout hzd;split at h
    ·rename_i ds hds;obtain⟨v,hv,hvc,hlt⟩:=jaW (P:=P) (w:=w) (U:=U) hz
     have hf:=jdk (U:=U) _ hh parts _ out hout hp' (fun c hc=>by
      obtain⟨l,hl,hc'⟩:=List.mem_flatten.1 hc;rw[List.eq_of_mem_replicate hl]at hc';exact hlt nx c hc')
     have hoe:=jcf hds
     have hlen:ds.length=n*(e+1):=by
      have:=hf.2.2;rw[hoe]at this;simpa [hzl.1]using this
     have hck:=jjc (e+1) n ds hlen;have hmk:=jc4 h;have hle:n*(e+1)<=4096:=hzl.2;have hn:n<=4096:=qx (Nat.le_mul_of_pos_right n (Nat.succ_pos e)) hle;refine⟨?_,by rw[hmk.2.1,hck.2],hn⟩;have hvs:v.cells.size=e+1:=by rw[hvc];simp[hzl.1]
     have e1:¬(n*(e+1)>2^24):=by omega
     have hcells:∀zz:Array zF,(n*(e+1)≠0->zz=v.cells)->(Array.range (n*(e+1))).map (zz[· % zz.size]!)=((zr n z).flatten.map (C.val U)).toArray:=by
      intro zz hzz
      by_cases h0:n*(e+1)=0
      ·have hn0:n=0:=by
        rcases yX.1 h0 with h|h
        ·exact h
        ·omega
       subst hn0;simp
      ·rw[hzz h0];have:=jel v.cells n;apply qy;simp only[ja,hvs]at this;simp only[hvs];rw[this,hvc];simp
     have hfin:(do
       let some cells:=gL (fun i=>some (i*(e+1),e+1)) ((zr n z).flatten.map (C.val U)).toArray (parts.map fun x=>(x.1,x.2.val U))|stuck "buildSlice: a part of the wrong size"
       pure (.slice (some (<-gz elem cells)) n n):Sem zF).run P w=.ok (.slice (some ⟨w.heap.size,0,none⟩) n n) (w.alloc (.cells (c.flat.map D.val).toArray elem)):=by
      simp only[hf.1,gz,zn,ji,zh,zp];simp only[hmk.1,hck.1,hoe,xI];rfl
     by_cases h0:n*(e+1)=0
     ·have hn0:n=0:=by
       rcases yX.1 h0 with h|h
       ·exact h
       ·omega
      subst hn0;have h3:=hcells #[] (fun h=>absurd h0 h);have e2:¬(0*(e+1)>2^24):=by omega
      simp only[xP,zn,zI hu,zh,jaD w hs,yq];rw[if_neg e2,if_pos h0];simp only[zn,zp,zh,h3];exact hfin
     ·simp only[xP,zn,zI hu,zh,jaD w hs,yq];rw[if_neg e1,if_neg h0];simp only[zn,zp,zh,hv,hcells v.cells (fun _=>rfl)];exact hfin
    ·cases h
   ·cases h
  ·cases h
 ·cases h
def jnh {o:zX} {t n elem:Nat} {parts:Array (Nat × zH)} {l:List (Nat × W)} {c:Cont} (hh:HRel U B hp nx w) (hB:Old B w) (hr:jav U nx rd a) (ho:o.op=.buildSlice t n parts)
  (hu:P.underlying t=some (.slice elem)) (hl:jcp rd hp parts.toList=some l) (hc:jft P elem n l=some c) :
  jax P U B nx a w o ⟨True,.w (.c (.o nx)),(nx,.row elem c)::hp,nx+1⟩ true:=by
 have hps:=jc3 hr parts.toList l hl;have hb:=jol (w:=w) (U:=U) hh hc hps.2 t hu
 refine jak (U':=upd U nx (.slice (some ⟨w.heap.size,0,none⟩) c.n c.n)) (w':=w.alloc (.cells (c.flat.map D.val).toArray elem)) ?_
  (jbi hh hB _ _ _ (.row elem c) rfl rfl (show V.lt (nx+1) (.w (.c (.o nx)))from zo nx) true trivial (jsa hB (by omega)) (by simp[O.blk,zL]))
 unfold qr
 have he:(parts.map fun(i,x)=>(i,a.eval x))=(l.map fun x=>(x.1,x.2.val U)).toArray:=by
  rw[<-hps.1];apply qy;simp
 simp only[ho,he,zn,hb.1,zh,zp];simp[V.val,W.val,C.val,hb.2.1]
def jom {o:zX} {t elem e b:Nat} {x y:zH} {k k':IntKind} {n m:Int} {u u':V} {z:List D} {c:Cont} (hh:HRel U B hp nx w) (hB:Old B w) (hr:jav U nx rd a) (ho:o.op=.makeSlice t x y)
  (hu:P.underlying t=some (.slice elem)) (hx:rd x=some u) (hx':u.int?=some (k,n)) (hy:rd y=some u') (hy':u'.int?=some (k',m))
  (hz:(jaB P elem).bind jbA=some z) (hs:szT P elem=some (e+1)) (hb:jaQ P elem=some b) (hzl:z.length=e+1) (hc:jl8 z n.toNat=some c)
  (hob:0<=n∧n=m∧(b:Int)*n<=281474976710656∧n<=9223372036854775807) :
  jax P U B nx a w o ⟨0<=n∧n=m∧(b:Int)*n<=281474976710656∧n<=9223372036854775807,.w (.c (.o nx)),(nx,.row elem c)::hp,nx+1⟩ true:=by
 obtain⟨h0,rfl,h2,h3⟩:=hob;have h1:=hr _ _ hx;have h1':=hr _ _ hy;rw[V.int?_eq hx']at h1;rw[V.int?_eq hy']at h1';have hrc:=jr6 hc;cases hi:P.info? elem with
 |none=>simp[szT,hi]at hs
 |some i =>
  have hsz:i.size=e+1:=by simpa [szT,hi]using hs
  have hby:i.bytes=b:=by simpa [jaQ,hi]using hb
  cases hzz:i.zero with
  |none=>simp[jaB,hi,hzz]at hz
  |some zv =>
   cases hzc:jaB P elem with
   |none=>simp[hzc]at hz
   |some zc =>
    simp only[hzc,zw]at hz;obtain⟨v,hv,hvc,_⟩:=jaW (P:=P) (w:=w) (U:=U) hzc
    have hvz:v=zv:=by
     simp[ym,yP,hi,hzz]at hv;exact hv.symm
    subst hvz;have hzce:=jcf hz;have hm:=run_make (P:=P) w t elem i v hu hi hzz k k' n n h0 (Int.le_refl _) (by rw[hby];exact h2) h3
    have hcells:ja v.cells (n.toNat*i.size)=(c.flat.map D.val).toArray:=by
     apply qy;have:=jel v.cells n.toNat;have hvs:v.cells.size=e+1:=by rw[hvc,hzce];simp[hzl]
     rw[hvs]at this;rw[hsz,this,hrc.1,hvc,hzce];simp only[xI];rw[List.map_flatten,List.map_replicate];rfl
    rw[hcells]at hm
    refine jak (U':=upd U nx (.slice (some ⟨w.heap.size,0,none⟩) c.n c.n)) (w':=w.alloc (.cells (c.flat.map D.val).toArray elem)) ?_
     (jbi hh hB _ _ _ (.row elem c) rfl rfl (show V.lt (nx+1) (.w (.c (.o nx)))from zo nx) true trivial (jsa hB (by omega)) (by simp[O.blk,zL]))
    unfold qr;simp only[ho,h1.2,h1'.2,vi_val,zn,hm,zh,zp];simp[V.val,W.val,C.val,hrc.2.1]
end
end Go.Sx
end

section
open Go.RowKit
namespace Go.Sx
section
variable [Globs] {P:zy} {U:Env} {B:Kd} {nx:Nat} {hp:Hp} {w:zx} {rd:zH->Option V} {a:Act}
def nkp {B:Kd} {g:Nat} (h:¬B.all g):¬B.kp g:=fun x=>h (.inl x)
def jc5 {g:Nat} {w':zx} (hw:∀k,k<w.heap.size->k≠g->w'.heap[k]?=w.heap[k]?) (hg:¬B.kp g) {b o:Nat} {v:zF} (hb:B.kp b) (h:w.cell? ⟨b,o,none⟩=some v):w'.cell? ⟨b,o,none⟩=some v:=by
 rw[<-h];exact qp (hw b (qj w _ h) (fun e=>hg (e ▸ hb)))
def juj {g k n:Nat} {w':zx} (hw:∀k,k<w.heap.size->k≠g->w'.heap[k]?=w.heap[k]?) (hg:¬B.kp g) (hk:B.kp k) (h:∃cs t f,w.heap[k]?=some (.cells cs t f)∧cs.size=n):∃cs t f,w'.heap[k]?=some (.cells cs t f)∧cs.size=n:=by
 obtain⟨cs,t,f,h1,h2⟩:=h;exact⟨cs,t,f,(hw k (zA.1 h1).1 (fun e=>hg (e ▸ hk))).trans h1,h2⟩
def jj9 {g:Nat} {w':zx} (hw:∀k,k<w.heap.size->k≠g->w'.heap[k]?=w.heap[k]?) (hg:¬B.kp g) (h:jbx B w):jbx B w' :=
 ⟨fun y c hy=>⟨(h.1 y c hy).1,fun j x hj=>jc5 hw hg (h.1 y c hy).1 ((h.1 y c hy).2.1 j x hj),juj hw hg (h.1 y c hy).1 (h.1 y c hy).2.2⟩,
  fun y p hy=>let ⟨h1,v,h2,h3⟩:=h.2 y p hy; ⟨h1,v,jc5 hw hg h1 h2,h3⟩⟩
def jew {g:Nat} {w':zx} (hw:∀k,k<w.heap.size->k≠g->w'.heap[k]?=w.heap[k]?) (hg:¬B.kp g) {v:zF} {c:Cont} (h:jaJ w v c) (ho:jbW B v):jaJ w' v c:=by
 obtain⟨a',cap,h1,h2,h3⟩:=h;refine⟨a',cap,h1,h2,fun hn=>?_⟩;obtain⟨b,off,hab,hx⟩:=h3 hn;subst hab;exact⟨b,off,rfl,fun j x hj=>jc5 hw hg (ho _ _ _ h1 hn) (hx j x hj)⟩
def O.isV:O->Bool
 | .view _ _ _=>true
 | .sub _ _ _ _ _ _=>true
 | .lview _ _ _ _=>true
 |_=>false
def O.ok_except {h g:Nat} {w':zx} (hw:∀k,k<w.heap.size->k≠g->w'.heap[k]?=w.heap[k]?) (hg:¬B.all g):∀{o:O},o.ok U B w h->o.blk (U h)≠some g->o.isV=false->o.ok U B w' h
 | .box ty cs,⟨k,h1,h2,h3⟩,hb,_=>by
  refine⟨k,h1,h2,?_⟩;rw[hw k (zA.1 h3).1 (fun e=>hb (by simp[O.blk,h1,base,e])),h3]
 | .row ty c,hr,hb,_=>by
  refine⟨⟨hr.1.1,?_⟩,hr.2⟩;rcases hr.1.2 with hn|⟨k,cap,cur,h1,h2,h3,h4⟩
  ·exact .inl hn
  ·exact .inr ⟨k,cap,cur,h1,h2,by rw[hw k (zA.1 h3).1 (fun e=>hb (by simp[O.blk,zL,h1,e]))];exact h3,h4⟩
 | .ext c,⟨⟨a',cap,h1,h2,h3⟩,ho⟩,_,_=>by
  refine⟨⟨a',cap,h1,h2,fun hn=>?_⟩,ho⟩;obtain⟨b,off,hab,hx⟩:=h3 hn;refine⟨b,off,hab,fun j x hj=>?_⟩;subst hab;have hlt:=ho _ _ _ h1 hn;simp only at hlt;rw[<-hx j x hj];have hc:=qj w _ (hx j x hj);exact qp (hw b hc (fun e=>nkp hg (e ▸ hlt)))
 | .view r c fl,_,_,hv=>by cases hv
 | .sub _ _ _ _ _ _,_,_,hv=>by cases hv
 | .lview _ _ _ _,_,_,hv=>by cases hv
 | .lbox ty e n cs,hr,hb,_=>by
  refine⟨⟨hr.1.1,?_⟩,hr.2⟩;rcases hr.1.2 with hn|⟨k,cap,cur,h1,h2,h3,h4⟩
  ·exact .inl hn
  ·exact .inr ⟨k,cap,cur,h1,h2,by rw[hw k (zA.1 h3).1 (fun e=>hb (by simp[O.blk,zL,h1,e]))];exact h3,h4⟩
 | .elist e n cs,⟨h1,h2,h3,h4⟩,_,_=>by
  refine⟨h1,h2,h3,fun m c hc=>?_⟩;obtain⟨a,cap,hv,_,hadr⟩:=h1
  have hn:0<n:=by
   rcases x9 n with h0|h0
   ·have:=(zB.1 hc).1;rw[h3,h0,qQ]at this;omega
   ·exact h0
  obtain⟨b,off,rfl⟩:=hadr hn;have hlt:=h2 _ _ _ hv hn;have h5:=h4 m c hc;rw[hv]at h5 ⊢;exact jc5 hw (nkp hg) hlt h5
 | .dead,_,_,_=>trivial
 | .nan _,h,_,_=>h
 | .err,h,_,_=>h
 | .atom,h,_,_=>h
 | .ebox cs,⟨k,o,h1,h2,h3⟩,_,_=>⟨k,o,h1,h2,fun j c hj=>jc5 hw (nkp hg) h2 (h3 j c hj)⟩
 | .arr ty _ _ _,⟨k,h1,h2,h3⟩,hb,_=>by
  refine⟨k,h1,h2,?_⟩;rw[hw k (zA.1 h3).1 (fun e=>hb (by simp[O.blk,h1,base,e])),h3]
 | .mrow ty ts X ho,⟨us,hr,hi,hd,hk⟩,hb,_=>by
  have own:∀{ty e n:Nat} {v:zF} {cs:List zF},(∀k,v.ownBlock=some k->k≠g)->w.ownsRow 0 ty e v n cs->w'.ownsRow 0 ty e v n cs:=fun hne hr=>by
   refine⟨hr.1,?_⟩;rcases hr.2 with hn|⟨k,cap,cur,h1,h2,h3,h4⟩
   ·exact .inl hn
   ·exact .inr ⟨k,cap,cur,h1,h2,(hw k (zA.1 h3).1 (hne k (by simp[h1,zL]))).trans h3,h4⟩
  refine⟨us,own (fun k h1 e=>hb (by subst e;exact h1)) hr,fun i j h1 h2 h3=>?_,hd,hk⟩;obtain⟨u,hu,hux⟩:=hi i j h1 h2 h3;refine⟨u,hu,?_⟩;cases hc:X.cell i j with
  |d x=>rw[hc]at hux;exact hux
  |r c =>
   rw[hc]at hux;exact⟨own (fun k h1 e=>hg (.inr (by rw[<-e,hux.2 k h1];simp))) hux.1,hux.2⟩
 | .trow ty ts X m,⟨us,hr,hi,hd,hk⟩,hb,_=>by
  have own:∀{ty e n:Nat} {v:zF} {cs:List zF},(∀k,v.ownBlock=some k->k≠g)->w.ownsRow 0 ty e v n cs->w'.ownsRow 0 ty e v n cs:=fun hne hr=>by
   refine⟨hr.1,?_⟩;rcases hr.2 with hn|⟨k,cap,cur,h1,h2,h3,h4⟩
   ·exact .inl hn
   ·exact .inr ⟨k,cap,cur,h1,h2,(hw k (zA.1 h3).1 (hne k (by simp[h1,zL]))).trans h3,h4⟩
  refine⟨us,own (fun k h1 e=>hb (by subst e;exact h1)) hr,fun i j h1 h2=>?_,hd,hk⟩;obtain⟨u,hu,hux,hua⟩:=hi i j h1 h2;refine⟨u,hu,fun h3=>?_,fun h3=>?_⟩
  ·have hux:=hux h3;cases hc:X.cell i j with
   |d x=>rw[hc]at hux;exact hux
   |r c =>
    rw[hc]at hux;exact⟨own (fun k h1 e=>hg (.inr (by rw[<-e,hux.2 k h1];simp))) hux.1,hux.2⟩
  ·have hua:=hua h3;cases hc:X.cell i j with
   |d x=>rw[hc]at hua;exact hua
   |r c=>rw[hc]at hua;exact⟨jew hw (nkp hg) hua.1 hua.2,hua.2⟩
 | .fext c,⟨h1,h2⟩,_,_=>⟨jew hw (nkp hg) h1 (jaS B.sub h2),h2⟩
 | .xrow ty X,⟨us,hr,hi,hk⟩,hb,_=>by
  refine⟨us,⟨hr.1,?_⟩,fun i j h1 h2=>?_,hk⟩
  ·rcases hr.2 with hn|⟨k,cap,cur,h1,h2,h3,h4⟩
   ·exact .inl hn
   ·refine .inr ⟨k,cap,cur,h1,h2,(hw k (zA.1 h3).1 (fun e=>hb ?_)).trans h3,h4⟩;subst e;simp[O.blk,h1,zL]
  ·obtain⟨u,hu,hux⟩:=hi i j h1 h2;refine⟨u,hu,?_⟩;cases hc:X.cell i j with
   |d x=>rw[hc]at hux;exact hux
   |r c=>rw[hc]at hux;exact⟨jew hw (nkp hg) hux.1 (jaS B.sub hux.2),hux.2⟩
 | .rrow c,⟨⟨a',cap,h1,h2,h3⟩,ho⟩,hb,_=>by
  have hsz:∀k,k<w.heap.size->k≠g->k<w'.heap.size:=fun k hk hne=>by
   have h0:=hw k hk hne;have h1:w.heap[k]?=some w.heap[k]:=qE hk;rw[h1]at h0;exact(zA.1 h0).1
  refine⟨⟨a',cap,h1,h2,fun hn=>?_⟩,fun k hk=>⟨(ho k hk).1,hsz k (ho k hk).2 (fun e=>hb (by simp only[O.blk,hk,e]))⟩⟩;obtain⟨b,off,hab,hx⟩:=h3 hn;refine⟨b,off,hab,fun j x hj=>?_⟩;subst hab;have hown:(U h).ownBlock=some b:=by rw[h1];rfl
  rw[<-hx j x hj];have hc:=qj w _ (hx j x hj);exact qp (hw b hc (fun e=>hb (by simp only[O.blk,hown,e])))
 | .map _,⟨k,ents,clock,h1,h2,h3,h4⟩,hb,_=>by
  refine⟨k,ents,clock,h1,h2,?_,h4⟩;rw[hw k (zA.1 h3).1 (fun e=>hb (by simp[O.blk,h1,jfI,e])),h3]
 | .xext X,⟨a',cap,h1,h2,h3⟩,_,_=>by
  refine⟨a',cap,h1,h2,fun hn=>?_⟩;obtain⟨b,off,hab,hB,hx⟩:=h3 hn;refine⟨b,off,hab,hB,fun i j hi hj=>?_⟩;obtain⟨u,hu,hux⟩:=hx i j hi hj;refine⟨u,jc5 hw (nkp hg) hB hu,?_⟩
  generalize X.cell i j=nc at *
  cases nc with
  |d x=>exact hux
  |r c=>exact⟨jew hw (nkp hg) hux.1 hux.2,hux.2⟩
def jaO {h:Nat} {o:O} (hh:HRel U B hp nx w) (hf:find (jah hp) h=some o):∃o1,find hp h=some o1∧h<nx∧o.lt nx∧o.ok U B w h∧o.isV=false∧∀k,o.blk (U h)=some k->o1.blk (U h)=some k:=by
 rw[jaz]at hf;cases h1:find hp h with
 |none=>simp[h1]at hf
 |some o1 =>
  simp only[h1,zQ,zi]at hf;have hok:=hh.ok h o1 h1;refine⟨o1,rfl,hok.1,?_⟩;cases o1 with
  |view r c fl=>subst hf;exact⟨trivial,trivial,rfl,fun k hk=>by simp[O.blk]at hk⟩
  |sub r i e j ty c=>subst hf;exact⟨trivial,trivial,rfl,fun k hk=>by simp[O.blk]at hk⟩
  |lview r e n cs=>subst hf;exact⟨trivial,trivial,rfl,fun k hk=>by simp[O.blk]at hk⟩
  |_=>subst hf;exact⟨hok.2.1,hok.2.2,rfl,fun k hk=>hk⟩
def HRel.write {w':zx} {h g:Nat} {o o':O} (hh:HRel U B hp nx w) (hf:find hp h=some o) (hb:o.blk (U h)=some g)
  (hw:∀k,k<w.heap.size->k≠g->w'.heap[k]?=w.heap[k]?) (ho':o'.ok U B w' h) (hl:o'.lt nx) (hb':∀k,o'.blk (U h)=some k->k=g) :
  HRel U B ((h,o')::jah hp) nx w':=by
 have hok:=hh.ok h o hf;have hg:=O.blk_lt hok.2.2 hb;refine⟨?_,?_,jj9 hw (nkp hg.2) hh.glob⟩
 ·intro k o1 hk;simp only[find]at hk;split at hk
  ·rename_i e;subst e;cases hk;exact⟨hok.1,hl,ho'⟩
  ·rename_i hne;obtain⟨o2,h2,h3,h4,h5,h6,h7⟩:=jaO hh hk;refine⟨h3,h4,O.ok_except hw hg.2 h5 (fun e=>?_) h6⟩;exact hh.apart h o k o2 g hf h2 hne hb (h7 g e)
 ·intro k o1 k' o1' b hk hk' hne hbk hbk';simp only[find]at hk hk';split at hk
  ·rename_i e;subst e;cases hk;rw[if_neg hne]at hk';obtain⟨o2,h2,_,_,_,_,h7⟩:=jaO hh hk';have:=hb' b hbk;subst this;exact hh.apart h o k' o2 _ hf h2 hne hb (h7 _ hbk')
  ·rename_i hne2;split at hk'
   ·rename_i e;subst e;cases hk';obtain⟨o2,h2,_,_,_,_,h7⟩:=jaO hh hk;have:=hb' b hbk';subst this;exact hh.apart h o k o2 _ hf h2 hne2 hb (h7 _ hbk)
   ·obtain⟨o2,h2,_,_,_,_,h7⟩:=jaO hh hk;obtain⟨o3,h3,_,_,_,_,h8⟩:=jaO hh hk';exact hh.apart k o2 k' o3 b h2 h3 hne (h7 b hbk) (h8 b hbk')
def jbX {w:zx} {B:Kd} {g:Nat} {cs:Array zF} (hg:¬B.all g):Bel B w (w.setRow g cs) :=
 ⟨rfl,rfl,rfl,by simp,fun k hk=>yg w g k cs (fun e=>nkp hg (e ▸ hk))⟩
def jbB {t g:Nat} {off:Nat} {cur:Array zF} {ty:Nat} {v:zF} (hs:szT P t=some v.cells.size) (hg:w.heap[g]?=some (.cells cur ty (0,0))) (hle:off+v.cells.size<=cur.size) (h1:∀x∈v.cells.toList,x.oneCell'=true) :
  (storeVar t ⟨g,off,none⟩ v).run P w=.ok () (w.setRow g (cur.toList.take off++v.cells.toList++cur.toList.drop (off+v.cells.size)).toArray):=by
 have hst:=run_storeCells_at P g off ty v.cells.toList 0 cur w hg (by simpa using hle) h1;simp only[storeVar,zn,jaD w hs,zh,ne_eq,not_true_eq_false,if_false];simpa using hst
def jcv {u:W} (hh:HRel U B hp nx w) (h:(u.cells.all fun c=>c.one hp)=true):∀x∈(u.cells.map (C.val U)),x.oneCell'=true:=by
 intro x hx;obtain⟨c,hc,rfl⟩:=qu.1 hx;exact C.one_val hh (List.all_eq_true.1 h c hc)
def jiw {o:zX} {t h i e j ty:Nat} {x y:zH} {u:W} {cs:List C} (hh:HRel U B hp nx w) (hr:jav U nx rd a) (ho:o.op=.store t x y)
  (hx:rd x=some (.w (.c (.p h i e j)))) (hy:rd y=some (.w u)) (hone:u.one hp=true) (hs:szT P t=some u.cells.length) (hall:(u.cells.all fun c=>c.one hp)=true)
  (hf:find hp h=some (.box ty cs)) (hle:i*e+j+u.cells.length<=cs.length) :
  jax P U B nx a w o ⟨True,vu,(h,.box ty (cs.take (i*e+j)++u.cells++cs.drop (i*e+j+u.cells.length)))::jah hp,nx⟩ false:=by
 have h1:=hr _ _ hx;have h2:=hr _ _ hy;obtain⟨hlt,hol,g,hk,hBg,hheap⟩:=hh.ok h _ hf;have hc:=W.cells_val hh hone;have hvs:(u.val U).cells.size=u.cells.length:=by rw[hc];simp
 have hst:=jbB (P:=P) (t:=t) (g:=g) (off:=i*e+j) (v:=u.val U) (by rw[hvs];exact hs) hheap (by rw[hvs];simpa using hle) (by rw[hc];exact jcv hh hall);refine jbR (U':=U) (w':=w.setRow g (((cs.map (C.val U)).toArray.toList.take (i*e+j)++(u.val U).cells.toList++(cs.map (C.val U)).toArray.toList.drop (i*e+j+(u.val U).cells.size)).toArray)) ?_ rfl ?_
 ·unfold qr;have h1v:a.eval x=.pointer (some ⟨g,i*e+j,none⟩):=by rw[h1.2];simp[C.val,hk,base]
  have h2v:a.eval y=u.val U:=h2.2;simp only[ho,h1v,h2v,yh,qA,zn,zp,zh,hst]
 ·refine⟨jae.refl _ _,trivial,zu _,HRel.gr ?_,jbX hBg,(fun h=>by cases h),fun h=>by cases h⟩;refine HRel.write hh hf (g:=g) (by simp[O.blk,hk,base]) (fun k _ hne=>yg w g k _ hne) ?_ ?_ (by simp[O.blk,hk,base])
  ·refine⟨g,hk,hBg,?_⟩;rw[yT w g _ _ ty (0,0) hheap,hc];simp
  ·intro c hcm;rcases qq.1 hcm with hcm|hcm
   ·rcases qq.1 hcm with hcm|hcm
    ·exact hol c (xU hcm)
    ·exact W.cells_lt h2.1 c hcm
   ·exact hol c (yj hcm)
def jwe {cs cs' ds:List C} {i e j:Nat} {p:Prop} (h:jok cs e j ds=some (p,cs')) (hp:p) :
  cs'=cs.take (i*e+j)++ds++cs.drop (i*e+j+ds.length)∧i*e+j+ds.length<=cs.length:=by
 unfold jok at h;split at h
 ·split at h
  ·cases h
  ·rw[fx,zP];exact jof h hp
 ·cases h
def jx0 {o:zX} {r r':Res} {M:Bool} (h:jax P U B nx a w o r M) (h1:r'.v=r.v) (h2:r'.hp=r.hp) (h3:r'.nx=r.nx):jax P U B nx a w o r' M:=by
 obtain⟨ob,v,hp1,n1⟩:=r;obtain⟨ob',v',hp2,n2⟩:=r';obtain rfl:v'=v:=h1;obtain rfl:hp2=hp1:=h2;obtain rfl:n2=n1:=h3;exact fun K Q hK=>h K Q fun U' w' hl=>hK U' w' ⟨hl.agree,hl.lt,hl.le,hl.heap,hl.below,hl.mono,hl.fresh⟩
def jon (c c':Cont) (i j:Nat) (ds:List D):Prop :=
 c'.n=c.n∧c'.e=c.e∧j+ds.length<=c.e ∧
  ∀k m,m<c.e->c'.cell k m=if k=i∧j<=m∧m<j+ds.length then ds.getD (m-j) (.v qe)else c.cell k m
def jsb {c c':Cont} {i j:Nat} {ds:List D} (h:jon c c' i j ds) (hi:i<c.n) (he:0<c.e) (tail:List zF) :
  ((c.flat.map D.val++tail).take (i*c.e+j)++ds.map D.val++(c.flat.map D.val++tail).drop (i*c.e+j+ds.length)).take (c'.n*c'.e)=c'.flat.map D.val:=by
 obtain⟨hn,hee,hle,hcell⟩:=h
 have hin:i*c.e+j+ds.length<=c.n*c.e:=by
  have:(i+1)*c.e<=c.n*c.e:=zW _ hi;rw[qo]at this;omega
 have hfl:=c.flat_length;have hfl':=c'.flat_length;apply xg;intro t
 by_cases ht:t<c.n*c.e
 ·have hq:t/c.e<c.n:=xW (by rw[xJ];exact ht);have hm:=ya t he;have hdm:t/c.e*c.e+t%c.e=t:=by rw[xJ];exact yC t c.e
  have hc':c'.flat[t]?=some (c'.cell (t/c.e) (t%c.e)):=by
   have:=c'.flat_get (i:=t/c.e) (j:=t%c.e) (by omega) (by omega);rw[hee,hdm]at this;exact this
  have hc:c.flat[t]?=some (c.cell (t/c.e) (t%c.e)):=by
   have:=c.flat_get (i:=t/c.e) (j:=t%c.e) hq hm;rw[hdm]at this;exact this
  rw[zK,hc',hcell _ _ hm];rw[z6,if_pos (by rw[hn,hee];exact ht)]
  have hrange:(t/c.e=i∧j<=t%c.e∧t%c.e<j+ds.length)<->(i*c.e+j<=t∧t<i*c.e+j+ds.length):=by
   constructor
   ·rintro ⟨h1,h2,h3⟩;rw[h1]at hdm;omega
   ·rintro ⟨h1,h2⟩
    have hti:t/c.e=i:=by
     apply Nat.div_eq_of_lt_le
     ·omega
     ·rw[qo];omega
    rw[hti]at hdm;exact⟨hti,by omega,by omega⟩
  by_cases hr:i*c.e+j<=t∧t<i*c.e+j+ds.length
  ·rw[if_pos (hrange.2 hr)];obtain⟨h1,h2,h3⟩:=hrange.2 hr;have hdm2:i*c.e+t%c.e=t:=by rw[<-h1];exact hdm
   rw[qJ,qa (by simp;omega),z7 (by simp;omega)];simp only[qP,qb,qG];have hmin:min (i*c.e+j) (c.flat.length+tail.length)=i*c.e+j:=by omega
   rw[hmin,zK];have hidx:t-(i*c.e+j)=t%c.e-j:=by omega
   have hlt:t%c.e-j<ds.length:=by omega
   rw[hidx];simp[za,hlt]
  ·rw[if_neg (fun h=>hr (hrange.1 h))]
   by_cases hlo:t<i*c.e+j
   ·rw[qJ,z7 (by simp;omega),z6,if_pos hlo,z7 (by simp;omega),zK,hc]
   ·rw[qa (by simp;omega)];simp only[qb,qP,qG];have hmin:min (i*c.e+j) (c.flat.length+tail.length)=i*c.e+j:=by omega
    rw[hmin,xN];have hidx:i*c.e+j+ds.length+(t-(i*c.e+j+ds.length))=t:=by omega
    rw[hidx,z7 (by simp;omega),zK,hc]
 ·rw[z9 (by simp only[qP,hn,hee];omega),z9 (by simp only[qG,hfl',hn,hee];omega)]
def jeW {o:zX} {t h i e j ty:Nat} {x y:zH} {u:W} {c c':Cont} {ds:List D} (hh:HRel U B hp nx w) (hr:jav U nx rd a) (ho:o.op=.store t x y)
  (hx:rd x=some (.w (.c (.p h i e j)))) (hy:rd y=some (.w u)) (hone:u.one hp=true) (hs:szT P t=some u.cells.length) (hall:(u.cells.all fun c=>c.one hp)=true)
  (hf:find hp h=some (.row ty c)) (hds:jbA u.cells=some ds) (hupd:jon c c' i j ds) (he:e=c.e) (he0:0<e) (hi:i<c.n) :
  jax P U B nx a w o ⟨i<c.n,vu,(h,.row ty c')::jah hp,nx⟩ false:=by
 subst he;have h1:=hr _ _ hx;have h2:=hr _ _ hy;obtain⟨hlt,hol,hok⟩:=hh.ok h _ hf;obtain⟨⟨hlen,hcase⟩,hBk⟩:=hok;rcases hcase with ⟨_,hn⟩|⟨g,cap,cur,hk,_,hheap,hncap,hcapm,hcs,htk⟩
 ·omega
 have hBg:¬B.all g:=hBk g (by rw[hk];rfl);obtain⟨hn',hee,hle,_⟩:=id hupd;have hc:=W.cells_val hh hone;have hdse:=jcf hds;have hul:u.cells.length=ds.length:=by rw[hdse];simp
 have hvs:(u.val U).cells.size=u.cells.length:=by rw[hc];simp
 have hin:i*c.e+j+ds.length<=c.n*c.e:=by
  have:(i+1)*c.e<=c.n*c.e:=zW _ hi;rw[qo]at this;omega
 have hcapsz:c.n*c.e<=cap*c.e:=zW _ hncap;have hst:=jbB (P:=P) (t:=t) (g:=g) (off:=i*c.e+j) (v:=u.val U) (by rw[hvs];exact hs) hheap (by rw[hvs,hul,hcs];omega) (by rw[hc];exact jcv hh hall);refine jbR (U':=U) (w':=w.setRow g ((cur.toList.take (i*c.e+j)++(u.val U).cells.toList++cur.toList.drop (i*c.e+j+(u.val U).cells.size)).toArray)) ?_ rfl ?_
 ·unfold qr;have h1v:a.eval x=.pointer (some ⟨g,i*c.e+j,none⟩):=by rw[h1.2];simp[C.val,hk,base]
  have h2v:a.eval y=u.val U:=h2.2;simp only[ho,h1v,h2v,yh,qA,zn,zp,zh,hst]
 ·refine⟨jae.refl _ _,trivial,zu _,HRel.gr ?_,jbX hBg,(fun h=>by cases h),fun h=>by cases h⟩;refine HRel.write hh hf (g:=g) (by simp[O.blk,hk,zL]) (fun k _ hne=>yg w g k _ hne) ?_ trivial (by simp[O.blk,hk,zL]);refine⟨⟨by simp[Cont.flat_length],.inr ⟨g,cap,_,by rw[hn'];exact hk,qI _,yT w g _ _ ty (0,0) hheap,by rw[hn'];exact hncap,hcapm,?_,?_⟩⟩,hBk⟩
  ·simp only[List.size_toArray,qb,qP,xf,Array.length_toList,hvs,hul,hee];omega
  ·have hcur:cur.toList=c.flat.map D.val++cur.toList.drop (c.n*c.e):=by rw[<-htk];exact(xi _ _).symm
   have hvl:(u.val U).cells.toList=ds.map D.val:=by rw[hc,hdse];simp[xq,C.val]
   rw[hvs,hul,hvl,hcur];exact jsb hupd hi he0 _
end
end Go.Sx
end

section
open Go.RowKit
namespace Go.Sx
structure RunOK [Globs] (P:zy) (f:Nat) (M:Bool) (S:Spec):Prop where
 enter:∀args w,(callFunc f args).run P w=.ok (.enter f args) w
 sound:∀U B w args hp nx t,S args hp nx=some t->t.sel.ob->(∀x∈args,V.lt nx x)->HRel U B hp nx w->Old B w ->
  Calls P f (args.map (V.val U)).toArray w fun e w'=>∃U',e=.returned (t.sel.v.val U')∧Left U B nx w t.sel M U' w'
def ValOK [Globs] (P:zy) (f:Nat) (S:Spec):Prop :=
 ∀U B w args hp nx t,S args hp nx=some t->t.sel.ob->(∀x∈args,V.lt nx x)->HRel U B hp nx w->Old B w ->
  ∃ob v,t.sel=⟨ob,v,hp,nx⟩∧v.lt nx∧(callFunc f (args.map (V.val U)).toArray).run P w=.ok (.value (v.val U)) w
def jaf [Globs] (P:zy) (f:Nat) (M:Bool) (S:Spec):Prop:=RunOK P f M S∨ValOK P f S
abbrev jaa:=Nat->Option (Bool × Spec)
def jac [Globs] (P:zy) (sp:jaa):Prop:=∀f M S,sp f=some (M,S)->jaf P f M S
def jam [Globs] (sp:jaa) (op:Op) (rd:zH->Option V):Bool :=
 match op with
 | .store _ _ _=>false
 | .buildSlice t _ _=>!Globs.nestT t
 | .mapUpdate _ _ _ _=>false
 | .slice _ _ _ _ (some _)=>!Globs.mv
 | .slice t _ (some _) none none=>!Globs.cutT t
 | .call c=>match c.callee with
  | .builtin .append=>false
  | .value f=>match rd f with
   |some (.w (.c (.fn g _)))=>match sp g with
    |some (M,_)=>M
    |none=>false
   |some (.w (.c (.fb g _)))=>match sp g with
    |some (M,_)=>M
    |none=>false
   |_=>false
  |_=>true
 |_=>true
def jeX:O->Option Cont
 | .row _ c=>some c
 | .rrow c=>some c
 |_=>none
def jdf [Globs] (P:zy) (op:Op) (rd:zH->Option V) (hp:Hp) (nx:Nat):Option Res :=
 match op with
 | .slice t x none (some hi) (some mx) =>
  match Globs.mv with
  |true=>match P.underlying t,rd x,(rd hi).bind V.int?,(rd mx).bind V.int? with
   |some (.slice elem),some (.w (.c (.o h))),some (_,m),some (_,q)=>match find hp h,szT P elem with
    |some (.row _ c),some (e+1)=>match zt c.e (e+1)with
     |true=>some ⟨0<=m∧m<=q∧q<=(c.n:Int),.w (.c (.o nx)),(nx,.rrow (c.sub 0 m.toNat))::(h,.dead)::hp,nx+1⟩
     |false=>none
    |_,_=>none
   |_,_,_,_=>none
  |false=>none
 | .slice t x (some lo) none none =>
  match Globs.cutT t with
  |true=>match P.underlying t,rd x,(rd lo).bind V.int? with
   |some (.slice elem),some (.w (.c (.o h))),some (_,l)=>match(find hp h).bind jeX,szT P elem with
    |some c,some (e+1)=>match zt c.e (e+1)with
     |true=>some ⟨0<=l∧l<=(c.n:Int),.w (.c (.o nx)),(nx,.rrow (c.sub l.toNat c.n))::(h,.dead)::hp,nx+1⟩
     |false=>none
    |_,_=>none
   |_,_,_=>none
  |false=>none
 |_=>none
def step [Globs] (P:zy) (sp:jaa) (op:Op) (rd:zH->Option V) (hp:Hp) (nx:Nat):Option Res :=
 match ja4 P op rd hp with
 |some (ob,v)=>some ⟨ob,v,hp,nx⟩
 |none=>match jdf P op rd hp nx with
  |some r=>some r
  |none=>match jdS P op rd hp nx with
   |some r=>some r
   |none=>match jev P op rd hp nx with
    |some r=>some r
    |none=>match jdU P op rd hp nx with
     |some r=>some r
     |none=>match jdV P op rd hp nx with
      |some r=>some r
      |none=>match jdT P op rd hp nx with
       |some r=>some r
       |none=>jhz P sp op rd hp nx
section
variable [Globs] {P:zy} {U:Env} {B:Kd} {nx:Nat} {hp:Hp} {w:zx} {rd:zH->Option V} {a:Act} {sp:jaa}
def jkH {v:zF} {c:Cont} {lo hi:Nat} (he:0<c.e) (h:jaJ w v c) (hlo:lo<=hi) (hhi:hi<=c.n) {a':Option Addr} {n cap:Nat} (hv:v=.slice a' n cap) :
  jaJ w (.slice (if cap=lo then a' else a'.map (·.add (lo*c.e))) (hi-lo) (cap-lo)) (c.sub lo hi):=by
 obtain⟨a2,cap2,h1,⟨h2,h2'⟩,h3⟩:=h;rw[hv]at h1;cases h1;have hs:=c.sub_cell hlo hhi;refine⟨_,_,by rw[hs.1],⟨by omega,fun hnone=>?_⟩,fun hn=>?_⟩
 ·by_cases hc:cap=lo
  ·omega
  ·rw[if_neg hc]at hnone;have:=h2' (by simpa using hnone);omega
 rw[hs.1]at hn;obtain⟨b,off,rfl,hx⟩:=h3 (by omega);rw[if_neg (by omega)];refine⟨b,off+lo*c.e,by simp[jaL],fun j x hj=>?_⟩
 have hjl:j<(hi-lo)*c.e:=by
  have:=(zB.1 hj).1;rw[Cont.flat_length,hs.1,hs.2.1]at this;exact this
 have hk:j/c.e<hi-lo:=xW (by rw[xJ];exact hjl);have hm:=ya j he;have hdm:j/c.e*c.e+j%c.e=j:=by rw[xJ];exact yC j c.e
 have h4:=(c.sub lo hi).flat_get (i:=j/c.e) (j:=j%c.e) (by omega) (by omega);rw[hs.2.1,hdm,hj,hs.2.2 _ _ hk]at h4;have h5:=c.flat_get (i:=lo+j/c.e) (j:=j%c.e) (by omega) hm;have h6:=hx _ _ h5;cases h4;rw[<-h6]
 congr 2
 rw[qo];omega
def jem (hr:jav U nx rd a) {x:Option zH} {l:Option Int} (h:jaM rd x=some l):∃k,x.map a.eval=l.map (xV k ·):=by
 cases x with
 |none=>simp only[jaM,zi]at h;subst h;exact⟨.i64,rfl⟩
 |some x =>
  simp only[jaM]at h;split at h
  ·rename_i k n hx;cases h;cases hrx:rd x with
   |none=>simp[hrx]at hx
   |some u =>
    simp only[hrx,zw]at hx;have:=(hr x u hrx).2;rw[V.int?_eq hx]at this;exact⟨k,by simp[this]⟩
  ·cases h
def jcw {len cap:Nat} {l m:Option Int} {k k':IntKind} (h0:0<=l.getD 0) (h1:l.getD 0<=m.getD (len:Int)) (h2:m.getD (len:Int)<=(len:Int)) (h3:len<=cap) :
  (xr true len cap (l.map (xV k ·)) (m.map (xV k' ·)) none).run P w=.ok ((l.getD 0).toNat,(m.getD (len:Int)).toNat,cap) w:=by
 cases l<;>cases m<;>simp only[xm,zQ,x8,zU]at * <;>
  simp[xr,yQ,yU, *]
 ·intro h;omega
 ·rw[if_pos (by omega),if_pos (by omega)]
def jcQ {r:Res} (hh:HRel U B hp nx w) (hB:Old B w) (v:zF) (obj:O) (hr:r.hp=(nx,obj)::hp) (hn:r.nx=nx+1) (hv:r.v.lt (nx+1)) (M:Bool)
  (hl:obj.lt (nx+1)) (ho:obj.ok (upd U nx v) B w nx) (hb:obj.blk v=none):Left U B nx w r M (upd U nx v) w:=by
 refine⟨jal _ _ _,by rw[hn];exact hv,by omega,HRel.gr ?_,Bel.refl _ _,fun _=>qO _ _,fun _ h o k hnh hf hk=>?_⟩
 ·rw[hr,hn];exact hh.add (qO _ w) hB (jal _ _ _) hl ho (by simp[hb])
 ·rw[hr]at hf;simp only[find]at hf;split at hf
  ·rename_i e;subst e;cases hf;rw[upd_same,hb]at hk;cases hk
  ·have:=(hh.ok h o hf).1;omega
def jgN {o:zX} {t h e elem:Nat} {x:zH} {lo hi:Option zH} {l m:Option Int} {ob:O} {c:Cont} (hh:HRel U B hp nx w) (hB:Old B w) (hr:jav U nx rd a) (ho:o.op=.slice t x lo hi none)
  (hu:P.underlying t=some (.slice elem)) (hx:rd x=some (.w (.c (.o h)))) (hl:jaM rd lo=some l) (hm:jaM rd hi=some m) (hf:find hp h=some ob) (hs:szT P elem=some (e+1)) (hc:ob.cont=some c) (hce:c.e=e+1)
  (hob:0<=l.getD 0∧l.getD 0<=m.getD (c.n:Int)∧m.getD (c.n:Int)<=(c.n:Int)) (r:Res) (hrn:r.nx=nx+1) (hrv:r.v=.w (.c (.o nx)))
  (hrh:r.hp=(nx,jhS h ob (c.sub (l.getD 0).toNat (m.getD (c.n:Int)).toNat))::hp) :
  jax P U B nx a w o r true:=by
 obtain⟨h0,h1,h2⟩:=hob;have hok:=hh.ok h ob hf;have hrow:=jaX hok.2.2 hc;obtain⟨a2,cap,hv,⟨hcap,_⟩,hcells⟩:=hrow;have he:0<c.e:=by omega
 have hlo:(l.getD 0).toNat<=(m.getD (c.n:Int)).toNat:=by omega
 have hhi:(m.getD (c.n:Int)).toNat<=c.n:=by omega
 have hsub:=jkH (w:=w) he (jaX hok.2.2 hc) hlo hhi hv;obtain⟨k1,hlv⟩:=jem hr hl;obtain⟨k2,hmv⟩:=jem hr hm;have hsb:=jcw (P:=P) (w:=w) (len:=c.n) (cap:=cap) (l:=l) (m:=m) (k:=k1) (k':=k2) h0 h1 h2 hcap;have hxv:a.eval x=.slice a2 c.n cap:=by rw[(hr _ _ hx).2];exact hv
 refine jak (U':=upd U nx (.slice (if cap=(l.getD 0).toNat then a2 else a2.map (·.add ((l.getD 0).toNat*c.e))) ((m.getD (c.n:Int)).toNat-(l.getD 0).toNat) (cap-(l.getD 0).toNat))) (w':=w) ?_ ?_
 ·unfold qr;simp only[ho,hxv,hlv,hmv,xm,yf,jh,zn,zI hu,zh,hsb,jaD w hs,zp,hrv];simp[V.val,W.val,C.val,hce]
 ·refine jcQ hh hB _ _ hrh hrn (by rw[hrv];exact zo nx) true ?_ ?_ ?_
  ·cases ob with
   |view r2 c2 _=>exact zC hok.2.1 (qt nx)
   |ext=>trivial
   |row=>exact zC hok.1 (qt nx)
   |rrow=>exact zC hok.1 (qt nx)
   |sub=>exact zC hok.1 (qt nx)
   |fext=>trivial
   |_=>simp[O.cont]at hc
  ·have hblk:∀a n' cap',(qc (if cap=(l.getD 0).toNat then a2 else a2.map (·.add ((l.getD 0).toNat*c.e))) ((m.getD (c.n:Int)).toNat-(l.getD 0).toNat) (cap-(l.getD 0).toNat))=.slice (some a) n' cap'->0<n'->∃b off,a2=some ⟨b,off,none⟩∧a.block=b∧0<c.n:=by
    intro a n' cap' heq hn';simp only[fz]at heq;obtain⟨h5,h6,h7⟩:=heq;obtain⟨b,off,rfl,_⟩:=hcells (by omega);rw[if_neg (by omega)]at h5;simp only[zQ,zi]at h5;refine⟨b,off,rfl,?_,by omega⟩;rw[<-h5,jaL]
   cases ob with
   |ext c2 =>
    refine⟨by rw[upd_same];exact hsub,?_⟩;rw[upd_same];intro a n' cap' heq hn';obtain⟨b,off,rfl,rfl,hcn⟩:=hblk a n' cap' heq hn';exact hok.2.2.2 ⟨_,off,none⟩ c.n cap hv hcn
   |fext c2 =>
    refine⟨by rw[upd_same];exact hsub,?_⟩;rw[upd_same];intro a n' cap' heq hn';obtain⟨b,off,rfl,rfl,hcn⟩:=hblk a n' cap' heq hn';exact hok.2.2.2 ⟨_,off,none⟩ c.n cap hv hcn
   |view r2 c2 _ =>
    exact⟨by rw[upd_same];exact hsub,fun h=>by cases h⟩
   |rrow c2 =>
    exact⟨by rw[upd_same];exact hsub,fun h=>by cases h⟩
   |sub r2 i2 e2 j2 t2 c2 =>
    exact⟨by rw[upd_same];exact hsub,fun h=>by cases h⟩
   |row ty c2 =>
    exact⟨by rw[upd_same];exact hsub,fun h=>by cases h⟩
   |_=>simp[O.cont]at hc
  ·cases ob<;>simp[O.cont]at hc<;>rfl
end
end Go.Sx
end
