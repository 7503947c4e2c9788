/- Part 1 of the proof of TopEqualLatency: the executor, the mirrors of the functions, the plain facts. -/
import Derived.WalkKit
import Derived.Laws.StructEq
import Derived.Laws.BytesString
set_option maxRecDepth 100000
set_option linter.unusedSectionVars false
set_option linter.unusedSimpArgs false
set_option linter.unusedVariables false
set_option linter.defProp false
open Array renaming ext'->qR,getElem?_eq_some_iff->zH,getElem?_toList->g5,range->fR
open BitVec renaming ofInt->jL
open Bool renaming false_eq_true->qw
open ByteArray renaming empty->xP
open Function renaming comp_def->xI
open Go renaming Addr->gu,BinOp->ft,FloatKind->qf,Oper->qx,Operand->zU,Program->zQ,TypeId->qI,Value->zt,World->zs,asIntOf->je,beq_toListBytes->fX,cell_of_row->xD,eqGuard->jj,execOp->qS,heap_alloc_new->yR,invoke->jZ,loadVar->jM,madeCells->jG,newRow->gz,resolve->jk,run_equalIn_bool'->fC,run_newObj->j5,run_underlying->zR,setRow_heap->yV,setRow_other->yj,typeInfo->yK,undef->zX,zeroValue->yo
open Go.Addr renaming add->fD
open Go.Builtin renaming len_->gj,max2->km,min2->kl
open Go.FloatKind renaming decode->xa
open Go.Instr renaming alloc->kw,box->kC,build->fP,buildSlice->yz,fill->fv,index->fQ,indexAt->j9,loadAt->jN,slice->ky,sliceAt->hH,sliceBound->j4,sliceBounds->xT,storeAt->yM,sureAddr->qU
open Go.Op renaming floatArith->j8,floatCmp->kv,intArith->ku
open Go.Oper renaming wp->gR
open Go.Result renaming andThen_ok->zn
open Go.RowKit renaming Below->x8
open Go.RowKit.Below renaming refl->xz
open Go.Sem renaming run_bind->zr,run_pure->zu
open Go.Value renaming bool->f6,float->yJ,int->xS,ownBlock->zM,slice->qd,string->kn
open Go.Value.slice renaming injEq->kA
open Go.World renaming block_lt_of_cell?->qP,cell?_of_block->qX
open Go.World.ownsRow renaming lt->jX
open Ieee.Datum renaming isNaN->jl,order->fK
open Ieee.Format renaming order->qo
open List renaming all_eq_true->zx,append_assoc->qD,drop_eq_nil_of_le->yY,eq_nil_of_length_eq_zero->z4,ext_getElem->xF,ext_getElem?->xn,flatMap_cons->xH,flatten_cons->yp,foldlM_cons->fJ,foldl_cons->gd,getD->za,getD_eq_getElem?_getD->qF,getElem?_append_left->z8,getElem?_append_right->qh,getElem?_drop->yh,getElem?_eq_getElem->zG,getElem?_eq_none->zW,getElem?_eq_none_iff->gv,getElem?_eq_some_iff->zA,getElem?_map->zL,getElem?_range->js,getElem?_take->qc,length_append->z9,length_cons->zC,length_drop->xm,length_map->qr,length_take->qW,mapM_cons->g8,map_congr_left->qt,map_cons->zJ,map_map->xM,mem_append->qK,mem_cons->qu,mem_cons_of_mem->zw,mem_cons_self->zy,mem_map->qm,mem_of_getElem?->xY,mem_of_mem_drop->jf,mem_of_mem_take->yk,mem_singleton->zZ,nil_append->qT,range->zo,replicate->zi,replicate_succ->yP,take_append_drop->xE,zipIdx_cons->jY
open Nat renaming add_assoc->xy,add_mul->qy,add_zero->xq,beq->zB,ble->qM,blt->xp,div_add_mod->yG,div_lt_of_lt_mul->ym,eq_of_beq_eq_true->zj,le_of_ble_eq_true->zh,le_refl->zq,le_succ->xi,le_trans->qN,lt_irrefl->fu,lt_of_le_of_lt->yW,lt_of_lt_of_le->zF,lt_succ_self->zp,mod_lt->x9,mul_comm->xN,mul_eq_zero->gh,mul_le_mul_right->qb,mul_one->yU,succ_eq_add_one->jt,succ_pos->yX,zero_add->z7,zero_le->xh,zero_mul->xV
open Option renaming bind_eq_some_iff->zK,bind_some->zP,getD_none->jm,getD_some->z6,isSome_iff_exists->jx,map_eq_some_iff->zV,map_none->ja,map_some->qn
open Option.some renaming injEq->zk
open Prod.mk renaming injEq->qp
open Std.Legacy.Range renaming forIn_eq_forIn_range'->g7,size->kt
section
open Go.RowKit
namespace Go.Sx
inductive D where
 |i (k:IntKind) (n:Int)
 |b (x:Bool)
 |f (k:qf) (n:Nat)
 |s (x:ByteArray)
 |v (x:zt)
 |z (k:qf) (p:Nat × Nat)
def D.val:D->zt| .i k n=>.int k n| .b x=>.bool x| .f k n=>.float k n| .s x=>.string x| .v x=>x| .z k p=>.complex k p.1 p.2
def D.one:D->Bool| .v x=>x.oneCell'|_=>true
def D.one_val {x:D} (h:x.one=true):x.val.oneCell'=true:=by
 cases x<;>first|rfl|exact h
inductive Cont where
 |ints (k:IntKind) (l:List Int)
 |recs (e:Nat) (l:List (List Int))
 |floats (k:qf) (l:List Nat)
 |strs (l:List ByteArray)
 |bools (l:List Bool)
 |lits (e:Nat) (l:List (List D))
 |frs (k:qf) (e:Nat) (l:List (List Nat))
def jjX (e:Nat) (r:List Int):List D:=(zo e).map fun j=>D.i .i64 (r.getD j 0)
def jjY (e:Nat) (r:List D):List D:=(zo e).map fun j=>r.getD j (.v zX)
def frD (k:qf) (e:Nat) (r:List Nat):List D:=(zo e).map fun j=>D.f k (r.getD j 0)
inductive AR where
 |f (k:qf) (r:List Nat)
 |i (r:List Int)
def AR.el:AR->Nat->D| .f k r,j=>.f k (r.getD j 0)| .i r,j=>.i .i64 (r.getD j 0)
def arD (e:Nat) (x:AR):List D:=(zo e).map x.el
def Cont.n:Cont->Nat| .ints _ l=>l.length| .recs _ l=>l.length| .floats _ l=>l.length| .strs l=>l.length| .bools l=>l.length| .lits _ l=>l.length| .frs _ _ l=>l.length
def Cont.e:Cont->Nat| .recs e _=>e| .lits e _=>e| .frs _ e _=>e|_=>1
def Cont.flat:Cont->List D| .ints k l=>l.flatMap fun x=>[D.i k x]| .recs e l=>l.flatMap (jjX e)| .floats k l=>l.flatMap fun x=>[D.f k x]| .strs l=>l.flatMap fun x=>[D.s x]| .bools l=>l.flatMap fun x=>[D.b x]| .lits e l=>l.flatMap (jjY e)| .frs k e l=>l.flatMap (frD k e)
def Cont.cell:Cont->Nat->Nat->D| .ints k l,i,_=>.i k (l.getD i 0)| .recs _ l,i,j=>.i .i64 ((l.getD i []).getD j 0)| .floats k l,i,_=>.f k (l.getD i 0)| .strs l,i,_=>.s (l.getD i xP)| .bools l,i,_=>.b (l.getD i false)| .lits _ l,i,j=>(l.getD i []).getD j (.v zX)| .frs k _ l,i,j=>.f k ((l.getD i []).getD j 0)
inductive C where
 |d (x:D)
 |p (h i e j:Nat)
 |o (h:Nat)
 |fn (f:Nat) (hs:List Nat)
 |g (n i e j:Nat)
inductive W where
 |c (x:C)
 |a (l:List C)
 |b (e:Nat) (x:AR)
inductive V where
 |w (x:W)
 |t (l:List W)
abbrev Env:=Nat->zt
def base:zt->gu| .pointer (some a)=>a| .slice (some a) _ _=>a|_=>⟨0,0,none⟩
def C.val (I:Env):C->zt| .d x=>x.val| .p h i e j=>.pointer (some ⟨(base (I h)).block,(base (I h)).off+(i*e+j),none⟩)| .o h=>I h| .fn f hs=>.func (.func f) #[] (hs.map I).toArray| .g n i e j=>.pointer (some ⟨n,i*e+j,none⟩)
def W.val (I:Env):W->zt| .c x=>x.val I| .a l=>.agg (l.map (C.val I)).toArray| .b e x=>.agg ((arD e x).map D.val).toArray
def V.val (I:Env):V->zt| .w x=>x.val I| .t l=>.tuple (l.map (W.val I)).toArray
def C.lt (n:Nat):C->Prop| .d _=>True| .p h _ _ _=>h<n| .o h=>h<n| .fn _ hs=>∀h∈hs,h<n| .g _ _ _ _=>True
def W.lt (n:Nat):W->Prop| .c x=>x.lt n| .a l=>∀x∈l,C.lt n x| .b _ _=>True
def V.lt (n:Nat):V->Prop| .w x=>x.lt n| .t l=>∀x∈l,W.lt n x
def jak (n:Nat) (I I':Env):Prop:=∀h,h<n->I' h=I h
def jak.refl (n:Nat) (I:Env):jak n I I:=fun _ _=>rfl
def jak.trans {n m:Nat} {a b c:Env} (h:jak n a b) (k:jak m b c) (hm:n<=m):jak n a c :=fun x hx=>(k x (zF hx hm)).trans (h x hx)
def C.val_agree {n:Nat} {I I':Env} (h:jak n I I'):∀{x:C},x.lt n->x.val I'=x.val I
 | .d _,_=>rfl
 | .p _ _ _ _,hx=>by simp only[C.val,h _ hx]
 | .o _,hx=>h _ hx
 | .fn _ hs,hx=>by
  simp only[C.val]
  congr 2
  exact qt fun a ha=>h a (hx a ha)
 | .g _ _ _ _,_=>rfl
def W.val_agree {n:Nat} {I I':Env} (h:jak n I I'):∀{x:W},x.lt n->x.val I'=x.val I
 | .c _,hx=>C.val_agree h hx
 | .a l,hx=>by
  simp only[W.val]
  congr 2
  exact qt fun a ha=>C.val_agree h (hx a ha)
 | .b _ _,_=>rfl
def V.val_agree {n:Nat} {I I':Env} (h:jak n I I'):∀{x:V},x.lt n->x.val I'=x.val I
 | .w _,hx=>W.val_agree h hx
 | .t l,hx=>by
  simp only[V.val]
  congr 2
  exact qt fun a ha=>W.val_agree h (hx a ha)
def C.lt_mono {n m:Nat} (h:n<=m):∀{x:C},x.lt n->x.lt m| .d _,_=>trivial| .p _ _ _ _,hx=>zF hx h| .o _,hx=>zF hx h| .fn _ _,hx=>fun a ha=>zF (hx a ha) h| .g _ _ _ _,_=>trivial
def W.lt_mono {n m:Nat} (h:n<=m):∀{x:W},x.lt n->x.lt m| .c _,hx=>C.lt_mono h hx| .a _,hx=>fun a ha=>C.lt_mono h (hx a ha)| .b _ _,_=>trivial
def V.lt_mono {n m:Nat} (h:n<=m):∀{x:V},x.lt n->x.lt m| .w _,hx=>W.lt_mono h hx| .t _,hx=>fun a ha=>W.lt_mono h (hx a ha)
def jcb {α:Type} (g:α->List D) (e:Nat) (hg:∀x,(g x).length=e) (j:Nat) (hj:j<e) :
  ∀(l:List α) (i:Nat),(l.flatMap g)[i*e+j]?=(l[i]?).bind fun x=>(g x)[j]?
 |[],i=>by simp
 |x::l,0=>by
  rw[xH,xV,z7,z8 (by rw[hg x];exact hj)];simp
 |x::l,i+1=>by
  have ih:=jcb g e hg j hj l i;have e1:(i+1)*e+j=(g x).length+(i*e+j):=by rw[hg x,qy];omega
  rw[xH,e1,qh (by omega)];simpa using ih
def jjh {α:Type} (g:α->List D) (e:Nat) (hg:∀x,(g x).length=e):∀(l:List α),(l.flatMap g).length=l.length*e
 |[]=>by simp
 |x::l=>by rw[xH,z9,jjh g e hg l,hg x,zC,qy];omega
@[simp] theorem recD_length (e:Nat) (r:List Int):(jjX e r).length=e:=by simp[jjX]
@[simp] theorem litD_length (e:Nat) (r:List D):(jjY e r).length=e:=by simp[jjY]
@[simp] theorem frD_length (k:qf) (e:Nat) (r:List Nat):(frD k e r).length=e:=by simp[frD]
@[simp] theorem arD_length (e:Nat) (x:AR):(arD e x).length=e:=by simp[arD]
def jGu (e:Nat) (k:qf) (r:List Nat):arD e (.f k r)=frD k e r:=rfl
def Cont.flat_length (c:Cont):c.flat.length=c.n*c.e:=by
 cases c<;>simp only[Cont.flat,Cont.n,Cont.e]<;>(refine jjh _ _ ?_ _)<;>intro x<;>simp
def Cont.flat_get (c:Cont) {i j:Nat} (hi:i<c.n) (hj:j<c.e):c.flat[i*c.e+j]?=some (c.cell i j):=by
 cases c with
 |ints k l =>
  have h:=jcb (fun x:Int=>[D.i k x]) 1 (by simp) j hj l i;simp only[Cont.n]at hi;simp only[Cont.flat,Cont.e,Cont.cell]at *;rw[h];obtain rfl:j=0:=by omega
  simp[hi,za]
 |recs e l =>
  have h:=jcb (jjX e) e (by simp) j hj l i;simp only[Cont.n]at hi;simp only[Cont.flat,Cont.e,Cont.cell]at *;rw[h];simp[hi,za,jjX,hj]
 |floats k l =>
  have h:=jcb (fun x:Nat=>[D.f k x]) 1 (by simp) j hj l i;simp only[Cont.n]at hi;simp only[Cont.flat,Cont.e,Cont.cell]at *;rw[h];obtain rfl:j=0:=by omega
  simp[hi,za]
 |strs l =>
  have h:=jcb (fun x:ByteArray=>[D.s x]) 1 (by simp) j hj l i;simp only[Cont.n]at hi;simp only[Cont.flat,Cont.e,Cont.cell]at *;rw[h];obtain rfl:j=0:=by omega
  simp[hi,za]
 |bools l =>
  have h:=jcb (fun x:Bool=>[D.b x]) 1 (by simp) j hj l i;simp only[Cont.n]at hi;simp only[Cont.flat,Cont.e,Cont.cell]at *;rw[h];obtain rfl:j=0:=by omega
  simp[hi,za]
 |lits e l =>
  have h:=jcb (jjY e) e (by simp) j hj l i;simp only[Cont.n]at hi;simp only[Cont.flat,Cont.e,Cont.cell]at *;rw[h];simp[hi,za,jjY,hj]
 |frs k e l =>
  have h:=jcb (frD k e) e (by simp) j hj l i;simp only[Cont.n]at hi;simp only[Cont.flat,Cont.e,Cont.cell]at *;rw[h];simp[hi,za,frD,hj]
inductive NC where
 |d (x:D)
 |r (c:Cont)
inductive NK where
 |i (k:IntKind)
 |b
 |f (k:qf)
 |s
 |ints (k:IntKind)
 |recs (e:Nat)
 |flts (k:qf)
 |strs
 |bools
 |frs (k:qf) (e:Nat)
 deriving DecidableEq
def NC.toI:NC->Int| .d (.i _ n)=>n|_=>0
def NC.toB:NC->Bool| .d (.b x)=>x|_=>false
def NC.toF:NC->Nat| .d (.f _ n)=>n|_=>0
def NC.toS:NC->ByteArray| .d (.s x)=>x|_=>xP
def NC.toInts:NC->List Int| .r (.ints _ l)=>l|_=>[]
def NC.toRecs:NC->List (List Int)| .r (.recs _ l)=>l|_=>[]
def NC.toFlts:NC->List Nat| .r (.floats _ l)=>l|_=>[]
def NC.toStrs:NC->List ByteArray| .r (.strs l)=>l|_=>[]
def NC.toBools:NC->List Bool| .r (.bools l)=>l|_=>[]
def NC.toFrs:NC->List (List Nat)| .r (.frs _ _ l)=>l|_=>[]
def NK.norm:NK->NC->NC| .i k,x=>.d (.i k x.toI)| .b,x=>.d (.b x.toB)| .f k,x=>.d (.f k x.toF)| .s,x=>.d (.s x.toS)| .ints k,x=>.r (.ints k x.toInts)| .recs e,x=>.r (.recs e x.toRecs)| .flts k,x=>.r (.floats k x.toFlts)| .strs,x=>.r (.strs x.toStrs)| .bools,x=>.r (.bools x.toBools)| .frs k e,x=>.r (.frs k e x.toFrs)
inductive XC where
 |st (sh:List NK) (l:List (List NC))
 |ii (k:IntKind) (l:List (List Int))
 |ff (k:qf) (l:List (List Nat))
 |bb (k:qf) (e:Nat) (l:List (List (List Nat)))
 |rr (e:Nat) (l:List (List (List Int)))
def XC.n:XC->Nat| .st _ l=>l.length| .ii _ l=>l.length| .ff _ l=>l.length| .bb _ _ l=>l.length| .rr _ l=>l.length
def XC.e:XC->Nat| .st sh _=>sh.length|_=>1
def XC.cell:XC->Nat->Nat->NC| .st sh l,i,j=>(sh.getD j .b).norm ((l.getD i []).getD j (.d (.v zX)))| .ii k l,i,_=>.r (.ints k (l.getD i []))| .ff k l,i,_=>.r (.floats k (l.getD i []))| .bb k e l,i,_=>.r (.frs k e (l.getD i []))| .rr e l,i,_=>.r (.recs e (l.getD i []))
inductive O where
 |box (ty:Nat) (cs:List C)
 |row (ty:Nat) (c:Cont)
 |ext (c:Cont)
 |view (r:Nat) (c:Cont) (fl:Bool)
 |dead
 |nan (k:qf)
 |ebox (cs:List C)
 |arr (ty:Nat) (e:Nat) (x:AR)
 |xext (x:XC)
 |fext (c:Cont)
 |xrow (ty:Nat) (x:XC)
 |mrow (ty:Nat) (ts:List Nat) (x:XC) (ho:Option (Nat × Nat))
 |trow (ty:Nat) (ts:List Nat) (x:XC) (m:Nat)
 |sub (r i e j ty:Nat) (c:Cont)
 |err
 |atom
def O.cont:O->Option Cont| .row _ c=>some c| .ext c=>some c| .view _ c _=>some c| .fext c=>some c| .sub _ _ _ _ _ c=>some c|_=>none
def O.xc:O->Option XC| .xext x=>some x| .xrow _ x=>some x| .mrow _ _ x none=>some x| .trow _ _ x _=>some x|_=>none
def O.isT:O->Bool| .trow _ _ _ _=>true|_=>false
def O.isM:O->Bool| .mrow _ _ _ _=>true| .trow _ _ _ _=>true|_=>false
def O.hole:O->Option XC| .mrow _ _ x (some _)=>some x|_=>none
abbrev Hp:=List (Nat × O)
def find:Hp->Nat->Option O|[],_=>none|(k,o)::r,h=>if k=h then some o else find r h
def jaQ (w:zs) (v:zt) (c:Cont):Prop :=∃a cap,v=.slice a c.n cap∧(c.n<=cap∧(a=none->cap=0))∧(0<c.n->∃b off,a=some ⟨b,off,none⟩∧∀j x,c.flat[j]?=some x->w.cell? ⟨b,off+j,none⟩=some x.val)
class Globs where
 tab:Nat->Option Cont
 nestT:Nat->Bool:=fun _=>false
 nestM:Nat->Bool:=fun _=>false
 held:Nat->Option (zt->Prop):=fun _=>none
abbrev Bd:=Nat->Prop
structure Kd where
 kp:Nat->Prop
 fr:Nat->Prop
 mu:Nat->Option Nat
 sub:∀k,fr k->kp k
 dis:∀k,kp k->mu k=none
def Kd.all (B:Kd) (k:Nat):Prop:=B.kp k∨B.mu k≠none
instance : Coe Kd Bd := ⟨Kd.kp⟩
def kd (p:Nat->Prop):Kd:=⟨p,fun _=>False,fun _=>none,fun _ h=>h.elim,fun _ _=>rfl⟩
def jbL {p:Nat->Prop} {k:Nat}:(kd p).all k<->p k:=⟨fun h=>h.elim id fun h=>absurd rfl h,.inl⟩
def jHw [Globs] (B:Bd) (w:zs):Prop:=∀g c,Globs.tab g=some c->B g∧(∀j x,c.flat[j]?=some x->w.cell? ⟨g,j,none⟩=some x.val)∧∃cs t f,w.heap[g]?=some (.cells cs t f)∧cs.size=c.flat.length
def jCn [Globs] (B:Bd) (w:zs):Prop:=∀g p,Globs.held g=some p->B g∧∃v,w.cell? ⟨g,0,none⟩=some v∧p v
def jbD [Globs] (B:Bd) (w:zs):Prop:=jHw B w∧jCn B w
def jl6 [Globs] (h:∀g,Globs.held g=none) (B:Bd) (w:zs):jCn B w:=fun g p hg=>by
 rw[h g]at hg;cases hg
def Old (B:Kd) (w:zs):Prop:=∀k,B.all k->k<w.heap.size
structure Bel (B:Bd) (w w':zs):Prop where
 os:w'.os=w.os
 tape:w'.tape=w.tape
 output:w'.output=w.output
 size:w.heap.size<=w'.heap.size
 block:∀k,B k->w'.heap[k]?=w.heap[k]?
def Bel.refl (B:Bd) (w:zs):Bel B w w:=⟨rfl,rfl,rfl,zq _,fun _ _=>rfl⟩
def Bel.trans {B:Bd} {a b c:zs} (h:Bel B a b) (k:Bel B b c):Bel B a c :=⟨k.os.trans h.os,k.tape.trans h.tape,k.output.trans h.output,qN h.size k.size,fun i hi=>(k.block i hi).trans (h.block i hi)⟩
def Bel.cell {B:Bd} {w w':zs} (h:Bel B w w') {p:gu} (hp:B p.block):w'.cell? p=w.cell? p:=qX (w:=w) (h.block p.block hp)
def Bel.mono {B B':Bd} {w w':zs} (h:Bel B w w') (hB:∀k,B' k->B k):Bel B' w w':=⟨h.os,h.tape,h.output,h.size,fun k hk=>h.block k (hB k hk)⟩
def jzH {B:Bd} {w w':zs} (h:x8 w.heap.size w w') (hB:∀k,B k->k<w.heap.size):Bel B w w':=⟨h.os,h.tape,h.output,h.size,fun k hk=>h.block k (hB k hk)⟩
def jc5 {B:Kd} {w w':zs} (h:x8 w.heap.size w w') (hB:Old B w):Bel B w w':=jzH h fun k hk=>hB k (.inl hk)
def jv4 {B:Kd} {w w':zs} (h:x8 w.heap.size w w') (hB:Old B w):Bel B.fr w w':=jzH h fun k hk=>hB k (.inl (B.sub k hk))
def Bel.old {B:Kd} {w w':zs} (h:Bel B w w') (hB:Old B w):Old B w':=fun k hk=>zF (hB k hk) h.size
def Bel.below {n:Nat} {w w':zs} (h:Bel (fun k=>k<n) w w'):x8 n w w':=⟨h.os,h.tape,h.output,h.size,h.block⟩
def jbM (B:Bd) (v:zt):Prop:=∀a n cap,v=.slice (some a) n cap->0<n->B a.block
def jbD.bel [Globs] {B:Bd} {w w':zs} (h:jbD B w) (hb:Bel B w w'):jbD B w':=⟨fun g c hg =>
 ⟨(
  h.1 g c hg).1,fun j x hj=>(hb.cell (p:=⟨g,j,none⟩) (h.1 g c hg).1).trans ((h.1 g c hg).2.1 j x hj),by
  obtain⟨cs,t,f,h1,h2⟩:=(h.1 g c hg).2.2;exact⟨cs,t,f,(hb.block g (h.1 g c hg).1).trans h1,h2⟩⟩,fun g p hg =>
 let ⟨h1,v,h2,h3⟩:=h.2 g p hg
 ⟨h1,v,(hb.cell (p:=⟨g,0,none⟩) h1).trans h2,h3⟩⟩
def jbD.sub [Globs] {B B':Bd} {w:zs} (h:jbD B w) (hs:∀g,B g->B' g):jbD B' w :=⟨fun g c hg=>⟨hs g (h.1 g c hg).1,(h.1 g c hg).2⟩,fun g p hg=>⟨hs g (h.2 g p hg).1,(h.2 g p hg).2⟩⟩
def NC.at (B:Bd) (w:zs) (v:zt):NC->Prop| .d x=>v=x.val| .r c=>jaQ w v c∧jbM B v
def IsX (B:Bd) (w:zs) (v:zt) (X:XC):Prop :=∃a cap,v=.slice a X.n cap∧(X.n<=cap∧(a=none->cap=0))∧(0<X.n->∃b off,a=some ⟨b,off,none⟩∧B b∧∀i j,i<X.n->j<X.e->∃u,w.cell? ⟨b,off+(i*X.e+j),none⟩=some u∧(X.cell i j).at B w u)
def NC.own (B:Kd) (w:zs) (g ty:Nat) (v:zt):NC->Prop| .d x=>v=x.val| .r c=>w.ownsRow 0 ty c.e v c.n (c.flat.map D.val)∧∀k,v.ownBlock=some k->B.mu k=some g
def O.ok (I:Env) (B:Kd) (w:zs) (h:Nat):O->Prop
 | .box ty cs=>∃k,I h=.pointer (some ⟨k,0,none⟩)∧¬B.all k∧w.heap[k]?=some (.cells (cs.map (C.val I)).toArray ty (0,0))
 | .row ty c=>w.ownsRow 0 ty c.e (I h) c.n (c.flat.map D.val)∧∀k,(I h).ownBlock=some k->¬B.all k
 | .ext c=>jaQ w (I h) c∧jbM B (I h)
 | .view _ c fl=>jaQ w (I h) c∧(fl=true->∀a n cap,I h=.slice a n cap->cap=n)
 | .dead=>True
 | .nan k=>∃n,I h=.float k n∧(k.decode n).isNaN=true
 | .ebox cs=>∃k o,I h=.pointer (some ⟨k,o,none⟩)∧B.kp k∧∀j c,cs[j]?=some c->w.cell? ⟨k,o+j,none⟩=some (c.val I)
 | .arr ty e x=>∃b,I h=.pointer (some ⟨b,0,none⟩)∧¬B.all b∧w.heap[b]?=some (.cells ((arD e x).map D.val).toArray ty (0,0))
 | .xext X=>IsX B w (I h) X
 | .fext c=>jaQ w (I h) c∧jbM B.fr (I h)
 | .xrow ty X=>∃us,w.ownsRow 0 ty X.e (I h) X.n us∧(∀i j,i<X.n->j<X.e->∃u,us[i*X.e+j]?=some u∧(X.cell i j).at B.fr w u)∧∀k,(I h).ownBlock=some k->¬B.all k
 | .mrow ty ts X ho=>∃us,w.ownsRow 0 ty X.e (I h) X.n us ∧ (∀i j,i<X.n->j<X.e->ho≠some (i,j)->∃u,us[i*X.e+j]?=some u∧(X.cell i j).own B w (base (I h)).block (ts.getD j 0) u) ∧ (∀i j i' j' u v k,i<X.n->j<X.e->i'<X.n->j'<X.e->(i,j)≠(i',j')->ho≠some (i,j)->ho≠some (i',j')->us[i*X.e+j]?=some u->us[i' * X.e+j']?=some v->u.ownBlock=some k->v.ownBlock≠some k) ∧ ∀k,(I h).ownBlock=some k->¬B.all k
 | .trow ty ts X m=>∃us,w.ownsRow 0 ty X.e (I h) X.n us ∧ (∀i j,i<X.n->j<X.e->∃u,us[i*X.e+j]?=some u∧(i*X.e+j<m->(X.cell i j).own B w (base (I h)).block (ts.getD j 0) u)∧(m<=i*X.e+j->(X.cell i j).at B.kp w u)) ∧ (∀i j i' j' u v k,i<X.n->j<X.e->i'<X.n->j'<X.e->(i,j)≠(i',j')->i*X.e+j<m->i' * X.e+j'<m->us[i*X.e+j]?=some u->us[i' * X.e+j']?=some v->u.ownBlock=some k->v.ownBlock≠some k) ∧ ∀k,(I h).ownBlock=some k->¬B.all k
 | .sub r i e j ty c=>w.ownsRow 0 ty c.e (I h) c.n (c.flat.map D.val)∧j<e∧(∃a n cap,I r=.slice a n cap∧i<n)∧w.cell? ⟨(base (I r)).block,(base (I r)).off+(i*e+j),none⟩=some (I h)∧∀k,(I h).ownBlock=some k->B.mu k=some (base (I r)).block
 | .err=>∃t p,I h=.iface t p
 | .atom=>(I h).oneCell'=true
def O.blk (v:zt):O->Option Nat| .box _ _=>some (base v).block| .row _ _=>v.ownBlock| .arr _ _ _=>some (base v).block| .xrow _ _=>v.ownBlock| .mrow _ _ _ _=>v.ownBlock| .trow _ _ _ _=>v.ownBlock|_=>none
def O.isM_blk {o:O} {v:zt} (h:o.isM=true):o.blk v=v.ownBlock:=by cases o<;>first|rfl|cases h
def O.lt (n:Nat):O->Prop| .box _ cs=>∀x∈cs,C.lt n x| .view r _ _=>r<n| .sub r _ _ _ _ _=>r<n| .ebox cs=>∀x∈cs,C.lt n x|_=>True
structure HRel [Globs] (I:Env) (B:Kd) (hp:Hp) (nx:Nat) (w:zs):Prop where
 ok:∀h o,find hp h=some o->h<nx∧o.lt nx∧o.ok I B w h
 apart:∀h o h' o' k,find hp h=some o->find hp h'=some o'->h≠h'->o.blk (I h)=some k->o'.blk (I h')≠some k
 glob:jbD B w
section
variable [Globs]
def jaQ.below {B:Bd} {w w':zs} {v:zt} {c:Cont} (h:jaQ w v c) (hb:Bel B w w') (ho:jbM B v):jaQ w' v c:=by
 obtain⟨a,cap,rfl,hc,hcells⟩:=h;refine⟨a,cap,rfl,hc,fun hn=>?_⟩;obtain⟨b,off,rfl,hx⟩:=hcells hn;refine⟨b,off,rfl,fun j x hj=>?_⟩;have hlt:=ho _ _ _ rfl hn;exact(hb.cell (p:=⟨b,off+j,none⟩) hlt).trans (hx j x hj)
def jaQ.lt {w:zs} {v:zt} {c:Cont} (h:jaQ w v c) (he:0<c.e):jbM (fun k=>k<w.heap.size) v:=by
 obtain⟨a,cap,rfl,hc,hcells⟩:=h;intro a' n cap' hv hn;cases hv;obtain⟨b,off,hab,hx⟩:=hcells hn;cases hab;have h0:=c.flat_get (i:=0) (j:=0) hn he;exact qP w ⟨b,off+(0*c.e+0),none⟩ (hx _ _ h0)
def NC.at_bel {B:Bd} {w w':zs} {v:zt} {x:NC} (h:x.at B w v) (hb:Bel B w w'):x.at B w' v:=by
 cases x with
 |d x=>exact h
 |r c=>exact⟨h.1.below hb h.2,h.2⟩
def IsX.bel {B:Bd} {w w':zs} {v:zt} {X:XC} (h:IsX B w v X) (hb:Bel B w w'):IsX B w' v X:=by
 obtain⟨a,cap,rfl,hc,hcells⟩:=h;refine⟨a,cap,rfl,hc,fun hn=>?_⟩;obtain⟨b,off,rfl,hB,hx⟩:=hcells hn;refine⟨b,off,rfl,hB,fun i j hi hj=>?_⟩;obtain⟨u,hu,hux⟩:=hx i j hi hj;exact⟨u,(hb.cell (p:=⟨b,off+(i*X.e+j),none⟩) hB).trans hu,NC.at_bel hux hb⟩
def O.ok_below {I:Env} {B:Kd} {h:Nat} {w w':zs} (hb:x8 w.heap.size w w') (hB:Old B w):∀{o:O},o.ok I B w h->o.ok I B w' h
 | .box ty cs,⟨k,h1,h2,h3⟩=>⟨k,h1,h2,(hb.block k (zH.1 h3).1).trans h3⟩
 | .row ty c,⟨hr,hk⟩=>by
  refine⟨⟨hr.1,?_⟩,hk⟩;rcases hr.2 with hn|⟨g,cap,cur,h1,h2,h3,h4⟩
  ·exact .inl hn
  ·exact .inr ⟨g,cap,cur,h1,h2,(hb.block g (zH.1 h3).1).trans h3,h4⟩
 | .ext c,⟨h1,h2⟩=>⟨h1.below (jc5 hb hB) h2,h2⟩
 | .view r c _,⟨h1,h2⟩=>by
  refine⟨?_,h2⟩;obtain⟨a,cap,hv,hc,hcells⟩:=h1;refine⟨a,cap,hv,hc,fun hn=>?_⟩;obtain⟨b,off,hab,hx⟩:=hcells hn;refine⟨b,off,hab,fun j x hj=>?_⟩;have:=hx j x hj;exact(hb.cell (p:=⟨b,off+j,none⟩) (qP w _ this)).trans this
 | .dead,_=>trivial
 | .nan _,h=>h
 | .err,h=>h
 | .atom,h=>h
 | .ebox cs,⟨k,o,h1,h2,h3⟩=>⟨k,o,h1,h2,fun j c hj=>((jc5 hb hB).cell (p:=⟨k,o+j,none⟩) h2).trans (h3 j c hj)⟩
 | .arr ty e x,⟨b,h1,h2,h3⟩=>⟨b,h1,h2,(hb.block b (zH.1 h3).1).trans h3⟩
 | .xext _,h=>IsX.bel h (jc5 hb hB)
 | .fext c,⟨h1,h2⟩=>⟨h1.below (jv4 hb hB) h2,h2⟩
 | .xrow ty X,⟨us,hr,hi,hk⟩=>by
  refine⟨us,⟨hr.1,?_⟩,fun i j h1 h2=>?_,hk⟩
  ·rcases hr.2 with hn|⟨g,cap,cur,h1,h2,h3,h4⟩
   ·exact .inl hn
   ·exact .inr ⟨g,cap,cur,h1,h2,(hb.block g (zH.1 h3).1).trans h3,h4⟩
  ·obtain⟨u,hu,hux⟩:=hi i j h1 h2;exact⟨u,hu,NC.at_bel hux (jv4 hb hB)⟩
 | .mrow ty ts X ho,⟨us,hr,hi,hd,hk⟩=>by
  have own:∀{ty e n:Nat} {v:zt} {cs:List zt},w.ownsRow 0 ty e v n cs->w'.ownsRow 0 ty e v n cs:=fun hr=>by
   refine⟨hr.1,?_⟩;rcases hr.2 with hn|⟨g,cap,cur,h1,h2,h3,h4⟩
   ·exact .inl hn
   ·exact .inr ⟨g,cap,cur,h1,h2,(hb.block g (zH.1 h3).1).trans h3,h4⟩
  refine⟨us,own hr,fun i j h1 h2 h3=>?_,hd,hk⟩;obtain⟨u,hu,hux⟩:=hi i j h1 h2 h3;refine⟨u,hu,?_⟩;cases hc:X.cell i j with
  |d x=>rw[hc]at hux;exact hux
  |r c=>rw[hc]at hux;exact⟨own hux.1,hux.2⟩
 | .trow ty ts X m,⟨us,hr,hi,hd,hk⟩=>by
  have own:∀{ty e n:Nat} {v:zt} {cs:List zt},w.ownsRow 0 ty e v n cs->w'.ownsRow 0 ty e v n cs:=fun hr=>by
   refine⟨hr.1,?_⟩;rcases hr.2 with hn|⟨g,cap,cur,h1,h2,h3,h4⟩
   ·exact .inl hn
   ·exact .inr ⟨g,cap,cur,h1,h2,(hb.block g (zH.1 h3).1).trans h3,h4⟩
  refine⟨us,own hr,fun i j h1 h2=>?_,hd,hk⟩;obtain⟨u,hu,hux,hua⟩:=hi i j h1 h2;refine⟨u,hu,fun h3=>?_,fun h3=>NC.at_bel (hua h3) (jc5 hb hB)⟩;have hux:=hux h3;cases hc:X.cell i j with
  |d x=>rw[hc]at hux;exact hux
  |r c=>rw[hc]at hux;exact⟨own hux.1,hux.2⟩
 | .sub r i e j ty c,⟨h1,h2,h3,h4,h5⟩=>by
  refine⟨⟨h1.1,?_⟩,h2,h3,(qX (w:=w) (hb.block _ (qP w _ h4))).trans h4,h5⟩;rcases h1.2 with hn|⟨g,cap,cur,q1,q2,q3,q4⟩
  ·exact .inl hn
  ·exact .inr ⟨g,cap,cur,q1,q2,(hb.block g (zH.1 q3).1).trans q3,q4⟩
def HRel.below {I:Env} {B:Kd} {nx:Nat} {hp:Hp} {w w':zs} (h:HRel I B hp nx w) (hb:x8 w.heap.size w w') (hB:Old B w):HRel I B hp nx w' :=⟨fun k o hf=>let ⟨a,b,c⟩:=h.ok k o hf; ⟨a,b,O.ok_below hb hB c⟩,h.apart,h.glob.bel (jc5 hb hB)⟩
def O.lt_mono {n m:Nat} (h:n<=m):∀{o:O},o.lt n->o.lt m| .box _ _,hx=>fun a ha=>C.lt_mono h (hx a ha)| .view _ _ _,hx=>zF hx h| .row _ _,_=>trivial| .ext _,_=>trivial| .dead,_=>trivial| .nan _,_=>trivial| .err,_=>trivial| .atom,_=>trivial| .ebox _,hx=>fun a ha=>C.lt_mono h (hx a ha)| .arr _ _ _,_=>trivial| .xext _,_=>trivial| .fext _,_=>trivial| .xrow _ _,_=>trivial| .mrow _ _ _ _,_=>trivial| .trow _ _ _ _,_=>trivial| .sub _ _ _ _ _ _,hx=>zF hx h
def O.ok_agree {I I':Env} {B:Kd} {nx h:Nat} {w:zs} (ha:jak nx I I') (hh:h<nx):∀{o:O},o.lt nx->o.ok I B w h->o.ok I' B w h
 | .box ty cs,hl,⟨k,h1,h2,h3⟩=>⟨k,(ha h hh).trans h1,h2,by
   rw[h3];congr 3;exact qt fun a ha'=>(C.val_agree ha (hl a ha')).symm⟩
 | .row ty c,_,hr=>by unfold O.ok at *;rw[ha h hh];exact hr
 | .ext c,_,hr=>by unfold O.ok at *;rw[ha h hh];exact hr
 | .view r c _,hl,hr=>by
  have hl':r<nx:=hl;unfold O.ok at *;rw[ha h hh];simp only;exact hr
 | .dead,_,_=>trivial
 | .nan _,_,hr=>by unfold O.ok at *;rw[ha h hh];exact hr
 | .err,_,hr=>by unfold O.ok at *;rw[ha h hh];exact hr
 | .atom,_,hr=>by unfold O.ok at *;rw[ha h hh];exact hr
 | .ebox cs,hl,⟨k,o,h1,h2,h3⟩=>⟨k,o,(ha h hh).trans h1,h2,fun j c hj=>by rw[C.val_agree ha (hl c (xY hj))];exact h3 j c hj⟩
 | .arr _ _ _,_,hr=>by unfold O.ok at *;rw[ha h hh];exact hr
 | .xext _,_,hr=>by unfold O.ok at *;rw[ha h hh];exact hr
 | .fext _,_,hr=>by unfold O.ok at *;rw[ha h hh];exact hr
 | .xrow _ _,_,hr=>by unfold O.ok at *;rw[ha h hh];exact hr
 | .mrow _ _ _ _,_,hr=>by unfold O.ok at *;rw[ha h hh];exact hr
 | .trow _ _ _ _,_,hr=>by unfold O.ok at *;rw[ha h hh];exact hr
 | .sub r i e j ty c,hl,hr=>by
  have hl':r<nx:=hl;unfold O.ok at *;simp only;rw[ha h hh,ha r hl'];exact hr
def HRel.agree {I I':Env} {B:Kd} {nx:Nat} {hp:Hp} {w:zs} (h:HRel I B hp nx w) (ha:jak nx I I'):HRel I' B hp nx w where
 ok k o hf:=let ⟨a,b,c⟩:=h.ok k o hf; ⟨a,b,O.ok_agree ha a b c⟩
 apart k o k' o' b hf hf' hne hb:=by
  rw[ha k (h.ok k o hf).1]at hb;rw[ha k' (h.ok k' o' hf').1];exact h.apart k o k' o' b hf hf' hne hb
 glob:=h.glob
def HRel.mono_nx {I:Env} {B:Kd} {nx nx':Nat} {hp:Hp} {w:zs} (h:HRel I B hp nx w) (hn:nx<=nx'):HRel I B hp nx' w :=⟨fun k o hf=>let ⟨a,b,c⟩:=h.ok k o hf; ⟨zF a hn,O.lt_mono hn b,c⟩,h.apart,h.glob⟩
def O.blk_lt {I:Env} {B:Kd} {h k:Nat} {w:zs}:∀{o:O},o.ok I B w h->o.blk (I h)=some k->k<w.heap.size∧¬B.all k
 | .box ty cs,⟨g,h1,h2,h3⟩,hb=>by
  simp only[O.blk,h1,base,zk]at hb;subst hb;exact⟨(zH.1 h3).1,h2⟩
 | .row ty c,hr,hb=>by
  have:=jX hr.1 k hb;exact⟨this.2,hr.2 k hb⟩
 | .arr ty _ _,⟨g,h1,h2,h3⟩,hb=>by
  simp only[O.blk,h1,base,zk]at hb;subst hb;exact⟨(zH.1 h3).1,h2⟩
 | .xrow ty X,⟨us,hr,_,hk⟩,hb=>⟨(jX hr k hb).2,hk k hb⟩
 | .mrow ty ts X ho,⟨us,hr,_,_,hk⟩,hb=>⟨(jX hr k hb).2,hk k hb⟩
 | .trow ty ts X m,⟨us,hr,_,_,hk⟩,hb=>⟨(jX hr k hb).2,hk k hb⟩
def HRel.add {I I':Env} {B:Kd} {nx:Nat} {hp:Hp} {w w':zs} (h:HRel I B hp nx w) (hb:x8 w.heap.size w w') (hB:Old B w)
  (ha:jak nx I I') {o:O} (hl:o.lt (nx+1)) (ho:o.ok I' B w' nx) (hn:∀k,o.blk (I' nx)=some k->w.heap.size<=k) :
  HRel I' B ((nx,o)::hp) (nx+1) w':=by
 have h1:=((h.below hb hB).agree ha).mono_nx (xi nx);have hold:∀k o',find hp k=some o'->k≠nx:=fun k o' hf e=>by have:=(h.ok k o' hf).1;omega
 refine⟨?_,?_,h1.glob⟩
 ·intro k o' hf;simp only[find]at hf;split at hf
  ·rename_i e;subst e;cases hf;exact⟨by omega,hl,ho⟩
  ·exact h1.ok k o' hf
 ·intro k o₁ k' o₂ b hf hf' hne hbk hbk';simp only[find]at hf hf'
  have hlt:∀k o',find hp k=some o'->∀b,o'.blk (I' k)=some b->b<w.heap.size:=fun k o' hk b hbb=>by
   have hk1:=h.ok k o' hk;rw[ha k hk1.1]at hbb;exact(O.blk_lt hk1.2.2 hbb).1
  split at hf
  ·rename_i e;subst e;cases hf;rw[if_neg hne]at hf';have:=hn b hbk;have:=hlt k' o₂ hf' b hbk';omega
  ·split at hf'
   ·rename_i e;subst e;cases hf';have:=hn b hbk';have:=hlt k o₁ hf b hbk;omega
   ·exact h1.apart k o₁ k' o₂ b hf hf' hne hbk hbk'
structure Kd.Le (B B':Kd):Prop where
 kp:∀k,B.kp k->B'.kp k
 fr:∀k,B.fr k->B'.fr k
def Kd.LeM (B B':Kd):Prop:=∀k g,B.mu k=some g->B'.mu k=some g
def NC.own_mono {B B':Kd} {w:zs} {g ty:Nat} {v:zt} {x:NC} (hs:B.LeM B') (h:x.own B w g ty v):x.own B' w g ty v:=by
 cases x with
 |d x=>exact h
 |r c=>exact⟨h.1,fun k hk=>hs k g (h.2 k hk)⟩
def ja2 {B B':Bd} {v:zt} (hs:∀k,B k->B' k) (h:jbM B v):jbM B' v:=fun a n cap e hn=>hs _ (h a n cap e hn)
def NC.at_mono {B B':Bd} {w:zs} {v:zt} {x:NC} (hs:∀k,B k->B' k) (h:x.at B w v):x.at B' w v:=by
 cases x with
 |d x=>exact h
 |r c=>exact⟨h.1,ja2 hs h.2⟩
def IsX.mono {B B':Bd} {w:zs} {v:zt} {X:XC} (hs:∀k,B k->B' k) (h:IsX B w v X):IsX B' w v X:=by
 obtain⟨a,cap,h1,h2,h3⟩:=h;refine⟨a,cap,h1,h2,fun hn=>?_⟩;obtain⟨b,off,h4,h5,h6⟩:=h3 hn;refine⟨b,off,h4,hs b h5,fun i j hi hj=>?_⟩;obtain⟨u,hu,hux⟩:=h6 i j hi hj;exact⟨u,hu,NC.at_mono hs hux⟩
def O.ok_moreB {I:Env} {B B2:Kd} {w:zs} {h:Nat} (hs:B.Le B2) (hm:B.LeM B2):∀{o:O},o.ok I B w h->(∀k,o.blk (I h)=some k->¬B2.all k)->o.ok I B2 w h
 | .box _ _,⟨k,h1,h2,h3⟩,hn=>⟨k,h1,hn k (by simp[O.blk,h1,base]),h3⟩
 | .row _ _,⟨hr,_⟩,hn=>⟨hr,fun k hk=>hn k hk⟩
 | .ext _,⟨h1,h2⟩,_=>⟨h1,ja2 hs.kp h2⟩
 | .view _ _ _,h,_=>h
 | .dead,_,_=>trivial
 | .nan _,h,_=>h
 | .err,h,_=>h
 | .atom,h,_=>h
 | .ebox _,⟨k,o,h1,h2,h3⟩,_=>⟨k,o,h1,hs.kp _ h2,h3⟩
 | .arr _ _ _,⟨k,h1,h2,h3⟩,hn=>⟨k,h1,hn k (by simp[O.blk,h1,base]),h3⟩
 | .xext _,h,_=>IsX.mono hs.kp h
 | .fext _,⟨h1,h2⟩,_=>⟨h1,ja2 hs.fr h2⟩
 | .xrow _ _,⟨us,h1,h2,_⟩,hn=>⟨us,h1,fun i j hi hj=>let ⟨u,hu,hx⟩:=h2 i j hi hj; ⟨u,hu,NC.at_mono hs.fr hx⟩,fun k hk=>hn k hk⟩
 | .mrow _ _ _ _,⟨us,h1,h2,h3,_⟩,hn=>⟨us,h1,fun i j hi hj ho=>let ⟨u,hu,hx⟩:=h2 i j hi hj ho; ⟨u,hu,NC.own_mono hm hx⟩,h3,fun k hk=>hn k hk⟩
 | .trow _ _ _ _,⟨us,h1,h2,h3,_⟩,hn=>⟨us,h1,fun i j hi hj=>let ⟨u,hu,hx,ha⟩:=h2 i j hi hj; ⟨u,hu,fun hq=>NC.own_mono hm (hx hq),fun hq=>NC.at_mono hs.kp (ha hq)⟩,h3,fun k hk=>hn k hk⟩
 | .sub _ _ _ _ _ _,⟨h1,h2,h3,h4,h5⟩,_=>⟨h1,h2,h3,h4,fun k hk=>hm k _ (h5 k hk)⟩
def HRel.moreB {I:Env} {B B2:Kd} {nx:Nat} {hp:Hp} {w:zs} (hh:HRel I B hp nx w) (hs:B.Le B2) (hm:B.LeM B2) (hn:∀h o k,find hp h=some o->o.blk (I h)=some k->¬B2.all k):HRel I B2 hp nx w :=⟨fun h o hf=>⟨(hh.ok h o hf).1,(hh.ok h o hf).2.1,O.ok_moreB hs hm (hh.ok h o hf).2.2 (fun k hk=>hn h o k hf hk)⟩,hh.apart,hh.glob.sub hs.kp⟩
def HRel.sub {I:Env} {B:Kd} {nx:Nat} {hp hp':Hp} {w:zs} (h:HRel I B hp nx w) (hs:∀k o,find hp' k=some o->find hp k=some o):HRel I B hp' nx w :=⟨fun k o hf=>h.ok k o (hs k o hf),fun k o k' o' b hf hf'=>h.apart k o k' o' b (hs k o hf) (hs k' o' hf'),h.glob⟩
end
abbrev zS:List NK:=[.s,.i .i64,.ints .i64,.ints .i64,.ints .i64,.i .i64,.recs 5,.i .i64]
abbrev zT:=Int × Int × Int × Int × Int × Int × Int × Int × Int × Int × Int × Int × Int × Int × Int × Int × Int × Int × Int × Int × Int × Int × Int × Int × Int × Int × Int × Int × Int × Int × Int × Int
abbrev zN (r:List Int) (x:Int):=Int.toNat (za r x.toNat (0:Int))
abbrev zO:List Nat:=zi 32 0
abbrev zY:=ByteArray
abbrev zI:List Int:=zi 32 0
abbrev zD:List D:=zi 32 (D.f .f32 0)
abbrev zE:List Nat:=[(0:Nat),(0:Nat),(3:Nat),(3:Nat),(3:Nat),(0:Nat),(148:Nat),(0:Nat)]
end Go.Sx
end

section
open Go.RowKit
namespace Go.Sx
def V.int?:V->Option (IntKind × Int)| .w (.c (.d (.i k n)))=>some (k,n)|_=>none
def V.bool?:V->Option Bool| .w (.c (.d (.b x)))=>some x|_=>none
def V.str?:V->Option ByteArray| .w (.c (.d (.s x)))=>some x|_=>none
def V.flt?:V->Option (qf × Nat)| .w (.c (.d (.f k x)))=>some (k,x)|_=>none
def V.agg?:V->Option (List C)| .w (.a l)=>some l|_=>none
def V.cell?:V->Option C| .w (.c x)=>some x|_=>none
def V.obj?:V->Option Nat| .w (.c (.o h))=>some h|_=>none
def V.nils?:V->Bool| .w (.c (.d (.v (.slice none 0 0))))=>true|_=>false
def vi (k:IntKind) (n:Int):V:=.w (.c (.d (.i k n)))
def vb (b:Bool):V:=.w (.c (.d (.b b)))
def vs (s:ByteArray):V:=.w (.c (.d (.s s)))
def vf (k:qf) (n:Nat):V:=.w (.c (.d (.f k n)))
def vu:V:=.w (.c (.d (.v zX)))
def vblk (k:qf) (e:Nat) (r:List Nat):V:=.w (.b e (.f k r))
def jbT:qf->qf->Bool| .f32,.f32=>true| .f64,.f64=>true|_,_=>false
def V.nan? (hp:Hp):V->Option qf| .w (.c (.o h))=>(match find hp h with|some (.nan k)=>some k|_=>none)|_=>none
def jl7:zt->C| .int k n=>.d (.i k n)| .bool b=>.d (.b b)| .string s=>.d (.s s)| .float k n=>.d (.f k n)| .complex k x y=>.d (.z k (x,y))|v=>.d (.v v)
def jjZ (I:Env) (v:zt):(jl7 v).val I=v:=by cases v<;>rfl
def jl8 (n:Nat) (v:zt):(jl7 v).lt n:=by cases v<;>exact trivial
def joe (k:qf):List zt->Option (List Nat)|[]=>some []| .float k' n::r=>if k'=k then(joe k r).map (n :: ·)else none|_=>none
def jq1:List zt->Option (List Int)|[]=>some []| .int .i64 n::r=>(jq1 r).map (n :: ·)|_=>none
def bigV (cs:List zt):Option AR:=match qM 8 cs.length with|true=>(match joe .f32 cs with|some r=>some (.f .f32 r)|none=>match qM 16 cs.length with|true=>(jq1 cs).map .i|false=>none)|false=>none
def ofValue:zt->W| .agg cs=>(match bigV cs.toList with|some x=>.b cs.size x|none=>.a (cs.toList.map jl7))|v=>.c (jl7 v)
def jv5 {k:qf}:∀{cs:List zt} {r:List Nat},joe k cs=some r->cs=r.map fun n=>yJ k n
 |[],r,h=>by simp only[joe,zk]at h;subst h;rfl
 |c::cs,r,h=>by
  cases c with
  |float k' n =>
   simp only[joe]at h;split at h
   ·rename_i e;subst e;obtain⟨l,hl,rfl⟩:=zV.1 h;rw[jv5 hl];rfl
   ·cases h
  |_=>simp only[joe]at h;cases h
def jv6:∀{cs:List zt} {r:List Int},jq1 cs=some r->cs=r.map fun n=>xS .i64 n
 |[],r,h=>by simp only[jq1,zk]at h;subst h;rfl
 |c::cs,r,h=>by
  unfold jq1 at h;split at h
  ·rename_i e;cases e
  ·rename_i e;cases e;obtain⟨l,hl,rfl⟩:=zV.1 h;rw[jv6 hl];rfl
  ·cases h
def jj0 {α:Type} (d:α) (l:List α) (f:α->zt):((zo l.length).map fun i=>f (l.getD i d))=l.map f:=by
 apply xn;intro i;simp only[zL]
 by_cases hi:i<l.length
 ·rw[js hi];simp[za,zG hi]
 ·rw[zW (by simpa using hi),zW (by simpa using hi)];rfl
def jGG {cs:List zt} {x:AR} (h:bigV cs=some x):(arD cs.length x).map D.val=cs:=by
 unfold bigV at h;split at h
 ·split at h
  ·rename_i r hr;cases h;have h1:=jv5 hr;have hl:cs.length=r.length:=by rw[h1];simp
   rw[hl,arD,xM];exact(jj0 0 r fun n=>yJ .f32 n).trans h1.symm
  ·split at h
   ·obtain⟨r,hr,rfl⟩:=zV.1 h;have h1:=jv6 hr;have hl:cs.length=r.length:=by rw[h1];simp
    rw[hl,arD,xM];exact(jj0 0 r fun n=>xS .i64 n).trans h1.symm
   ·cases h
 ·cases h
def jo3 (I:Env) (v:zt):(ofValue v).val I=v:=by
 cases v with
 |agg cs =>
  simp only[ofValue];split
  ·rename_i x hb;simp only[W.val]
   congr 1
   apply Array.toList_inj.1;simp only;have hsz:cs.size=cs.toList.length:=rfl;rw[hsz];exact jGG hb
  ·simp only[W.val,xM,xI,jjZ,List.map_id']
 |_=>simp only[ofValue,W.val,jjZ]
def jq2 (n:Nat) (v:zt):(ofValue v).lt n:=by
 cases v with
 |agg cs =>
  simp only[ofValue];split
  ·exact trivial
  ·intro x hx;obtain⟨y,_,rfl⟩:=qm.1 hx;exact jl8 n y
 |_=>simp only[ofValue,W.lt];exact jl8 n _
def jl9 (op:ft) (k:IntKind) (a:Int) (k':IntKind) (b:Int):Option (Prop × V) :=
 match op with
 | .shl=>some (0<=b,vi k (k.wrap (a*2^(min b.toNat k.bits))))
 | .shr=>some (0<=b,vi k (a.fdiv (2^(min b.toNat k.bits))))
 |_ =>
  if k=k' then match op with| .add=>some (True,vi k (k.wrap (a+b)))| .sub=>some (True,vi k (k.wrap (a-b)))| .mul=>some (True,vi k (k.wrap (a*b)))| .quo=>some (b≠0,vi k (k.wrap (a.tdiv b)))| .rem=>some (b≠0,vi k (a.tmod b))| .eql=>some (True,vb (a==b))| .neq=>some (True,vb (a != b))| .lss=>some (True,vb (a<b))| .leq=>some (True,vb (a<=b))| .gtr=>some (True,vb (a>b))| .geq=>some (True,vb (a>=b))| .and=>some (True,vi k (k.wrap (jL k.bits a &&& jL k.bits b).toNat))| .or=>some (True,vi k (k.wrap (jL k.bits a ||| jL k.bits b).toNat))| .xor=>some (True,vi k (k.wrap (jL k.bits a ^^^ jL k.bits b).toNat))|_=>none
  else none
def jq3 (op:ft) (k:qf) (a:Nat) (k':qf) (b:Nat):Option (Prop × V) :=
 if k=k' then match op with| .eql=>some (True,vb (k.format.order a b==some .eq))| .neq=>some (True,vb (k.format.order a b != some .eq))| .lss=>some (True,vb (k.format.order a b==some .lt))| .leq=>some (True,vb (k.format.order a b==some .lt||k.format.order a b==some .eq))| .gtr=>some (True,vb (k.format.order a b==some .gt))| .geq=>some (True,vb (k.format.order a b==some .gt||k.format.order a b==some .eq))| .add=>some ((k.format.add a b).isSome=true,vf k ((k.format.add a b).getD 0))| .mul=>some ((k.format.mul a b).isSome=true,vf k ((k.format.mul a b).getD 0))|_=>none
 else none
def jof (op:ft) (a b:Bool):Option (Prop × V) :=match op with| .eql=>some (True,vb (a==b))| .neq=>some (True,vb (!(a==b)))|_=>none
def jq4 (op:ft) (a b:ByteArray):Option (Prop × V) :=match op with| .eql=>some (True,vb (a==b))| .neq=>some (True,vb (a != b))|_=>none
def jsK (P:zQ) (t:qI):Bool:=match P.underlying t with|some .bool=>true|_=>false
def jbF (P:zQ) (t:qI):Option Bool :=match P.underlying t with|some (.struct _)=>some true|some (.array _ _)=>some true|some _=>some false|none=>none
def szT (P:zQ) (t:qI):Option Nat:=(P.info? t).map (·.size)
def jaG (P:zQ) (t:qI):Option (List C):=((P.info? t).bind (·.zero)).map fun v=>v.cells.toList.map jl7
def isK:zU->Bool| .const _=>true|_=>false
def ivC:C->Int| .d (.i _ n)=>n|_=>0
def bvC:C->Bool| .d (.b x)=>x|_=>false
def svC:C->ByteArray| .d (.s x)=>x|_=>xP
def ikC (k:IntKind):C->Bool| .d (.i k' _)=>decide (k'=k)|_=>false
def bkC:C->Bool| .d (.b _)=>true|_=>false
def skC:C->Bool| .d (.s _)=>true|_=>false
def ivs (cs:List C):List Int:=cs.map ivC
def bvs (cs:List C):List Bool:=cs.map bvC
def svs (cs:List C):List ByteArray:=cs.map svC
def iks (k:IntKind) (cs:List C):List Bool:=cs.map (ikC k)
def bks (cs:List C):List Bool:=cs.map bkC
def sks (cs:List C):List Bool:=cs.map skC
def selC (z:C) (cs:List C) (j:Nat):Option (Prop × C) :=match z with| .d (.i k _)=>some ((iks k cs).getD j false=true,.d (.i k ((ivs cs).getD j 0)))| .d (.b _)=>some ((bks cs).getD j false=true,.d (.b ((bvs cs).getD j false)))| .d (.s _)=>some ((sks cs).getD j false=true,.d (.s ((svs cs).getD j xP)))|_=>none
def jq5 (cs:List C):List C->Nat->Option (Prop × List C)|[],_=>some (True,[])|z::r,j=>match selC z cs j with|some (p,c)=>(match r with|[]=>some (p,[c])|r=>match jq5 cs r (j+1)with|some (q,l)=>some (p∧q,c::l)|none=>none)|none=>none
def selW (P:zQ) (t:qI) (cs:List C) (j:Nat):Option (Prop × V) :=match jbF P t,szT P t,jaG P t with|some false,some 1,some [z]=>(match selC z cs j with|some (p,c)=>some (p,.w (.c c))|none=>none)|some true,some sz,some z=>(match zB z.length sz,qM 1 sz with|true,true=>(match jq5 cs z j with|some (p,l)=>some (p,.w (.a l))|none=>none)|_,_=>none)|_,_,_=>none
def jog (P:zQ) (t:qI) (cs:List C) (e j:Nat):Option (Prop × V) :=match e with|0=>(match selW P t cs j with|some x=>some x|none=>none)|_+1=>none
def jq6 (P:zQ) (t:qI) (o:O) (i e j:Nat):Option (Prop × V) :=
 match jbF P t,szT P t with
 |some ag,some sz =>
  match o with
  | .box _ cs =>
   match jog P t cs e j with|some x=>some x|none=>match ag with|true=>if i*e+j+sz<=cs.length then some (True,.w (.a ((cs.drop (i*e+j)).take sz)))else none|false=>(cs[i*e+j]?).map fun c=>(True,.w (.c c))
  | .ebox cs =>
   match jog P t cs e j with|some x=>some x|none=>match ag with|true=>if i*e+j+sz<=cs.length then some (True,.w (.a ((cs.drop (i*e+j)).take sz)))else none|false=>(cs[i*e+j]?).map fun c=>(True,.w (.c c))
  | .arr _ E x =>
   match ag with|true=>(match zB sz E,zB (i*e+j) 0 with|true,true=>some (True,.w (.b E x))|_,_=>none)|false=>some (i*e+j<E,.w (.c (.d (x.el (i*e+j)))))
  | .xext (.st sh l) =>
   match ag with|true=>none|false=>match zB e sh.length,sh[j]? with|true,some (.i k)=>some (i<l.length,vi k (((l.getD i []).getD j (.d (.v zX))).toI))|true,some .b=>some (i<l.length,vb (((l.getD i []).getD j (.d (.v zX))).toB))|true,some (.f k)=>some (i<l.length,vf k (((l.getD i []).getD j (.d (.v zX))).toF))|true,some .s=>some (i<l.length,vs (((l.getD i []).getD j (.d (.v zX))).toS))|_,_=>none
  | .xext _=>none
  | .xrow _ (.st sh l) =>
   match ag with|true=>none|false=>match zB e sh.length,sh[j]? with|true,some (.i k)=>some (i<l.length,vi k (((l.getD i []).getD j (.d (.v zX))).toI))|true,some .b=>some (i<l.length,vb (((l.getD i []).getD j (.d (.v zX))).toB))|true,some (.f k)=>some (i<l.length,vf k (((l.getD i []).getD j (.d (.v zX))).toF))|true,some .s=>some (i<l.length,vs (((l.getD i []).getD j (.d (.v zX))).toS))|_,_=>none
  | .xrow _ _=>none
  | .mrow _ _ (.st sh l) none =>
   match ag with|true=>none|false=>match zB e sh.length,sh[j]? with|true,some (.i k)=>some (i<l.length,vi k (((l.getD i []).getD j (.d (.v zX))).toI))|true,some .b=>some (i<l.length,vb (((l.getD i []).getD j (.d (.v zX))).toB))|true,some (.f k)=>some (i<l.length,vf k (((l.getD i []).getD j (.d (.v zX))).toF))|true,some .s=>some (i<l.length,vs (((l.getD i []).getD j (.d (.v zX))).toS))|_,_=>none
  | .mrow _ _ _ _=>none
  | .trow _ _ _ _=>none
  |o =>
   match o.cont with
   |some (.frs k E l) =>
    match ag with|true=>(match zB e E,zB j 0,zB sz E with|true,true,true=>some (i<l.length,vblk k E (l.getD i []))|_,_,_=>none)|false=>match zB e E with|true=>some (i<l.length∧j<E,vf k ((l.getD i []).getD j 0))|false=>none
   |some (.floats k l) =>
    match zB e 1,zB j 0 with|true,true=>(match ag with|true=>some (i+sz<=l.length,vblk k sz ((l.drop i).take sz))|false=>some (i<l.length,vf k (l.getD i 0)))|_,_=>none
   |some c =>
    match ag with|true=>if e=c.e∧j+sz<=e then some (i<c.n,.w (.a ((zo sz).map fun m=>C.d (c.cell i (j+m)))))else none|false=>if e=c.e∧j<e then some (i<c.n,.w (.c (.d (c.cell i j))))else none
   |none=>none
 |_,_=>none
def jcR (P:zQ) (t:qI) (cs:List C) (off:Nat):Option V :=match jbF P t,szT P t with|some true,some sz=>if off+sz<=cs.length then some (.w (.a ((cs.drop off).take sz)))else none|some false,some _=>(cs[off]?).map fun c=>.w (.c c)|_,_=>none
def W.cells:W->List C| .c x=>[x]| .a l=>l| .b e x=>(arD e x).map C.d
def jdC (place:Nat->Option (Nat × Nat)) (cells:List C):List (Nat × W)->Option (List C)
 |[]=>some cells
 |(i,v)::rest =>
  match place i with
  |none=>none
  |some (off,size) =>
   if v.cells.length=size∧off+v.cells.length<=cells.length then jdC place (v.cells.zipIdx.foldl (fun cs (c,j)=>cs.set (off+j) c) cells) rest
   else none
def jdT (P:zQ) (fs:List Field):List (Option (Nat × Nat)):=fs.map fun f=>(szT P f.type).map fun s=>(f.offset,s)
def C.one (hp:Hp):C->Bool| .d x=>x.one| .o h=>(match find hp h with|some .dead=>false|some _=>true|none=>false)|_=>true
def W.one (hp:Hp):W->Bool| .c x=>x.one hp| .a _=>true| .b _ _=>true
def jcG (rd:zU->Option V) (hp:Hp):List (Nat × zU)->Option (List (Nat × W))
 |[]=>some []
 |(i,x)::r =>
  match rd x,jcG rd hp r with|some (.w v),some l=>if v.one hp=true then some ((i,v)::l)else none|_,_=>none
def jq7 (P:zQ) (t:qI) (parts:List (Nat × W)):Option (List C) :=
 match jaG P t,P.underlying t with
 |some z,some (.struct fs)=>match(jdT P fs.toList).mapM id with
  |some l=>jdC (fun i=>l[i]?) z parts
  |none=>none
 |some z,some (.array _ elem)=>match szT P elem with|some size=>jdC (fun i=>some (i*size,size)) z parts|none=>none
 |_,_=>none
def jji (rd:zU->Option V) (hp:Hp):List zU->Option (List Nat)
 |[]=>some []
 |x::r =>
  match rd x,jji rd hp r with|some (.w (.c (.p h 0 _ 0))),some l=>(match find hp h with|some (.box _ _)=>some (h::l)|some (.ebox _)=>some (h::l)|_=>none)|_,_=>none
def jjj (rd:zU->Option V):List zU->Option (List (IntKind × Int))
 |[]=>some []
 |x::r =>
  match rd x,jjj rd r with|some v,some l=>(v.int?).map (·:: l)|_,_=>none
def jsL (k:IntKind) (a:Int):List (IntKind × Int)->Option V|[]=>some (vi k a)|(k',b)::r=>if k=k' then jsL k (if b<a then b else a) r else none
def jsM (k:IntKind) (a:Int):List (IntKind × Int)->Option V|[]=>some (vi k a)|(k',b)::r=>if k=k' then jsM k (if b>a then b else a) r else none
def f2i (s:qf) (b:Nat):Int:=((s.decode b).toInt .zero).getD 0
def jcm (s:qf) (k:IntKind) (b:Nat):Bool:=match(s.decode b).toInt .zero with
 |some n=>decide (k.min<=n∧n<=k.max)
 |none=>false
def jsN (b:Nat):Bool:=(xa .f32 b).isNaN
def jv7 (b:Nat):Nat:=FloatKind.encode .f64 (xa .f32 b)
def jAx (P:zQ) (src dst:qI) (v:V):Option (Prop × V) :=
 match P.underlying src,P.underlying dst,v.int?,v.flt? with
 |some (.int _),some (.int k),some (_,n),_=>some (True,vi k (k.wrap n))
 |some (.int _),some (.float k),some (_,n),_=>some (True,vf k (k.nearest n))
 |some (.float _),some (.int k),_,some (s,b) =>
  some (jcm s k b=true,vi k (f2i s b))
 |_,_,_,_=>none
def jgE {α:Type} (f:α->Option Bool):List α->Option Bool|[]=>some true|[a]=>f a|a::r=>match f a,jgE f r with|some b,some c=>some (b&&c)|_,_=>none
def eqV (P:zQ):Nat->qI->V->V->Option Bool
 |0,_,_,_=>none
 |d+1,t,u,v =>
  match P.underlying t,u,v with
  |some (.int _),.w (.c (.d (.i k a))),.w (.c (.d (.i k' b)))=>if k=k' then some (a==b)else none
  |some .bool,.w (.c (.d (.b a))),.w (.c (.d (.b b)))=>some (a==b)
  |some .string,.w (.c (.d (.s a))),.w (.c (.d (.s b)))=>some (a==b)
  |some (.struct fs),.w (.a xs),.w (.a ys)=>match P.stoodInHeld t with
   |false=>jgE (fun f=>match f.name == "_",jcR P f.type xs f.offset,jcR P f.type ys f.offset with
    |false,some a,some b=>eqV P d f.type a b
    |_,_,_=>none) fs.toList
   |true=>none
  |some (.array n elem),.w (.a xs),.w (.a ys)=>match szT P elem with|some sz=>(jgE (fun i=>match jcR P elem xs (i*sz),jcR P elem ys (i*sz)with|some a,some b=>eqV P d elem a b|_,_=>none) (zo n))|none=>none
  |_,_,_=>none
def jjk (P:zQ) (op:Op) (rd:zU->Option V) (hp:Hp):Option (Prop × V) :=
 match op with
 | .move x=>(rd x).map fun v=>(True,v)
 | .assign x=>(rd x).map fun v=>(True,v)
 | .pick c a b =>
  match(rd c).bind V.bool? with
  |some true=>(rd a).map fun v=>(True,v)
  |some false=>(rd b).map fun v=>(True,v)
  |none=>none
 | .binOp op t x y _ =>
  match rd x,rd y with
  |some u,some v =>
   match u.int?,v.int? with
   |some (k,a),some (k',b)=>jl9 op k a k' b
   |_,_ =>
    match u.bool?,v.bool? with
    |some a,some b=>if jsK P t=true then jof op a b else none
    |_,_ =>
     match u.str?,v.str? with
     |some a,some b=>jq4 op a b
     |_,_ =>
      match u.flt?,v.flt? with|some (k,a),some (k',b)=>jq3 op k a k' b|_,_=>match u.agg?,v.agg?,P.eqGuardType P.depth t with|some xs,some ys,false=>(match op with| .eql=>(eqV P 16 t (.w (.a xs)) (.w (.a ys))).map fun b=>(True,vb b)| .neq=>(eqV P 16 t (.w (.a xs)) (.w (.a ys))).map fun b=>(True,vb (!b))|_=>none)|_,_,_=>none
  |_,_=>none
 | .unOp op _ x =>
  match op,rd x with| .not,some v=>(v.bool?).map fun b=>(True,vb (!b))| .neg,some v=>(v.int?).map fun(k,n)=>(True,vi k (k.wrap (0-n)))|_,_=>none
 | .convert src dst x=>(rd x).bind (jAx P src dst)
 | .extract t i =>
  match rd t with|some (.t l)=>(l[i]?).map fun u=>(True,.w u)|_=>none
 | .field t x f =>
  match P.underlying t,(rd x).bind V.agg? with|some (.struct fs),some cs=>(match fs.toList[f]? with|some g=>(jcR P g.type cs g.offset).map fun v=>(True,v)|none=>none)|_,_=>none
 | .index t x i =>
  match(rd x).bind V.str?,P.underlying t,(rd i).bind V.int? with
  |some s,some .string,some (_,i)=>some (0<=i∧i<(s.size:Int),vi .u8 ((s.data.getD i.toNat 0).toNat:Int))
  |some _,_,_=>none
  |none,_,_ =>
  match P.underlying t,(rd x).bind V.agg?,(rd i).bind V.int? with|some (.array len elem),some cs,some (_,n)=>(match szT P elem with|some size=>(match isK i,selW P elem cs (n.toNat*size)with|false,some (p,v)=>some ((0<=n∧n<(len:Int))∧p,v)|_,_=>(jcR P elem cs (n.toNat*size)).map fun v=>(0<=n∧n<(len:Int),v))|none=>none)|_,_,_=>none
 | .nilCheck x =>
  match rd x with|some (.w (.c (.p h i e j)))=>some (True,.w (.c (.p h i e j)))|_=>none
 | .fieldAddr s x f =>
  match P.underlying s,rd x with|some (.struct fs),some (.w (.c (.p h i e j)))=>(match fs.toList[f]? with|some g=>(match szT P g.type with|some (_+1)=>some (True,.w (.c (.p h i e (j+g.offset))))|_=>none)|none=>none)|_,_=>none
 | .indexAddr t x ix =>
  match P.underlying t,rd x,(rd ix).bind V.int? with
  |some (.array len elem),some (.w (.c (.p h i e j))),some (_,n)=>match szT P elem with|some size=>(match isK ix,e with|false,1=>some (0<=n∧n<(len:Int),.w (.c (.p h 0 0 (i*e+j+n.toNat*size))))|_,_=>some (0<=n∧n<(len:Int),.w (.c (.p h i e (j+n.toNat*size)))))|none=>none
  |some (.slice elem),some (.w (.c (.o h))),some (_,n)=>match(find hp h).bind O.cont,szT P elem with
   |some c,some size=>if size=c.e then some (0<=n∧n<(c.n:Int),.w (.c (.p h n.toNat c.e 0)))else none
   |_,_=>none
  |_,_,_=>none
 | .load t x =>
  match rd x with|some (.w (.c (.p h i e j)))=>(match find hp h with|some o=>jq6 P t o i e j|none=>none)|_=>none
 | .build t parts =>
  match jcG rd hp parts.toList with|some l=>(jq7 P t l).map fun cs=>(True,.w (.a cs))|none=>none
 | .makeFunc (.func f) first captured =>
  match first.toList,jji rd hp captured.toList with|[],some hs=>some (True,.w (.c (.fn f hs)))|_,_=>none
 | .call c =>
  match c.callee,c.args.toList,c.argTypes.toList with
  | .builtin .len,[x],[t] =>
   match P.underlying t,rd x with|some (.slice _),some (.w (.c (.o h)))=>((find hp h).bind O.cont).map fun c=>(True,vi .i64 (c.n:Int))|some (.slice _),some v=>if v.nils?=true then some (True,vi .i64 0)else none|some .string,some v=>(v.str?).map fun s=>(True,vi .i64 (s.size:Int))|some (.array n _),some _=>some (True,vi .i64 (n:Int))|_,_=>none
  | .builtin .min,args,_ =>
   match jjj rd args with|some ((k,a)::r)=>(jsL k a r).map fun v=>(True,v)|_=>none
  | .builtin .max,args,_ =>
   match jjj rd args with|some ((k,a)::r)=>(jsM k a r).map fun v=>(True,v)|_=>none
  |_,_,_=>none
 |_=>none
def jv8 (op:ft):Option (Prop × V) :=match op with| .eql | .lss | .leq | .gtr | .geq=>some (True,vb false)| .neq=>some (True,vb true)|_=>none
def jsO (hp:Hp) (u v:V):Bool :=match u.nan? hp,v.nan? hp with|some k,some k'=>jbT k k'|some k,none=>(match v.flt? with|some (k',_)=>jbT k k'|none=>false)|none,some k=>(match u.flt? with|some (k',_)=>jbT k' k|none=>false)|none,none=>false
def jCo:zU->Bool| .const .nilIface=>true| .const (.slice none 0 0)=>true|_=>false
def ja5 (rd:zU->Option V):Option zU->Option (Option Int)
 |none=>some none
 |some x=>match(rd x).bind V.int? with
  |some (_,n)=>some (some n)
  |none=>none
def jj1 [Globs] (P:zQ) (op:Op) (rd:zU->Option V) (hp:Hp):Option (Prop × V) :=
 match op with
 | .binOp op t x y _ =>
  match rd x,rd y with|some u,some v=>(match jsO hp u v with|true=>jv8 op|false=>none)|_,_=>none
 | .index t x i =>
  match rd x with|some (.w (.b E x))=>(match P.underlying t,(rd i).bind V.int? with|some (.array len elem),some (_,i)=>(match szT P elem,zB len E,jbF P elem with|some 1,true,some false=>some (0<=i∧i<(len:Int),.w (.c (.d (x.el i.toNat))))|_,_,_=>none)|_,_=>none)|_=>none
 | .indexAddr t x ix =>
  match P.underlying t,rd x,(rd ix).bind V.int? with
  |some (.slice elem),some (.w (.c (.o h))),some (_,n)=>match(find hp h).bind O.xc,szT P elem with
   |some X,some size=>match zB size X.e with|true=>some (0<=n∧n<(X.n:Int),.w (.c (.p h n.toNat X.e 0)))|false=>none
   |none,some size=>match(find hp h).bind O.hole with
    |some X=>match zB size X.e with|true=>some (0<=n∧n<(X.n:Int),.w (.c (.p h n.toNat X.e 0)))|false=>none
    |none=>none
   |_,_=>none
  |_,_,_=>none
 | .call c =>
  match c.callee,c.args.toList,c.argTypes.toList with
  | .builtin .len,[x],[t] =>
   match P.underlying t,rd x with
   |some (.slice _),some (.w (.c (.o h)))=>match(find hp h).bind O.xc with
    |some X=>some (True,vi .i64 (X.n:Int))
    |none=>none
   |_,_=>none
  |_,_,_=>none
 |_=>none
def jcn [Globs] (P:zQ) (op:Op) (rd:zU->Option V) (hp:Hp):Option (Prop × V) :=match jjk P op rd hp with|some x=>some x|none=>jj1 P op rd hp
section
variable {P:zQ} (w:zs)
def jAy {op:ft} {t:qI} {k k':IntKind} {a b:Int} {ob:Prop} {v:V} (h:jl9 op k a k' b=some (ob,v)) (ho:ob) (I:Env) :
  (binOp op t (.int k a) (.int k' b)).run P w=.ok (v.val I) w∧∀n,v.lt n:=by
 unfold jl9 at h;cases op
 case shl =>
  simp only[zk,qp]at h;obtain⟨rfl,rfl⟩:=h;refine⟨?_,fun n=>trivial⟩;simp only[binOp,Op.shift];rw[if_neg (by omega)];simp[vi,V.val,W.val,C.val,D.val]
 case shr =>
  simp only[zk,qp]at h;obtain⟨rfl,rfl⟩:=h;refine⟨?_,fun n=>trivial⟩;simp only[binOp,Op.shift];rw[if_neg (by omega)];simp[vi,V.val,W.val,C.val,D.val]
 case andNot=>simp at h
 all_goals
  dsimp only at h;split at h
  ·rename_i hk;subst hk;simp only[zk,qp]at h;obtain⟨rfl,rfl⟩:=h;refine⟨?_,fun n=>trivial⟩
   first
    |(simp[binOp,ku,Op.intCmp,vi,vb,V.val,W.val,C.val,D.val];done)
    |(simp[binOp,Op.intDiv,ho,vi,V.val,W.val,C.val,D.val];done)
    |(simp[binOp,Op.intBits,vi,V.val,W.val,C.val,D.val];done)
  ·cases h
def jAz {op:ft} {t:qI} {k k':qf} {a b:Nat} {ob:Prop} {v:V} (h:jq3 op k a k' b=some (ob,v)) (ho:ob) (I:Env) :
  (binOp op t (.float k a) (.float k' b)).run P w=.ok (v.val I) w∧∀n,v.lt n:=by
 unfold jq3 at h;split at h
 ·rename_i hk;subst hk;cases op<;>simp only[zk,qp,reduceCtorEq]at h<;>obtain⟨rfl,rfl⟩:=h<;>refine⟨?_,fun n=>trivial⟩
  case add =>
   obtain⟨q,hq⟩:=jx.1 ho;simp[binOp,j8,hq,vf,V.val,W.val,C.val,D.val]
  case mul =>
   obtain⟨q,hq⟩:=jx.1 ho;simp[binOp,j8,hq,vf,V.val,W.val,C.val,D.val]
  all_goals simp[binOp,kv,vb,V.val,W.val,C.val,D.val]
 ·cases h
def jyx {op:ft} {t:qI} {a b:Bool} {ob:Prop} {v:V} (h:jof op a b=some (ob,v)) (ht:jsK P t=true) (I:Env) :
  (binOp op t (.bool a) (.bool b)).run P w=.ok (v.val I) w∧∀n,v.lt n:=by
 have hu:P.underlying t=some .bool:=by
  unfold jsK at ht;split at ht
  ·assumption
  ·cases ht
 unfold jof at h
 cases op<;>simp only[zk,qp,reduceCtorEq]at h<;>obtain⟨_,rfl⟩:=h<;>refine⟨?_,fun n=>trivial⟩ <;>
  (simp only[binOp];simp[Op.equal,Op.maxDepth,fC w 9999 t a b hu,vb,V.val,W.val,C.val,D.val])
def jAA {op:ft} {t:qI} {a b:ByteArray} {ob:Prop} {v:V} (h:jq4 op a b=some (ob,v)) (I:Env) :
  (binOp op t (.string a) (.string b)).run P w=.ok (v.val I) w∧∀n,v.lt n:=by
 unfold jq4 at h
 cases op<;>simp only[zk,qp,reduceCtorEq]at h<;>obtain⟨_,rfl⟩:=h<;>refine⟨?_,fun n=>trivial⟩ <;>
  simp[binOp,Op.stringOp,vb,V.val,W.val,C.val,D.val,bne,fX]
def jgO {t:qI} {b:Bool} (h:jbF P t=some b):(isAgg t).run P w=.ok b w:=by
 unfold jbF at h;split at h<;>simp_all [isAgg,zR]
def jaV {t:qI} {n:Nat} (h:szT P t=some n):(sizeOf t).run P w=.ok n w:=by
 unfold szT at h;cases hi:P.info? t with
 |none=>simp[hi]at h
 |some i=>simp[hi]at h;simp[sizeOf,yK,hi,h]
def jcr {t:qI} {a:gu} {cs:List zt} (h:jbF P t=some true) (hs:szT P t=some cs.length)
  (hc:∀j v,cs[j]?=some v->w.cell? (a.add j)=some v):(jM t a).run P w=.ok (.agg cs.toArray) w:=by
 simp only[jM,zr,jgO w h,zn,if_true,jaV w hs,run_loadCells_list w a cs hc,zu]
def jaW {t:qI} {a:gu} {v:zt} (h:jbF P t=some false) (hc:w.cell? a=some v):(jM t a).run P w=.ok v w:=by
 simp only[jM,zr,jgO w h,zn,qw,if_false,run_load,hc]
def jaX (b o n:Nat):(⟨b,o,none⟩:gu).add n=⟨b,o+n,none⟩:=by
 unfold fD;split
 ·rename_i h;subst h;rfl
 ·rfl
end
end Go.Sx
end

section
open Go.RowKit
namespace Go.Sx
def jd6 {w:zs} {ty:Nat} {v:zt} {c:Cont} (h:w.ownsRow 0 ty c.e v c.n (c.flat.map D.val)):jaQ w v c:=by
 rcases h.2 with ⟨h1,hn⟩|⟨g,cap,cur,h1,h2,h3,h4,h5,h6,h7⟩
 ·exact⟨none,0,by rw[hn];exact h1,⟨by omega,fun _=>rfl⟩,fun h=>by omega⟩
 ·refine⟨some ⟨g,0,none⟩,cap,h1,⟨h4,fun h=>by cases h⟩,fun _=>⟨g,0,rfl,fun j x hj=>?_⟩⟩;rw[z7,xD w g j cur ty (0,0) h3];have h2:(cur.toList.take (c.n*c.e))[j]?=some x.val:=by rw[h7,zL,hj];rfl
  rw[qc]at h2;split at h2
  ·simpa using h2
  ·cases h2
def jv9 {B:Kd} {w:zs} {g ty:Nat} {v:zt} {x:NC} (h:x.own B w g ty v):x.at B.all w v:=by
 cases x with
 |d x=>exact h
 |r c=>exact⟨jd6 h.1,fun a n cap hv _=>.inr (by rw[h.2 a.block (by rw[hv];rfl)];simp)⟩
def jd7 [Globs] {I:Env} {B:Kd} {w:zs} {h:Nat} {o:O} {X:XC} (hok:o.ok I B w h) (hx:o.xc=some X):∃a cap,I h=.slice a X.n cap∧(X.n<=cap∧(a=none->cap=0)) ∧
  (0<X.n->∃b off,a=some ⟨b,off,none⟩∧∀i j,i<X.n->j<X.e->∃u,w.cell? ⟨b,off+(i*X.e+j),none⟩=some u∧(X.cell i j).at B.all w u):=by
 cases o with
 |xext X' =>
  simp only[O.xc,zk]at hx;subst hx;obtain⟨a,cap,h1,h2,h3⟩:=hok;exact⟨a,cap,h1,h2,fun hn=>let ⟨b,off,h4,_,h6⟩:=h3 hn; ⟨b,off,h4,fun i j hi hj=>let ⟨u,hu,hx⟩:=h6 i j hi hj; ⟨u,hu,NC.at_mono (fun _ h=>.inl h) hx⟩⟩⟩
 |xrow ty X' =>
  simp only[O.xc,zk]at hx;subst hx;obtain⟨us,hr,hi,_⟩:=hok;rcases hr.2 with ⟨h1,hn⟩|⟨g,cap,cur,h1,h2,h3,h4,h5,h6,h7⟩
  ·exact⟨none,0,by rw[hn];exact h1,⟨by omega,fun _=>rfl⟩,fun h=>by omega⟩
  ·refine⟨some ⟨g,0,none⟩,cap,h1,⟨h4,fun h=>by cases h⟩,fun _=>⟨g,0,rfl,fun i j h8 h9=>?_⟩⟩;obtain⟨u,hu,hux⟩:=hi i j h8 h9;refine⟨u,?_,NC.at_mono (fun k h=>.inl (B.sub k h)) hux⟩;rw[z7,xD w g _ cur ty (0,0) h3];have h2:(cur.toList.take (X'.n*X'.e))[i*X'.e+j]?=some u:=by rw[h7,hu]
   rw[qc]at h2;split at h2
   ·simpa using h2
   ·cases h2
 |mrow ty ts X' ho =>
  cases ho with
  |some _=>simp[O.xc]at hx
  |none =>
  simp only[O.xc,zk]at hx;subst hx;obtain⟨us,hr,hi,_⟩:=hok;rcases hr.2 with ⟨h1,hn⟩|⟨g,cap,cur,h1,h2,h3,h4,h5,h6,h7⟩
  ·exact⟨none,0,by rw[hn];exact h1,⟨by omega,fun _=>rfl⟩,fun h=>by omega⟩
  ·refine⟨some ⟨g,0,none⟩,cap,h1,⟨h4,fun h=>by cases h⟩,fun _=>⟨g,0,rfl,fun i j h8 h9=>?_⟩⟩;obtain⟨u,hu,hux⟩:=hi i j h8 h9 (by simp);refine⟨u,?_,jv9 hux⟩;rw[z7,xD w g _ cur ty (0,0) h3];have h2:(cur.toList.take (X'.n*X'.e))[i*X'.e+j]?=some u:=by rw[h7,hu]
   rw[qc]at h2;split at h2
   ·simpa using h2
   ·cases h2
 |trow ty ts X' m =>
  simp only[O.xc,zk]at hx;subst hx;obtain⟨us,hr,hi,_⟩:=hok;rcases hr.2 with ⟨h1,hn⟩|⟨g,cap,cur,h1,h2,h3,h4,h5,h6,h7⟩
  ·exact⟨none,0,by rw[hn];exact h1,⟨by omega,fun _=>rfl⟩,fun h=>by omega⟩
  ·refine⟨some ⟨g,0,none⟩,cap,h1,⟨h4,fun h=>by cases h⟩,fun _=>⟨g,0,rfl,fun i j h8 h9=>?_⟩⟩;obtain⟨u,hu,hux,hua⟩:=hi i j h8 h9;refine⟨u,?_,?_⟩
   ·rw[z7,xD w g _ cur ty (0,0) h3];have h2:(cur.toList.take (X'.n*X'.e))[i*X'.e+j]?=some u:=by rw[h7,hu]
    rw[qc]at h2;split at h2
    ·simpa using h2
    ·cases h2
   ·by_cases hq:i*X'.e+j<m
    ·exact jv9 (hux hq)
    ·exact NC.at_mono (fun _ h=>.inl h) (hua (by omega))
 |_=>simp[O.xc]at hx
def jCp [Globs] {I:Env} {B:Kd} {w:zs} {h:Nat} {o:O} {X:XC} (hok:o.ok I B w h) (hx:o.hole=some X):∃a cap,I h=.slice a X.n cap∧(0<X.n->∃b off,a=some ⟨b,off,none⟩):=by
 cases o with
 |mrow ty ts X' ho =>
  cases ho with
  |none=>simp[O.hole]at hx
  |some _ =>
  simp only[O.hole,zk]at hx;subst hx;obtain⟨us,hr,hi,_⟩:=hok;rcases hr.2 with ⟨h1,hn⟩|⟨g,cap,cur,h1,h2,h3,h4,h5,h6,h7⟩
  ·exact⟨none,0,by rw[hn];exact h1,fun h=>by omega⟩
  ·exact⟨some ⟨g,0,none⟩,cap,h1,fun _=>⟨g,0,rfl⟩⟩
 |_=>simp[O.hole]at hx
def jaH (I:Env) (nx:Nat) (rd:zU->Option V) (a:Act):Prop:=∀x u,rd x=some u->u.lt nx∧a.eval x=u.val I
section
variable [Globs] {P:zQ} {I:Env} {B:Kd} {nx:Nat} {hp:Hp} {w:zs} {rd:zU->Option V} {a:Act}
def V.int?_eq {v:V} {k:IntKind} {n:Int} (h:v.int?=some (k,n)):v=vi k n:=by
 unfold V.int? at h;split at h<;>simp_all [vi]
def V.bool?_eq {v:V} {b:Bool} (h:v.bool?=some b):v=vb b:=by
 unfold V.bool? at h;split at h<;>simp_all [vb]
def V.str?_eq {v:V} {b:ByteArray} (h:v.str?=some b):v=vs b:=by
 unfold V.str? at h;split at h<;>simp_all [vs]
def V.flt?_eq {v:V} {k:qf} {n:Nat} (h:v.flt?=some (k,n)):v=vf k n:=by
 unfold V.flt? at h;split at h<;>simp_all [vf]
def V.agg?_eq {v:V} {l:List C} (h:v.agg?=some l):v=.w (.a l):=by
 unfold V.agg? at h;split at h<;>simp_all
@[simp] theorem vi_val (k:IntKind) (n:Int):(vi k n).val I=.int k n:=rfl
@[simp] theorem vb_val (b:Bool):(vb b).val I=.bool b:=rfl
@[simp] theorem vs_val (b:ByteArray):(vs b).val I=.string b:=rfl
@[simp] theorem vf_val (k:qf) (n:Nat):(vf k n).val I=.float k n:=rfl
@[simp] theorem cell_val (x:C):(V.w (.c x)).val I=x.val I:=rfl
@[simp] theorem agg_val (l:List C):(V.w (.a l)).val I=.agg (l.map (C.val I)).toArray:=rfl
def jd8 {t:qI} {cs:List C} {off:Nat} {v:V} (h:jcR P t cs off=some v) (hl:∀x∈cs,C.lt nx x) :
  (part t (cs.map (C.val I)).toArray off).run P w=.ok (v.val I) w∧v.lt nx:=by
 unfold jcR at h;split at h
 ·rename_i sz ht hs;split at h
  ·rename_i hle;cases h;refine⟨?_,fun x hx=>hl x (jf (yk hx))⟩;simp only[part,zr,jgO w ht,zn,if_true,jaV w hs,zu,agg_val]
   congr 2
   apply qR;simp[List.map_take,List.map_drop,List.take_drop]
  ·cases h
 ·rename_i sz ht hs;cases hc:cs[off]? with
  |none=>simp[hc]at h
  |some c =>
   simp[hc]at h;subst h;refine⟨?_,hl c (xY hc)⟩;simp only[part,zr,jgO w ht,zn,qw,if_false];simp[hc]
 ·cases h
def jma {α:Type} {f:α->Option Bool} {a:α} {r:List α} {b:Bool} (h:jgE f (a::r)=some b):∃x y,f a=some x∧jgE f r=some y∧b=(x&&y):=by
 cases r with
 |nil=>exact⟨b,true,h,rfl,by simp⟩
 |cons c r =>
  simp only[jgE]at h;split at h
  ·rename_i x y hx hy;cases h;exact⟨x,y,hx,hy,rfl⟩
  ·cases h
def joh (e:Nat):∀(d:Nat) (t:qI) (u v:V) (b:Bool),eqV P d t u v=some b->u.lt nx->v.lt nx->(Op.equalIn (d+e) t (u.val I) (v.val I)).run P w=.ok b w
 |0,_,_,_,_,h,_,_=>by cases h
 |d+1,t,u,v,b,h,hu,hv=>by
  have hde:d+1+e=(d+e)+1:=by omega
  rw[hde];unfold eqV at h;split at h
  ·rename_i k0 k a k' a' ht;split at h
   ·rename_i hk;cases h;subst hk;exact run_equalIn_int w (d+e) t k k0 a a' ht
   ·cases h
  ·rename_i a a' ht;cases h;exact fC w (d+e) t a a' ht
  ·rename_i a a' ht;cases h;rw[fX];exact run_equalIn_string w (d+e) t a a' ht
  ·rename_i fs xs ys ht;split at h
   ·rename_i hs;have hf:P.fieldsOf t=fs:=by simp[Program.fieldsOf,ht]
    rw[agg_val,agg_val,run_equalIn_struct w (d+e) t _ _ (by rw[hf];exact ht) hs,hf]
    generalize fs.toList=l at h
    induction l generalizing b with
    |nil=>cases h;rfl
    |cons f r ih =>
     obtain⟨x,y,hx,hy,rfl⟩:=jma h;have ih:=ih y hy;split at hx
     ·rename_i a c hn ha hc;have hpa:=jd8 (I:=I) (w:=w) ha hu;have hpc:=jd8 (I:=I) (w:=w) hc hv;have hrec:=joh e d f.type a c x hx hpa.2 hpc.2;unfold Op.eqFields;have hne:f.name ≠ "_" := by simpa using hn
      rw[if_pos hne];simp only[zr,hpa.1,hpc.1,zn,hrec];cases x
      ·simp
      ·simpa using ih
     ·cases hx
   ·cases h
  ·rename_i n elem xs ys ht;split at h
   ·rename_i sz hsz;simp only[agg_val,Op.equalIn,zr,zR ht,zn,jaV w hsz];simp only[g7,kt];have hl:List.range' 0 ((n-0+1-1)/1) 1=zo n:=by simp[List.range_eq_range']
    rw[hl]
    generalize zo n=l at h
    induction l generalizing b with
    |nil=>cases h;simp
    |cons i r ih =>
     obtain⟨x,y,hx,hy,rfl⟩:=jma h;have ih:=ih y hy;split at hx
     ·rename_i a c ha hc;have hpa:=jd8 (I:=I) (w:=w) ha hu;have hpc:=jd8 (I:=I) (w:=w) hc hv;have hrec:=joh e d elem a c x hx hpa.2 hpc.2;simp only[List.forIn_cons,zr,hpa.1,hpc.1,zn,hrec];cases x
      ·simp
      ·simpa using ih
     ·cases hx
   ·cases h
  ·cases h
def jhK {t:qI} {E:Nat} {x:AR} {ad:gu} (hag:jbF P t=some true) (hsz:szT P t=some E)
  (hc:∀m,m<E->w.cell? (ad.add m)=some (x.el m).val):(jM t ad).run P w=.ok ((W.b E x).val I) w:=by
 refine jcr w hag (by simpa using hsz) ?_;intro m u hm;simp only[arD,xM,zL,zV]at hm;obtain⟨y,hy,rfl⟩:=hm;obtain⟨hlt2,hy3⟩:=zA.1 hy;simp at hlt2 hy3;subst hy3;exact hc _ hlt2
def jhL {t:qI} {k:qf} {E:Nat} {r:List Nat} {ad:gu} (hag:jbF P t=some true) (hsz:szT P t=some E)
  (hc:∀m,m<E->w.cell? (ad.add m)=some (.float k (r.getD m 0))):(jM t ad).run P w=.ok ((vblk k E r).val I) w :=
 jhK (I:=I) (x:=.f k r) hag hsz hc
def jmb {α:Type} {f:α->Bool} {cs:List α} {j:Nat} (h:(cs.map f).getD j false=true):∃x,cs[j]?=some x∧f x=true:=by
 rw[qF,zL]at h;cases hx:cs[j]? with
 |none=>rw[hx]at h;cases h
 |some x=>rw[hx]at h;exact⟨x,rfl,h⟩
def jmc {α U:Type} {f:α->U} {cs:List α} {j:Nat} {x:α} {d:U} (h:cs[j]?=some x):(cs.map f).getD j d=f x:=by
 rw[qF,zL,h];rfl
def jmd {z c:C} {cs:List C} {j:Nat} {p:Prop} (h:selC z cs j=some (p,c)) (hp:p):cs[j]?=some c:=by
 unfold selC at h;split at h
 ·rename_i k _;cases h;obtain⟨x,hx,hk⟩:=jmb hp;unfold ivs;rw[hx,jmc hx];unfold ikC at hk;split at hk
  ·rename_i k' n;have:=of_decide_eq_true hk;subst this;rfl
  ·cases hk
 ·cases h;obtain⟨x,hx,hk⟩:=jmb hp;unfold bvs;rw[hx,jmc hx];unfold bkC at hk;split at hk
  ·rfl
  ·cases hk
 ·cases h;obtain⟨x,hx,hk⟩:=jmb hp;unfold svs;rw[hx,jmc hx];unfold skC at hk;split at hk
  ·rfl
  ·cases hk
 ·cases h
def jq8 {cs:List C}:∀{z l:List C} {j:Nat} {p:Prop},jq5 cs z j=some (p,l)->p->l.length=z.length∧∀m,m<z.length->cs[j+m]?=l[m]?
 |[],l,j,p,h,hp=>by
  simp only[jq5,zk,qp]at h;obtain⟨_,rfl⟩:=h;exact⟨rfl,fun m hm=>absurd hm (Nat.not_lt_zero _)⟩
 |z::r,l,j,p,h,hp=>by
  simp only[jq5]at h;split at h
  ·rename_i p1 c hc;split at h
   ·cases h;refine⟨rfl,fun m hm=>?_⟩;have:m=0:=by simp only[zC,List.length_nil]at hm;omega
    subst this;rw[xq,jmd hc hp];rfl
   ·split at h
    ·rename_i q l' hl;cases h;have ih:=jq8 hl hp.2;refine⟨by simp only[zC,ih.1],fun m hm=>?_⟩;cases m with
     |zero=>rw[xq,jmd hc hp.1];rfl
     |succ m =>
      have:=ih.2 m (by simpa using hm);rw[Nat.add_right_comm,xy]at this;rw[this];rfl
    ·cases h
  ·cases h
def jum {t:qI} {cs:List C} {j:Nat} {p:Prop} {v:V} (h:selW P t cs j=some (p,v)) (hp:p):jcR P t cs j=some v:=by
 unfold selW at h;unfold jcR;split at h
 ·rename_i z ha hs hz;split at h
  ·rename_i q c hc;cases h;rw[ha,hs];simp only[jmd hc hp];rfl
  ·cases h
 ·rename_i sz z ha hs hz;split at h
  ·rename_i e1 e2;have e1:=zj e1;have e2:=zh e2;split at h
   ·rename_i q l hl;cases h;obtain⟨h1,h2⟩:=jq8 hl hp;rw[ha,hs]
    have hle:j+sz<=cs.length:=by
     have h3:=h2 (sz-1) (by omega)
     have h4:l[sz-1]?≠none:=fun e=>by
      have:=gv.1 e;omega
     rw[<-h3]at h4;have h5:¬cs.length<=j+(sz-1):=fun e=>h4 (gv.2 e);omega
    have hl:(cs.drop j).take sz=l:=by
     apply xn;intro m
     by_cases hm:m<sz
     ·rw[List.getElem?_take_of_lt hm,yh,h2 m (by omega)]
     ·rw[zW (by rw[qW];omega),zW (by omega)]
    simp only[hle,if_true,hl]
   ·cases h
  ·cases h
 ·cases h
def jAB {t:qI} {cs:List C} {i e j:Nat} {p:Prop} {v:V} (h:jog P t cs e j=some (p,v)) (hp:p):jcR P t cs (i*e+j)=some v:=by
 unfold jog at h;split at h
 ·split at h
  ·rename_i x hx;cases h;rw[Nat.mul_zero,z7];exact jum hx hp
  ·cases h
 ·cases h
def jun {t:qI} {h i e j:Nat} {o:O} {ob:Prop} {v:V} (hh:HRel I B hp nx w) (hf:find hp h=some o)
  (hv:jq6 P t o i e j=some (ob,v)) (ho:ob) :
  (jM t ⟨(base (I h)).block,(base (I h)).off+(i*e+j),none⟩).run P w=.ok (v.val I) w∧v.lt nx:=by
 obtain⟨hlt,hol,hok⟩:=hh.ok h o hf
 have key:∀c:Cont,o.cont=some c->jaQ w (I h) c∨(∃g cap cur ty,I h=.slice (some ⟨g,0,none⟩) c.n cap∧w.heap[g]?=some (.cells cur ty (0,0))∧cur.toList.take (c.n*c.e)=c.flat.map D.val)∨c.n=0:=by
  intro c hc;cases o with
  |ext c'=>simp[O.cont]at hc;subst hc;exact .inl hok.1
  |view r c' _=>simp[O.cont]at hc;subst hc;exact .inl hok.1
  |sub _ _ _ _ _ c'=>simp[O.cont]at hc;subst hc;exact .inl (jd6 hok.1)
  |fext c'=>simp[O.cont]at hc;subst hc;exact .inl hok.1
  |row ty c' =>
   simp[O.cont]at hc;subst hc;rcases hok.1.2 with ⟨_,hn⟩|⟨g,cap,cur,h1,h2,h3,h4,h5,h6,h7⟩
   ·exact .inr (.inr hn)
   ·exact .inr (.inl ⟨g,cap,cur,ty,h1,h3,h7⟩)
  |_=>simp[O.cont]at hc
 have cellsA:∀c:Cont,o.cont=some c->∀i,i<c.n->∀m,m<c.e->w.cell? ⟨(base (I h)).block,(base (I h)).off+(i*c.e+m),none⟩=some (c.cell i m).val:=by
  intro c hc i hi m hm;have hg:=c.flat_get hi hm;rcases key c hc with ⟨a',cap,hs,_,hx⟩|⟨g,cap,cur,ty,hs,hheap,htk⟩|hn
  ·obtain⟨b,off,rfl,hx'⟩:=hx (by omega);rw[hs];exact hx' _ _ hg
  ·rw[hs];simp only[base,z7];rw[xD w g _ cur ty (0,0) hheap];have h2:(cur.toList.take (c.n*c.e))[i*c.e+m]?=some (c.cell i m).val:=by rw[htk,zL,hg];rfl
   rw[qc]at h2;split at h2
   ·simpa using h2
   ·cases h2
  ·omega
 have cells:=fun c hc=>cellsA c hc i
 have boxy:∀(cs:List C) (ag:Bool) (sz:Nat),jbF P t=some ag->szT P t=some sz->(∀x∈cs,C.lt nx x) -> (∀m c,cs[m]?=some c->w.cell? ⟨(base (I h)).block,(base (I h)).off+m,none⟩=some (c.val I)) -> (match ag with|true=>if i*e+j+sz<=cs.length then some (True,V.w (.a ((cs.drop (i*e+j)).take sz)))else none|false=>(cs[i*e+j]?).map fun c=>(True,V.w (.c c)))=some (True,v) ->
   (jM t ⟨(base (I h)).block,(base (I h)).off+(i*e+j),none⟩).run P w=.ok (v.val I) w∧v.lt nx:=by
  intro cs ag sz hag hsz hol hcell hv;split at hv
  ·split at hv
   ·rename_i hle;cases hv;refine⟨?_,fun x hx=>hol x (jf (yk hx))⟩;have hlen:(((cs.drop (i*e+j)).take sz).map (C.val I)).length=sz:=by simp;omega
    refine jcr w hag (by rw[hlen];exact hsz) ?_;intro m u hm;rw[jaX,xy];rw[zL,qc]at hm;split at hm
    ·rw[yh]at hm;obtain⟨c,hc,rfl⟩:=zV.1 hm;exact hcell _ _ hc
    ·cases hm
   ·cases hv
  ·cases hc:cs[i*e+j]? with
   |none=>simp[hc]at hv
   |some c =>
    simp[hc]at hv;obtain⟨_,rfl⟩:=hv;exact⟨jaW w hag (hcell _ _ hc),hol c (xY hc)⟩
 have boxSel:∀{cs:List C} {ag:Bool} {sz:Nat},jbF P t=some ag->szT P t=some sz -> (match jog P t cs e j with|some x=>some x|none=>match ag with|true=>if i*e+j+sz<=cs.length then some (True,V.w (.a ((cs.drop (i*e+j)).take sz)))else none|false=>(cs[i*e+j]?).map fun c=>(True,V.w (.c c)))=some (ob,v)->ob ->
   (match ag with
     |true=>if i*e+j+sz<=cs.length then some (True,V.w (.a ((cs.drop (i*e+j)).take sz)))else none
     |false=>(cs[i*e+j]?).map fun c=>(True,V.w (.c c)))=some (True,v):=by
  intro cs ag sz hag hsz hv ho;split at hv
  ·rename_i x hx;cases hv;have hpw:=jAB (i:=i) hx ho;unfold jcR at hpw;rw[hag,hsz]at hpw;cases ag with
   |true =>
    dsimp only at hpw ⊢;split at hpw
    ·rename_i hle;cases hpw;rw[if_pos hle]
    ·cases hpw
   |false =>
    dsimp only at hpw ⊢;cases hc:cs[i*e+j]? with
    |none=>rw[hc]at hpw;cases hpw
    |some c=>rw[hc]at hpw;cases hpw;rfl
  ·cases ag with
   |true =>
    dsimp only at hv ⊢;split at hv
    ·rename_i hle;cases hv;rw[if_pos hle]
    ·cases hv
   |false =>
    dsimp only at hv ⊢;cases hc:cs[i*e+j]? with
    |none=>rw[hc]at hv;cases hv
    |some c=>rw[hc]at hv;cases hv;rfl
 unfold jq6 at hv;split at hv
 ·rename_i ag sz hag hsz;split at hv
  ·-- a box
   rename_i ty cs;obtain⟨k,h1,_,h3⟩:=hok;refine boxy cs ag sz hag hsz hol ?_ (boxSel hag hsz hv ho);intro m c hc;rw[h1];simp only[base,z7];rw[xD w k _ _ ty (0,0) h3];simp[hc]
  ·-- a box that came in
   rename_i cs;obtain⟨k,o,h1,_,h3⟩:=hok;refine boxy cs ag sz hag hsz hol ?_ (boxSel hag hsz hv ho);intro m c hc;rw[h1];exact h3 m c hc
  ·-- an array of floats
   rename_i ty E x;obtain⟨g,h1,_,h3⟩:=hok
   have hcell:∀m,m<E->w.cell? ⟨(base (I h)).block,(base (I h)).off+m,none⟩=some (x.el m).val:=by
    intro m hm;rw[h1];simp only[base,z7];rw[xD w g _ _ ty (0,0) h3];simp[arD,hm]
   split at hv
   ·split at hv
    ·rename_i e1 e2;cases hv;have e1:=zj e1;have e2:=zj e2;subst e1;rw[e2];refine⟨jhK (I:=I) hag hsz fun m hm=>?_,trivial⟩;rw[jaX,xq];exact hcell m hm
    ·cases hv
   ·cases hv;exact⟨jaW w hag (hcell _ ho),trivial⟩
  ·-- a content with lists within
   rename_i sh l;obtain⟨a',cap,hs,_,hx⟩:=jd7 hok rfl;split at hv
   ·cases hv
   ·rename_i hagf
    have gen:∀(x:D) (kk:NK),zB e sh.length=true->sh[j]?=some kk->i<l.length->(kk.norm ((l.getD i []).getD j (.d (.v zX))))=.d x ->
      (jM t ⟨(base (I h)).block,(base (I h)).off+(i*e+j),none⟩).run P w=.ok x.val w:=by
     intro x kk he hj hi hn;have he:=zj he;subst he;have hjl:j<sh.length:=(zA.1 hj).1;obtain⟨b,off,rfl,hcell⟩:=hx (show 0<(XC.st sh l).n from yW (xh _) hi);obtain⟨u,hu,hux⟩:=hcell i j hi hjl;rw[hs]
     have hk:(XC.cell (.st sh l) i j)=.d x:=by
      simp only[XC.cell,qF,hj,z6];simpa [qF]using hn
     rw[hk]at hux;have hux:u=x.val:=hux;subst hux;exact jaW w hag hu
    split at hv
    ·rename_i e1 e2;cases hv;exact⟨gen _ _ e1 e2 ho rfl,trivial⟩
    ·rename_i e1 e2;cases hv;exact⟨gen _ _ e1 e2 ho rfl,trivial⟩
    ·rename_i e1 e2;cases hv;exact⟨gen _ _ e1 e2 ho rfl,trivial⟩
    ·rename_i e1 e2;cases hv;exact⟨gen _ _ e1 e2 ho rfl,trivial⟩
    ·cases hv
  ·cases hv
  ·-- an own one
   rename_i ty sh l;obtain⟨a',cap,hs,_,hx⟩:=jd7 hok rfl;split at hv
   ·cases hv
   ·rename_i hagf
    have gen:∀(x:D) (kk:NK),zB e sh.length=true->sh[j]?=some kk->i<l.length->(kk.norm ((l.getD i []).getD j (.d (.v zX))))=.d x ->
      (jM t ⟨(base (I h)).block,(base (I h)).off+(i*e+j),none⟩).run P w=.ok x.val w:=by
     intro x kk he hj hi hn;have he:=zj he;subst he;have hjl:j<sh.length:=(zA.1 hj).1;obtain⟨b,off,rfl,hcell⟩:=hx (show 0<(XC.st sh l).n from yW (xh _) hi);obtain⟨u,hu,hux⟩:=hcell i j hi hjl;rw[hs]
     have hk:(XC.cell (.st sh l) i j)=.d x:=by
      simp only[XC.cell,qF,hj,z6];simpa [qF]using hn
     rw[hk]at hux;have hux:u=x.val:=hux;subst hux;exact jaW w hag hu
    split at hv
    ·rename_i e1 e2;cases hv;exact⟨gen _ _ e1 e2 ho rfl,trivial⟩
    ·rename_i e1 e2;cases hv;exact⟨gen _ _ e1 e2 ho rfl,trivial⟩
    ·rename_i e1 e2;cases hv;exact⟨gen _ _ e1 e2 ho rfl,trivial⟩
    ·rename_i e1 e2;cases hv;exact⟨gen _ _ e1 e2 ho rfl,trivial⟩
    ·cases hv
  ·cases hv
  ·-- an own one with rows of its own
   rename_i ty ts sh l;obtain⟨a',cap,hs,_,hx⟩:=jd7 hok rfl;split at hv
   ·cases hv
   ·rename_i hagf
    have gen:∀(x:D) (kk:NK),zB e sh.length=true->sh[j]?=some kk->i<l.length->(kk.norm ((l.getD i []).getD j (.d (.v zX))))=.d x ->
      (jM t ⟨(base (I h)).block,(base (I h)).off+(i*e+j),none⟩).run P w=.ok x.val w:=by
     intro x kk he hj hi hn;have he:=zj he;subst he;have hjl:j<sh.length:=(zA.1 hj).1;obtain⟨b,off,rfl,hcell⟩:=hx (show 0<(XC.st sh l).n from yW (xh _) hi);obtain⟨u,hu,hux⟩:=hcell i j hi hjl;rw[hs]
     have hk:(XC.cell (.st sh l) i j)=.d x:=by
      simp only[XC.cell,qF,hj,z6];simpa [qF]using hn
     rw[hk]at hux;have hux:u=x.val:=hux;subst hux;exact jaW w hag hu
    split at hv
    ·rename_i e1 e2;cases hv;exact⟨gen _ _ e1 e2 ho rfl,trivial⟩
    ·rename_i e1 e2;cases hv;exact⟨gen _ _ e1 e2 ho rfl,trivial⟩
    ·rename_i e1 e2;cases hv;exact⟨gen _ _ e1 e2 ho rfl,trivial⟩
    ·rename_i e1 e2;cases hv;exact⟨gen _ _ e1 e2 ho rfl,trivial⟩
    ·cases hv
  ·cases hv
  ·cases hv
  ·-- a row
   split at hv
   ·-- of arrays of floats
    rename_i k E l hc;split at hv
    ·split at hv
     ·rename_i e1 e2 e3;cases hv;have e1:=zj e1;have e2:=zj e2;have e3:=zj e3;subst e1 e2 e3;refine⟨jhL hag hsz fun m hm=>?_,trivial⟩;rw[jaX,xy,xq];exact cells _ hc ho m hm
     ·cases hv
    ·split at hv
     ·rename_i e1;cases hv;have e1:=zj e1;subst e1;exact⟨jaW w hag (cells _ hc ho.1 j ho.2),trivial⟩
     ·cases hv
   ·-- of floats
    rename_i k l hc;split at hv
    ·rename_i e1 e2;have e1:=zj e1;have e2:=zj e2;subst e1 e2;split at hv
     ·cases hv;refine⟨jhL hag hsz fun m hm=>?_,trivial⟩;have:=cellsA _ hc (i+m) (show i+m<l.length by omega) 0 (by simp[Cont.e]);simp only[Cont.e,yU,xq,Cont.cell]at this;rw[jaX,yU,xq,xy,this];simp only[D.val,qF,qc,yh,if_pos hm]
     ·cases hv;exact⟨jaW w hag (cells _ hc ho 0 (by simp[Cont.e])),trivial⟩
    ·cases hv
   ·rename_i c _ _ hc;split at hv
    ·split at hv
     ·rename_i he;obtain⟨rfl,hle⟩:=he;cases hv;refine⟨?_,fun x hx=>by obtain⟨_,_,rfl⟩:=qm.1 hx;trivial⟩;refine jcr w hag (by simpa using hsz) ?_;intro m u hm;simp only[zL,zV]at hm;obtain⟨x,⟨y,hy,rfl⟩,rfl⟩:=hm;have hy2:=zA.1 hy;obtain⟨hlt2,hy3⟩:=hy2;simp at hlt2 hy3;subst hy3;rw[jaX,xy,xy];exact cells c hc ho (j+m) (by omega)
     ·cases hv
    ·split at hv
     ·rename_i he;obtain⟨rfl,hle⟩:=he;cases hv;exact⟨jaW w hag (cells c hc ho j hle),trivial⟩
     ·cases hv
   ·cases hv
 ·cases hv
def jwa (I:Env) (off:Nat):∀(vs:List C) (n:Nat) (cs:List C),
  (((vs.zipIdx n).foldl (fun cs (c,j)=>cs.set (off+j) c) cs).map (C.val I)).toArray =
   (((vs.map (C.val I)).zipIdx n).foldl (fun(cs:Array zt) (c,j)=>cs.setIfInBounds (off+j) c) (cs.map (C.val I)).toArray)
 |[],_,_=>rfl
 |v::vs,n,cs=>by
  simp only[jY,gd,zJ];rw[jwa I off vs (n+1) (cs.set (off+n) v)]
  congr 1
  apply qR;simp[List.map_set]
def jCq {a:Option gu} {n c:Nat}:(qd a n c).oneCell'=true:=rfl
def C.one_val {c:C} (hh:HRel I B hp nx w) (h:c.one hp=true):(c.val I).oneCell'=true:=by
 cases c with
 |d x=>exact D.one_val h
 |p=>rfl
 |fn=>rfl
 |g=>rfl
 |o k =>
  simp only[C.one]at h;simp only[C.val];cases hf:find hp k with
  |none=>simp[hf]at h
  |some o =>
   have hok:=(hh.ok k o hf).2.2;cases o with
   |dead=>simp[hf]at h
   |err=>obtain⟨t,p,h1⟩:=hok;rw[h1];rfl
   |atom=>exact hok
   |box ty cs=>obtain⟨g,h1,_⟩:=hok;rw[h1];rfl
   |row ty c =>
    rcases hok.1.2 with ⟨h1,_⟩|⟨g,cap,cur,h1,_⟩<;>rw[h1]<;>rfl
   |ext c=>obtain⟨⟨_,_,h1,_⟩,_⟩:=hok;rw[h1];rfl
   |view r c _=>obtain⟨⟨_,_,h1,_⟩,_⟩:=hok;rw[h1];rfl
   |nan k=>obtain⟨_,h1,_⟩:=hok;rw[h1];rfl
   |ebox cs=>obtain⟨_,_,h1,_⟩:=hok;rw[h1];rfl
   |arr _ _ _=>obtain⟨_,h1,_⟩:=hok;rw[h1];rfl
   |xext X=>obtain⟨_,_,h1,_⟩:=hok;rw[h1];rfl
   |sub _ _ _ _ _ c=>obtain⟨_,_,h1,_⟩:=jd6 hok.1;rw[h1];rfl
   |mrow ty ts X ho =>
    obtain⟨us,hr,_⟩:=hok;rcases hr.2 with ⟨h1,_⟩|⟨g,cap,cur,h1,_⟩<;>rw[h1]<;>rfl
   |trow ty ts X m =>
    obtain⟨us,hr,_⟩:=hok;rcases hr.2 with ⟨h1,_⟩|⟨g,cap,cur,h1,_⟩<;>rw[h1]<;>rfl
   |fext c=>obtain⟨⟨_,_,h1,_⟩,_⟩:=hok;rw[h1];rfl
   |xrow ty X=>obtain⟨a,cap,h1,_⟩:=jd7 (X:=X) hok rfl;rw[h1];rfl
def jwb {v:zt} (h:v.oneCell'=true):v.cells=#[v]:=by cases v<;>first|rfl|simp[Value.oneCell']at h
def W.cells_val {x:W} (hh:HRel I B hp nx w) (h:x.one hp=true):(x.val I).cells=(x.cells.map (C.val I)).toArray:=by
 cases x with
 |c c=>simp only[W.val,W.cells,zJ,List.map_nil];exact jwb (C.one_val hh h)
 |a l=>rfl
 |b e x=>simp only[W.val,W.cells,xM];rfl
def W.cells_lt {x:W} {n:Nat} (h:x.lt n):∀c∈x.cells,C.lt n c:=by
 cases x with
 |c c=>intro d hd;simp only[W.cells,zZ]at hd;subst hd;exact h
 |a l=>exact h
 |b e x=>intro c hc;obtain⟨_,_,rfl⟩:=qm.1 hc;trivial
def jo4 {n:Nat} (off:Nat):∀(vs:List C) (m:Nat) (cs:List C),(∀c∈vs,C.lt n c)->(∀c∈cs,C.lt n c) -> (∀c∈(vs.zipIdx m).foldl (fun cs (c,j)=>cs.set (off+j) c) cs,C.lt n c)∧((vs.zipIdx m).foldl (fun cs (c,j)=>cs.set (off+j) c) cs).length=cs.length
 |[],_,cs,_,h=>⟨h,rfl⟩
 |v::vs,m,cs,hv,h=>by
  simp only[jY,gd]
  have:=jo4 off vs (m+1) (cs.set (off+m) v) (fun c hc=>hv c (zw _ hc)) (fun c hc=>by
   rcases List.mem_or_eq_of_mem_set hc with h1|h1
   ·exact h c h1
   ·subst h1;exact hv _ zy)
  exact⟨this.1,by rw[this.2];simp⟩
def jd9 (place:Nat->Option (Nat × Nat)) (hh:HRel I B hp nx w):∀(parts:List (Nat × W)) (cells out:List C),jdC place cells parts=some out -> (∀x∈parts,x.2.one hp=true∧x.2.lt nx)->(∀c∈cells,C.lt nx c) -> fv place (cells.map (C.val I)).toArray (parts.map fun x=>(x.1,x.2.val I))=some (out.map (C.val I)).toArray∧(∀c∈out,C.lt nx c)∧out.length=cells.length
 |[],cells,out,h,_,hc=>by
  simp only[jdC,zk]at h;subst h;exact⟨rfl,hc,rfl⟩
 |(i,v)::rest,cells,out,h,hp',hc=>by
  simp only[jdC]at h;have hv:=hp' (i,v) zy;have hcv:=W.cells_val (x:=v) hh hv.1;cases hpl:place i with
  |none=>simp[hpl]at h
  |some p =>
   obtain⟨off,size⟩:=p;simp only[hpl]at h;split at h
   ·rename_i hle;have hf:=jo4 (n:=nx) off v.cells 0 cells (W.cells_lt hv.2) hc;have ih:=jd9 place hh rest _ out h (fun x hx=>hp' x (zw _ hx)) hf.1;refine⟨?_,ih.2.1,by rw[ih.2.2,hf.2]⟩;simp only[zJ,fv,hpl];have hs:(v.val I).cells.size=v.cells.length:=by rw[hcv];simp
    rw[hs,if_neg (by simp[hle.1];omega)];rw[<-ih.1]
    congr 1
    rw[hcv,jwa,<-Array.foldl_toList]
    congr 1
    simp
   ·cases h
def jdL (hr:jaH I nx rd a):∀(ps:List (Nat × zU)) (l:List (Nat × W)),jcG rd hp ps=some l -> ps.map (fun x=>(x.1,a.eval x.2))=l.map (fun x=>(x.1,x.2.val I))∧∀x∈l,x.2.one hp=true∧x.2.lt nx
 |[],l,h=>by simp only[jcG,zk]at h;subst h;exact⟨rfl,fun _ h=>by cases h⟩
 |(i,x)::r,l,h=>by
  simp only[jcG]at h;split at h
  ·rename_i v l' hx hl;split at h
   ·rename_i hone;cases h;have ih:=jdL hr r l' hl;have h1:=hr x _ hx;refine⟨by simp only[zJ,ih.1,h1.2,V.val],fun y hy=>?_⟩;rcases qu.1 hy with rfl|hy
    ·exact⟨hone,h1.1⟩
    ·exact ih.2 y hy
   ·cases h
  ·cases h
def ja3 {t:qI} {z:List C} (h:jaG P t=some z):∃v,(yo t).run P w=.ok v w∧v.cells=(z.map (C.val I)).toArray∧∀n,∀c∈z,C.lt n c:=by
 unfold jaG at h;cases hi:P.info? t with
 |none=>simp[hi]at h
 |some i =>
  cases hz:i.zero with
  |none=>simp[hi,hz]at h
  |some v =>
   simp[hi,hz]at h;subst h;refine⟨v,by simp[yo,yK,hi,hz],?_,fun n c hc=>?_⟩
   ·apply qR;simp[xI,jjZ]
   ·obtain⟨y,_,rfl⟩:=qm.1 hc;exact jl8 n y
def jq9:∀(fs:List Field) (l:List (Nat × Nat)),(jdT P fs).mapM id=some l -> (fs.mapM (m:=Sem) fun f=>do pure (f.offset,<-sizeOf f.type)).run P w=.ok l w
 |[],l,h=>by simp[jdT]at h;subst h;simp
 |f::fs,l,h=>by
  simp only[jdT,zJ,g8,id]at h;cases hs:szT P f.type with
  |none=>simp[hs]at h
  |some s =>
   cases hm:(jdT P fs).mapM id with
   |none=>simp only[jdT]at hm;simp[hs,hm]at h
   |some l' =>
    have ih:=jq9 fs l' hm;simp only[jdT]at hm;simp[hs,hm]at h;subst h;simp only[g8,zr,jaV w hs,zn,zu,ih]
def jCr {t:qI} {parts:List (Nat × W)} {out:List C} (hh:HRel I B hp nx w) (h:jq7 P t parts=some out) (hp':∀x∈parts,x.2.one hp=true∧x.2.lt nx) :
  (fP t (parts.map fun x=>(x.1,x.2.val I)).toArray).run P w=.ok (.agg (out.map (C.val I)).toArray) w∧∀c∈out,C.lt nx c:=by
 unfold jq7 at h;split at h
 ·rename_i z fs hz hu;obtain⟨v,hv,hvc,hlt⟩:=ja3 (P:=P) (w:=w) (I:=I) hz;split at h
  ·rename_i l hl;have hf:=jd9 (I:=I) _ hh parts z out h hp' (hlt nx);refine⟨?_,hf.2.1⟩;have hpl:=jq9 (P:=P) (w:=w) fs.toList l hl;simp only[fP,zr,hv,zn,zR hu,hvc,Array.mapM_eq_mapM_toList,Sem.run_map,hpl];simp only[List.getElem?_toArray,hf.1,zu]
  ·cases h
 ·rename_i z n elem hz hu;obtain⟨v,hv,hvc,hlt⟩:=ja3 (P:=P) (w:=w) (I:=I) hz;split at h
  ·rename_i size hs;have hf:=jd9 (I:=I) _ hh parts z out h hp' (hlt nx);refine⟨?_,hf.2.1⟩;simp only[fP,zr,hv,zn,zu,zR hu,hvc,jaV w hs,hf.1]
  ·cases h
 ·cases h
def jin (hh:HRel I B hp nx w) (hr:jaH I nx rd a):∀(xs:List zU) (l:List Nat),jji rd hp xs=some l->xs.map a.eval=l.map I∧∀h∈l,h<nx
 |[],l,h=>by simp only[jji,zk]at h;subst h;exact⟨rfl,fun _ h=>by cases h⟩
 |x::r,l,h=>by
  simp only[jji]at h;split at h
  ·rename_i k e l' hx hl;split at h
   ·rename_i ty cs hf;cases h;have ih:=jin hh hr r l' hl;have h1:=(hr x _ hx).2;obtain⟨hlt,_,g,hk,_⟩:=hh.ok k _ hf;refine⟨?_,fun y hy=>?_⟩
    ·simp only[zJ,ih.1,h1];simp only[cell_val,C.val,hk,base,xV,xq]
    ·rcases qu.1 hy with rfl|hy
     ·exact hlt
     ·exact ih.2 y hy
   ·rename_i cs hf;cases h;have ih:=jin hh hr r l' hl;have h1:=(hr x _ hx).2;obtain⟨hlt,_,g,o,hk,_⟩:=hh.ok k _ hf;refine⟨?_,fun y hy=>?_⟩
    ·simp only[zJ,ih.1,h1];simp only[cell_val,C.val,hk,base,xV,xq]
    ·rcases qu.1 hy with rfl|hy
     ·exact hlt
     ·exact ih.2 y hy
   ·cases h
  ·cases h
def jj2 (hr:jaH I nx rd a):∀(xs:List zU) (l:List (IntKind × Int)),jjj rd xs=some l->xs.map a.eval=l.map fun x=>.int x.1 x.2
 |[],l,h=>by simp only[jjj,zk]at h;subst h;rfl
 |x::r,l,h=>by
  simp only[jjj]at h;split at h
  ·rename_i v l' hx hl;cases hv:v.int? with
   |none=>simp[hv]at h
   |some p =>
    obtain⟨k,n⟩:=p;simp[hv]at h;subst h;have h1:=(hr x _ hx).2;rw[V.int?_eq hv]at h1;simp only[zJ,jj2 hr r l' hl,h1,vi_val]
  ·cases h
def jwc:∀(l:List (IntKind × Int)) (k:IntKind) (n:Int) (v:V),jsL k n l=some v -> ((l.map fun x=>xS x.1 x.2).foldlM kl (.int k n)).run P w=.ok (v.val I) w∧∀m,v.lt m
 |[],k,n,v,h=>by simp only[jsL,zk]at h;subst h;exact⟨rfl,fun _=>trivial⟩
 |(k',b)::r,k,n,v,h=>by
  simp only[jsL]at h;split at h
  ·rename_i hk;subst hk;have ih:=jwc r k _ v h;refine⟨?_,ih.2⟩;simp only[zJ,fJ,kl,zr,zu,zn];exact ih.1
  ·cases h
def jwd:∀(l:List (IntKind × Int)) (k:IntKind) (n:Int) (v:V),jsM k n l=some v -> ((l.map fun x=>xS x.1 x.2).foldlM km (.int k n)).run P w=.ok (v.val I) w∧∀m,v.lt m
 |[],k,n,v,h=>by simp only[jsM,zk]at h;subst h;exact⟨rfl,fun _=>trivial⟩
 |(k',b)::r,k,n,v,h=>by
  simp only[jsM]at h;split at h
  ·rename_i hk;subst hk;have ih:=jwd r k _ v h;refine⟨?_,ih.2⟩;simp only[zJ,fJ,km,zr,zu,zn];exact ih.1
  ·cases h
def jCs {src dst:qI} {v:V} {ob:Prop} {u:V} (h:jAx P src dst v=some (ob,u)) (ho:ob) :
  (convert src dst (v.val I)).run P w=.ok (u.val I) w∧∀n,u.lt n:=by
 unfold jAx at h;split at h
 ·rename_i hs hd hv;cases h;rw[V.int?_eq hv];refine⟨?_,fun _=>trivial⟩;simp[convert,zR hs,zR hd,Conv.intToInt]
 ·rename_i hs hd hv;cases h;rw[V.int?_eq hv];refine⟨?_,fun _=>trivial⟩;simp[convert,zR hs,zR hd,Conv.intToFloat]
 ·rename_i s b hs hd hv;cases h;rw[V.flt?_eq hv];refine⟨?_,fun _=>trivial⟩;simp only[vf_val,convert,zr,zR hs,zR hd,zn,Conv.floatToInt];unfold jcm at ho;split at ho
  ·rename_i n hi;have ho:=of_decide_eq_true ho;simp[hi,ho,f2i]
  ·cases ho
 ·cases h
def jAC {o:qx} {ob:Prop} {v:V} (hh:HRel I B hp nx w) (hr:jaH I nx rd a) (h:jjk P o.op rd hp=some (ob,v)) (ho:ob) :
  (qS a.eval o).run P w=.ok (.value (v.val I)) w∧v.lt nx:=by
 unfold jjk at h;unfold qS;split at h<;>rename_i hop<;>simp only[hop]
 ·-- move
  rename_i x;cases hx:rd x with
  |none=>simp[hx]at h
  |some u=>simp[hx]at h;obtain⟨_,rfl⟩:=h;have:=hr _ _ hx;simp[this]
 ·rename_i x;cases hx:rd x with
  |none=>simp[hx]at h
  |some u=>simp[hx]at h;obtain⟨_,rfl⟩:=h;have:=hr _ _ hx;simp[this]
 ·-- pick
  rename_i c x y;cases hc:rd c with
  |none=>simp[hc]at h
  |some cv =>
   cases hb:cv.bool? with
   |none=>simp[hc,hb]at h
   |some b =>
    have h1:=hr _ _ hc;rw[V.bool?_eq hb]at h1;cases b
    ·simp only[hc,hb,zP]at h;cases hx:rd y with
     |none=>simp[hx]at h
     |some u=>simp[hx]at h;obtain⟨_,rfl⟩:=h;have:=hr _ _ hx;simp[h1.2,asBool,this]
    ·simp only[hc,hb,zP]at h;cases hx:rd x with
     |none=>simp[hx]at h
     |some u=>simp[hx]at h;obtain⟨_,rfl⟩:=h;have:=hr _ _ hx;simp[h1.2,asBool,this]
 ·-- binOp
  rename_i op t x y yt;split at h
  ·rename_i u u' hx hy;have h1:=hr _ _ hx;have h2:=hr _ _ hy;split at h
   ·rename_i k n k' n' hu hu';rw[V.int?_eq hu]at h1;rw[V.int?_eq hu']at h2;have:=jAy (P:=P) w (t:=t) h ho I;refine⟨?_,this.2 _⟩;simp only[h1.2,h2.2,vi_val,zr]
    have hg:(jj op t x y (xS k n) (xS k' n')).run P w=.ok () w:=by
     cases op<;>simp[jj]
    simp[hg,this.1]
   ·split at h
    ·rename_i b b' hu hu';rw[V.bool?_eq hu]at h1;rw[V.bool?_eq hu']at h2;split at h
     ·rename_i ht;have:=jyx (P:=P) w (t:=t) h ht I;refine⟨?_,this.2 _⟩;simp only[h1.2,h2.2,vb_val,zr]
      have hg:(jj op t x y (f6 b) (f6 b')).run P w=.ok () w:=by
       cases op<;>simp[jj]
      simp[hg,this.1]
     ·cases h
    ·split at h
     ·rename_i b b' hu hu';rw[V.str?_eq hu]at h1;rw[V.str?_eq hu']at h2;have:=jAA (P:=P) w (t:=t) h I;refine⟨?_,this.2 _⟩;simp only[h1.2,h2.2,vs_val,zr]
      have hg:(jj op t x y (kn b) (kn b')).run P w=.ok () w:=by
       cases op<;>simp[jj]
      simp[hg,this.1]
     ·split at h
      ·rename_i k n k' n' hu hu';rw[V.flt?_eq hu]at h1;rw[V.flt?_eq hu']at h2;have:=jAz (P:=P) w (t:=t) h ho I;refine⟨?_,this.2 _⟩;simp only[h1.2,h2.2,vf_val,zr]
       have hg:(jj op t x y (yJ k n) (yJ k' n')).run P w=.ok () w:=by
        cases op<;>simp[jj]
       simp[hg,this.1]
      ·split at h
       ·rename_i xs ys hxs hys hgt;rw[V.agg?_eq hxs]at h1;rw[V.agg?_eq hys]at h2
        have hg:(jj op t x y ((V.w (.a xs)).val I) ((V.w (.a ys)).val I)).run P w=.ok () w:=by
         rw[agg_val,agg_val];exact run_eqGuard_agg w op t x y _ _ hgt
        split at h
        ·cases he:eqV P 16 t (.w (.a xs)) (.w (.a ys))with
         |none=>simp[he]at h
         |some b =>
          simp[he]at h;obtain⟨_,rfl⟩:=h;refine⟨?_,trivial⟩;have:=joh (I:=I) (w:=w) 9984 16 t _ _ b he h1.1 h2.1;simp only[h1.2,h2.2,zr,hg,zn];rw[agg_val,agg_val]at this ⊢;simp only[run_eql_struct,this,zn];rfl
        ·cases he:eqV P 16 t (.w (.a xs)) (.w (.a ys))with
         |none=>simp[he]at h
         |some b =>
          simp[he]at h;obtain⟨_,rfl⟩:=h;refine⟨?_,trivial⟩;have:=joh (I:=I) (w:=w) 9984 16 t _ _ b he h1.1 h2.1;simp only[h1.2,h2.2,zr,hg,zn];rw[agg_val,agg_val]at this ⊢;simp only[run_neq_struct,this,zn];rfl
        ·cases h
       ·cases h
  ·cases h
 ·-- unOp
  rename_i op t x;split at h
  ·rename_i u hx;have h1:=hr _ _ hx;cases hb:u.bool? with
   |none=>simp[hb]at h
   |some b =>
    simp[hb]at h;obtain⟨_,rfl⟩:=h;rw[V.bool?_eq hb]at h1;simp[h1.2,Op.unary];trivial
  ·rename_i u hx;have h1:=hr _ _ hx;cases hb:u.int? with
   |none=>simp[hb]at h
   |some p =>
    obtain⟨k,n⟩:=p;simp[hb]at h;obtain⟨_,rfl⟩:=h;rw[V.int?_eq hb]at h1;simp[h1.2,Op.unary,ku];trivial
  ·cases h
 ·-- convert
  rename_i src dst x;cases hx:rd x with
  |none=>simp[hx]at h
  |some u =>
   simp only[hx,zP]at h;have:=jCs (w:=w) (I:=I) h ho;refine⟨?_,this.2 _⟩;simp[(hr _ _ hx).2,this.1]
 ·-- extract
  rename_i t i;split at h
  ·rename_i l hx;have h1:=hr _ _ hx;cases hi:l[i]? with
   |none=>simp[hi]at h
   |some u =>
    simp[hi]at h;obtain⟨_,rfl⟩:=h;refine⟨?_,h1.1 u (xY hi)⟩;simp[h1.2,V.val,Instr.extract,hi]
  ·cases h
 ·-- field
  rename_i t x f;split at h
  ·rename_i fs cs hu hx;cases hrx:rd x with
   |none=>simp[hrx]at hx
   |some u =>
    simp only[hrx,zP]at hx;have h1:=hr _ _ hrx;rw[V.agg?_eq hx]at h1;split at h
    ·rename_i g hg;cases hpw:jcR P g.type cs g.offset with
     |none=>simp[hpw]at h
     |some u2 =>
      simp[hpw]at h;obtain⟨_,rfl⟩:=h;have hp2:=jd8 (w:=w) (I:=I) hpw h1.1;refine⟨?_,hp2.2⟩;simp only[h1.2,agg_val,Instr.field,zr,zR hu,zn];rw[g5]at hg;simp[hg,asAgg,hp2.1]
    ·cases h
  ·cases h
 ·-- index
  rename_i t x i;split at h
  ·-- a string
   rename_i s0 k n hx hu hi;cases hrx:rd x with
   |none=>simp[hrx]at hx
   |some u =>
    cases hri:rd i with
    |none=>simp[hri]at hi
    |some ui =>
     simp only[hrx,zP]at hx;simp only[hri,zP]at hi;have h1:=hr _ _ hrx;have h2:=hr _ _ hri;rw[V.str?_eq hx]at h1;rw[V.int?_eq hi]at h2;cases h;refine⟨?_,trivial⟩;have hlt:n.toNat<s0.size:=by omega
     simp only[h1.2,h2.2,vs_val,vi_val,fQ,je,zr,zu,zR hu,zn];rw[if_pos ho.1];have hg:s0[n.toNat]?=some (s0[n.toNat]):=by simp[hlt]
     simp only[hg,zu,zn]
     have hd:s0.data.getD n.toNat 0=s0[n.toNat]:=by
      have:n.toNat<s0.data.size:=hlt;rw[Array.getD_eq_getD_getElem?,Array.getElem?_eq_getElem this];rfl
     rw[hd]
  ·cases h
  split at h
  ·rename_i len elem cs k n hu hx hi;cases hrx:rd x with
   |none=>simp[hrx]at hx
   |some u =>
    cases hri:rd i with
    |none=>simp[hri]at hi
    |some ui =>
     simp only[hrx,zP]at hx;simp only[hri,zP]at hi;have h1:=hr _ _ hrx;have h2:=hr _ _ hri;rw[V.agg?_eq hx]at h1;rw[V.int?_eq hi]at h2;split at h
     ·rename_i size hs
      obtain⟨hpw,ho⟩:jcR P elem cs (n.toNat*size)=some v∧(0<=n∧n<(len:Int)):=by
       split at h
       ·rename_i p v' _ hsel;cases h;exact⟨jum hsel ho.2,ho.1⟩
       ·cases hpw:jcR P elem cs (n.toNat*size)with
        |none=>simp[hpw]at h
        |some u2 =>
         simp only[hpw,qn,zk,qp]at h;obtain⟨rfl,rfl⟩:=h;exact⟨rfl,ho⟩
      ·have hp2:=jd8 (w:=w) (I:=I) hpw h1.1;refine⟨?_,hp2.2⟩;simp only[h1.2,h2.2,agg_val,vi_val,fQ,je,zr,zu,zR hu,zn,ho,and_self,if_true,jaV w hs];simp[hp2.1]
     ·cases h
  ·cases h
 ·-- nilCheck
  rename_i x;split at h
  ·rename_i k i e j hx;cases h;have h1:=hr _ _ hx;refine⟨?_,h1.1⟩;simp[h1.2,C.val]
  ·cases h
 ·-- fieldAddr
  rename_i s x f;split at h
  ·rename_i fs k i e j hu hx;have h1:=hr _ _ hx;split at h
   ·rename_i g hg;split at h
    ·rename_i n hs;cases h;refine⟨?_,h1.1⟩;rw[g5]at hg;simp only[h1.2,cell_val,C.val,Instr.fieldAt,zr,zR hu,zn,hg,qU,zu,fieldPlace,jaV w hs];simp[jaX,xy]
    ·cases h
   ·cases h
  ·cases h
 ·-- indexAddr
  rename_i t x ix;split at h
  ·rename_i len elem k i e j kk n hu hx hix;cases hri:rd ix with
   |none=>simp[hri]at hix
   |some ui =>
    simp only[hri,zP]at hix;have h1:=hr _ _ hx;have h2:=hr _ _ hri;rw[V.int?_eq hix]at h2;split at h
    ·rename_i size hs;split at h
     ·cases h;refine⟨?_,h1.1⟩;simp only[h1.2,h2.2,cell_val,vi_val,C.val,j9,je,zr,zu,zR hu,zn,qU];simp[ho,jaV w hs,jaX,xy]
     ·cases h;refine⟨?_,h1.1⟩;simp only[h1.2,h2.2,cell_val,vi_val,C.val,j9,je,zr,zu,zR hu,zn,qU];simp[ho,jaV w hs,jaX,xy]
    ·cases h
  ·rename_i elem k kk n hu hx hix;cases hri:rd ix with
   |none=>simp[hri]at hix
   |some ui =>
    simp only[hri,zP]at hix;have h1:=hr _ _ hx;have h2:=hr _ _ hri;rw[V.int?_eq hix]at h2;split at h
    ·rename_i c size hc hs;split at h
     ·rename_i hsz;cases h;refine⟨?_,h1.1⟩;cases hf:find hp k with
      |none=>simp[hf]at hc
      |some o' =>
       simp only[hf,zP]at hc
       have hrow:∃b off cap,I k=.slice (some ⟨b,off,none⟩) c.n cap:=by
        have hok:=(hh.ok k o' hf).2.2;have hn:0<c.n:=by omega
        cases o' with
        |ext c' =>
         simp[O.cont]at hc;subst hc;obtain⟨⟨a',cap,hs',_,hx'⟩,_⟩:=hok;obtain⟨b,off,rfl,_⟩:=hx' hn;exact⟨b,off,cap,hs'⟩
        |view r c' _ =>
         simp[O.cont]at hc;subst hc;obtain⟨⟨a',cap,hs',_,hx'⟩,_⟩:=hok;obtain⟨b,off,rfl,_⟩:=hx' hn;exact⟨b,off,cap,hs'⟩
        |sub _ _ _ _ _ c' =>
         simp[O.cont]at hc;subst hc;obtain⟨a',cap,hs',_,hx'⟩:=jd6 hok.1;obtain⟨b,off,rfl,_⟩:=hx' hn;exact⟨b,off,cap,hs'⟩
        |fext c' =>
         simp[O.cont]at hc;subst hc;obtain⟨⟨a',cap,hs',_,hx'⟩,_⟩:=hok;obtain⟨b,off,rfl,_⟩:=hx' hn;exact⟨b,off,cap,hs'⟩
        |row ty c' =>
         simp[O.cont]at hc;subst hc;rcases hok.1.2 with ⟨_,hn'⟩|⟨g,cap,cur,h3,_⟩
         ·omega
         ·exact⟨g,0,cap,h3⟩
        |_=>simp[O.cont]at hc
       obtain⟨b,off,cap,hrow⟩:=hrow;simp only[h1.2,h2.2,cell_val,vi_val,C.val,hrow,j9,je,zr,zu,zR hu,zn,base];simp[ho,jaV w hs,jaX,hsz]
     ·cases h
    ·cases h
  ·cases h
 ·-- load
  rename_i t x;split at h
  ·rename_i k i e j hx;have h1:=hr _ _ hx;split at h
   ·rename_i o' hf;have:=jun hh hf h ho;refine⟨?_,this.2⟩;simp[h1.2,C.val,jN,qU,this.1]
   ·cases h
  ·cases h
 ·-- build
  rename_i t parts;split at h
  ·rename_i l hl;cases hb:jq7 P t l with
   |none=>simp[hb]at h
   |some cs =>
    simp[hb]at h;obtain⟨_,rfl⟩:=h;have hps:=jdL hr parts.toList l hl;have hbr:=jCr hh hb hps.2;refine⟨?_,hbr.2⟩
    have he:(parts.map fun(i,x)=>(i,a.eval x))=(l.map fun x=>(x.1,x.2.val I)).toArray:=by
     rw[<-hps.1];apply qR;simp
    simp only[he,zr,hbr.1,zn,zu,agg_val]
  ·cases h
 ·-- makeFunc
  rename_i f first captured
  split at h
  ·rename_i hs hfirst hb;cases h;have:=jin hh hr captured.toList hs hb;refine⟨?_,this.2⟩;have e1:first=#[]:=by apply qR;simpa using hfirst
   have e2:captured.map a.eval=(hs.map I).toArray:=by
    rw[<-this.1];apply qR;simp
   simp[Instr.makeFunc,e1,e2,C.val]
  ·cases h
 ·-- call
  rename_i c;split at h
  ·-- len
   rename_i x t hcal hargs hts;have e1:c.args=#[x]:=by apply qR;simpa using hargs
   have e2:c.argTypes=#[t]:=by apply qR;simpa using hts
   simp only[jk,hcal,e1,e2,zr,zu,zn,jZ,builtin];split at h
   ·rename_i el k hu hx;have h1:=hr _ _ hx;cases hc:(find hp k).bind O.cont with
    |none=>simp[hc]at h
    |some c' =>
     simp[hc]at h;obtain⟨_,rfl⟩:=h;cases hf:find hp k with
     |none=>simp[hf]at hc
     |some o' =>
      simp only[hf,zP]at hc
      have hrow:∃a' cap,I k=.slice a' c'.n cap:=by
       have hok:=(hh.ok k o' hf).2.2;cases o' with
       |ext c2=>simp[O.cont]at hc;subst hc;obtain⟨⟨a',cap,hs',_⟩,_⟩:=hok;exact⟨a',cap,hs'⟩
       |view r c2 _=>simp[O.cont]at hc;subst hc;obtain⟨⟨a',cap,hs',_⟩,_⟩:=hok;exact⟨a',cap,hs'⟩
       |sub _ _ _ _ _ c2=>simp[O.cont]at hc;subst hc;obtain⟨a',cap,hs',_⟩:=jd6 hok.1;exact⟨a',cap,hs'⟩
       |fext c2=>simp[O.cont]at hc;subst hc;obtain⟨⟨a',cap,hs',_⟩,_⟩:=hok;exact⟨a',cap,hs'⟩
       |row ty c2 =>
        simp[O.cont]at hc;subst hc;rcases hok.1.2 with ⟨h3,hn'⟩|⟨g,cap,cur,h3,_⟩
        ·rw[hn'];exact⟨_,_,h3⟩
        ·exact⟨_,_,h3⟩
       |_=>simp[O.cont]at hc
      obtain⟨a',cap,hrow⟩:=hrow;refine⟨?_,trivial⟩;simp[h1.2,C.val,hrow,gj,zR hu,goInt]
   ·rename_i u _ hu hx;split at h
    ·rename_i hn;cases h;have h1:=hr _ _ hx;refine⟨?_,trivial⟩
     have hval:u.val I=.slice none 0 0:=by
      unfold V.nils? at hn;split at hn
      ·rfl
      ·cases hn
     simp[h1.2,hval,gj,zR hu,goInt]
    ·cases h
   ·rename_i u hu hx;have h1:=hr _ _ hx;cases hs:u.str? with
    |none=>simp[hs]at h
    |some s =>
     simp[hs]at h;obtain⟨_,rfl⟩:=h;rw[V.str?_eq hs]at h1;refine⟨?_,trivial⟩;simp[h1.2,gj,zR hu,goInt]
   ·rename_i n el u hu hx;cases h;refine⟨?_,trivial⟩;simp[gj,zR hu,goInt]
   ·cases h
  ·-- min
   rename_i hcal;split at h
   ·rename_i k n r hl;cases hm:jsL k n r with
    |none=>simp[hm]at h
    |some u =>
     simp[hm]at h;obtain⟨_,rfl⟩:=h;have e:=jj2 hr _ _ hl;have hrun:=jwc (P:=P) (I:=I) (w:=w) r k n u hm;refine⟨?_,hrun.2 _⟩;have e1:(c.args.map a.eval).toList=xS k n::r.map fun x=>xS x.1 x.2:=by simpa using e
     simp only[jk,hcal,zr,zu,zn,jZ,builtin,Builtin.min_,e1,hrun.1]
   ·cases h
  ·-- max
   rename_i hcal;split at h
   ·rename_i k n r hl;cases hm:jsM k n r with
    |none=>simp[hm]at h
    |some u =>
     simp[hm]at h;obtain⟨_,rfl⟩:=h;have e:=jj2 hr _ _ hl;have hrun:=jwd (P:=P) (I:=I) (w:=w) r k n u hm;refine⟨?_,hrun.2 _⟩;have e1:(c.args.map a.eval).toList=xS k n::r.map fun x=>xS x.1 x.2:=by simpa using e
     simp only[jk,hcal,zr,zu,zn,jZ,builtin,Builtin.max_,e1,hrun.1]
   ·cases h
  ·cases h
 ·cases h
def jj3 (hh:HRel I B hp nx w) {v:V} {k:qf} (h:v.nan? hp=some k):∃n,v.val I=.float k n∧(k.decode n).isNaN=true:=by
 unfold V.nan? at h;split at h
 ·split at h
  ·rename_i hf;cases h;exact(hh.ok _ _ hf).2.2
  ·cases h
 ·cases h
def jci {k k':qf} (h:jbT k k'=true):k=k':=by cases k<;>cases k' <;> simp[jbT]at h<;>rfl
def jme {k:qf} {m n:Nat} (h:(k.decode m).isNaN=true∨(k.decode n).isNaN=true):k.format.order m n=none:=by
 unfold qo;unfold xa at h;rcases h with h|h
 ·cases hm:k.format.read m<;>simp[hm,jl]at h;simp[fK]
 ·cases hn:k.format.read n<;>simp[hn,jl]at h;cases k.format.read m<;>simp[fK]
def jwe (hh:HRel I B hp nx w) {u v:V} (h:jsO hp u v=true):∃k m n,u.val I=.float k m∧v.val I=.float k n∧k.format.order m n=none:=by
 unfold jsO at h;split at h
 ·rename_i k k' hu hv;obtain⟨m,h1,h2⟩:=jj3 hh hu;obtain⟨n,h3,h4⟩:=jj3 hh hv;have:=jci h;subst this;exact⟨k,m,n,h1,h3,jme (.inl h2)⟩
 ·rename_i k hu hv;obtain⟨m,h1,h2⟩:=jj3 hh hu;split at h
  ·rename_i k' n hf;have:=jci h;subst this;exact⟨k,m,n,h1,by rw[V.flt?_eq hf];rfl,jme (.inl h2)⟩
  ·cases h
 ·rename_i k hu hv;obtain⟨m,h1,h2⟩:=jj3 hh hv;split at h
  ·rename_i k' n hf;have:=jci h;subst this;exact⟨k',n,m,by rw[V.flt?_eq hf];rfl,h1,jme (.inr h2)⟩
  ·cases h
 ·cases h
def jra {len:Nat} {l m:Option Int} {k k':IntKind} (h0:0<=l.getD 0) (h1:l.getD 0<=m.getD (len:Int)) (h2:m.getD (len:Int)<=(len:Int)) :
  (xT false len len (l.map (xS k ·)) (m.map (xS k' ·)) none).run P w=.ok ((l.getD 0).toNat,(m.getD (len:Int)).toNat,len) w:=by
 cases l with
 |none =>
  cases m with
  |none=>simp[xT]
  |some m =>
   simp only[jm,z6]at h1 h2;simp[xT,j4,je,h1,h2]
 |some l =>
  simp only[z6]at h0 h1;cases m with
  |none =>
   simp only[jm]at h1;simp[xT,j4,je,h0,h1]
  |some m =>
   simp only[z6]at h1 h2;have a1:0<=m∧m<=(len:Int):=by omega
   have a2:0<=l∧l<=(m.toNat:Int):=by omega
   simp only[xT,j4,je,qn,zr,zu,zn,if_pos a1,if_pos a2,Option.isSome_none,qw,if_false,z6]
def jda (hr:jaH I nx rd a) {x:Option zU} {l:Option Int} (h:ja5 rd x=some l):∃k,x.map a.eval=l.map (xS k ·):=by
 cases x with
 |none=>simp only[ja5,zk]at h;subst h;exact⟨.i64,rfl⟩
 |some x =>
  simp only[ja5]at h;split at h
  ·rename_i k n hx;cases h;cases hrx:rd x with
   |none=>simp[hrx]at hx
   |some u =>
    simp only[hrx,zP]at hx;have:=hr _ _ hrx;rw[V.int?_eq hx]at this;exact⟨k,by simp[this.2]⟩
  ·cases h
def jcc {h:Nat} {o:O} {c:Cont} (hok:o.ok I B w h) (hc:o.cont=some c):jaQ w (I h) c:=by
 cases o with
 |ext c'=>simp[O.cont]at hc;subst hc;exact hok.1
 |view r c' _=>simp[O.cont]at hc;subst hc;exact hok.1
 |sub _ _ _ _ _ c'=>simp[O.cont]at hc;subst hc;exact jd6 hok.1
 |fext c'=>simp[O.cont]at hc;subst hc;exact hok.1
 |row ty c' =>
  simp[O.cont]at hc;subst hc;rcases hok.1.2 with ⟨h1,hn⟩|⟨g,cap,cur,h1,h2,h3,h4,h5,h6,h7⟩
  ·exact⟨none,0,by rw[hn];exact h1,⟨by omega,fun _=>rfl⟩,fun h=>by omega⟩
  ·refine⟨some ⟨g,0,none⟩,cap,h1,⟨h4,fun h=>by cases h⟩,fun _=>⟨g,0,rfl,fun j x hj=>?_⟩⟩;rw[z7,xD w g j cur ty (0,0) h3];have h2:(cur.toList.take (c'.n*c'.e))[j]?=some x.val:=by rw[h7,zL,hj];rfl
   rw[qc]at h2;split at h2
   ·simpa using h2
   ·cases h2
 |_=>simp[O.cont]at hc
def jCt {o:qx} {ob:Prop} {v:V} (hh:HRel I B hp nx w) (hr:jaH I nx rd a) (h:jj1 P o.op rd hp=some (ob,v)) (ho:ob) :
  (qS a.eval o).run P w=.ok (.value (v.val I)) w∧v.lt nx:=by
 unfold jj1 at h;unfold qS;split at h<;>rename_i hop<;>simp only[hop]
 ·-- binOp
  rename_i op t x y yt;split at h
  ·rename_i u u' hx hy;have h1:=hr _ _ hx;have h2:=hr _ _ hy;split at h
   ·rename_i hnp;obtain⟨k,m,n,e1,e2,e3⟩:=jwe hh hnp
    have hg:(jj op t x y (yJ k m) (yJ k n)).run P w=.ok () w:=by
     cases op<;>simp[jj]
    have hres:(binOp op t (.float k m) (.float k n)).run P w=.ok (v.val I) w∧v.lt nx:=by
     unfold jv8 at h
     cases op<;>simp only[zk,qp,reduceCtorEq]at h<;>obtain⟨_,rfl⟩:=h<;>refine⟨?_,trivial⟩ <;>
      simp[binOp,kv,e3,vb,V.val,W.val,C.val,D.val]
    refine⟨?_,hres.2⟩;simp only[h1.2,h2.2,e1,e2,zr];simp[hg,hres.1]
   ·cases h
  ·cases h
 ·-- an array's element
  rename_i t x i;split at h
  ·rename_i len0 y hx;split at h
   ·rename_i len elem kk n hu hi;split at h
    ·rename_i hs hE hag;cases h;cases hri:rd i with
     |none=>simp[hri]at hi
     |some ui =>
      simp only[hri,zP]at hi;have h1:=hr _ _ hx;have h2:=hr _ _ hri;rw[V.int?_eq hi]at h2;have hE:=zj hE;subst hE;refine⟨?_,trivial⟩;have hlt:n.toNat<len:=by omega
      have e1:a.eval x=.agg ((arD len y).map D.val).toArray:=h1.2;have e2:a.eval i=.int kk n:=h2.2;have hg:((arD len y).map D.val)[n.toNat]?=some (y.el n.toNat).val:=by simp[arD,hlt]
      simp only[e1,e2,fQ,je,zr,zu,zR hu,zn,ho,and_self,if_true,jaV w hs];simp[part,jgO w hag,hg,yU,V.val,W.val,C.val]
    ·cases h
   ·cases h
  ·cases h
 ·-- indexAddr
  rename_i t x ix;split at h
  ·rename_i elem k kk n hu hx hix;cases hri:rd ix with
   |none=>simp[hri]at hix
   |some ui =>
    simp only[hri,zP]at hix;have h1:=hr _ _ hx;have h2:=hr _ _ hri;rw[V.int?_eq hix]at h2;split at h
    ·rename_i X size hf hs;obtain⟨ob2,hf,hxc⟩:=zK.1 hf;split at h
     ·rename_i hsz;have hsz:=zj hsz;cases h;refine⟨?_,h1.1⟩;obtain⟨a',cap,hs',_,hx'⟩:=jd7 (hh.ok k _ hf).2.2 hxc;obtain⟨b,off,rfl,_⟩:=hx' (by omega);simp only[h1.2,h2.2,cell_val,vi_val,C.val,hs',j9,je,zr,zu,zR hu,zn,base];simp[ho,jaV w hs,fD,hsz]
     ·cases h
    ·rename_i size hf hs;split at h
     ·rename_i X hX;obtain⟨ob2,hf,hX⟩:=zK.1 hX;split at h
      ·rename_i hsz;have hsz:=zj hsz;cases h;refine⟨?_,h1.1⟩;obtain⟨a',cap,hs',hx'⟩:=jCp (hh.ok k _ hf).2.2 hX;obtain⟨b,off,rfl⟩:=hx' (by omega);simp only[h1.2,h2.2,cell_val,vi_val,C.val,hs',j9,je,zr,zu,zR hu,zn,base];simp[ho,jaV w hs,fD,hsz]
      ·cases h
     ·cases h
    ·cases h
  ·cases h
 ·-- len
  rename_i c;split at h
  ·rename_i x t hcal hargs hts;have e1:c.args=#[x]:=by apply qR;simpa using hargs
   have e2:c.argTypes=#[t]:=by apply qR;simpa using hts
   simp only[jk,hcal,e1,e2,zr,zu,zn,jZ,builtin];split at h
   ·rename_i el k hu hx;have h1:=hr _ _ hx;split at h
    ·rename_i X hf;obtain⟨ob2,hf,hxc⟩:=zK.1 hf;cases h;obtain⟨a',cap,hs',_⟩:=jd7 (hh.ok k _ hf).2.2 hxc;refine⟨?_,trivial⟩;simp[h1.2,C.val,hs',gj,zR hu,goInt]
    ·cases h
   ·cases h
  ·cases h
 ·cases h
def jea {o:qx} {ob:Prop} {v:V} (hh:HRel I B hp nx w) (hr:jaH I nx rd a) (h:jcn P o.op rd hp=some (ob,v)) (ho:ob) :
  (qS a.eval o).run P w=.ok (.value (v.val I)) w∧v.lt nx:=by
 unfold jcn at h;split at h
 ·rename_i x hx;cases h;exact jAC hh hr hx ho
 ·exact jCt hh hr h ho
end
end Go.Sx
end

section
open Go.RowKit
namespace Go.Sx
def jgP (k:IntKind):List (List D)->Option (List Int)|[]=>some []|[.i k' n]::r=>if k'=k then(jgP k r).map (n :: ·)else none|_=>none
def jgQ (k:qf):List (List D)->Option (List Nat)|[]=>some []|[.f k' n]::r=>if k'=k then(jgQ k r).map (n :: ·)else none|_=>none
def jgR:List (List D)->Option (List ByteArray)|[]=>some []|[.s n]::r=>(jgR r).map (n :: ·)|_=>none
def jeA:List (List D)->Option (List Bool)|[]=>some []|[.b n]::r=>(jeA r).map (n :: ·)|_=>none
def jj4:List D->Option (List Int)|[]=>some []| .i .i64 n::r=>(jj4 r).map (n :: ·)|_=>none
def jjl (e:Nat):List (List D)->Option (List (List Int))
 |[]=>some []
 |x::r =>
  match jj4 x,jjl e r with|some y,some l=>if y.length=e then some (y::l)else none|_,_=>none
def jgS (e:Nat):List (List D)->Option (List (List D))|[]=>some []|x::r=>if x.length=e then(jgS e r).map (x :: ·)else none
def jgr (k:qf):List D->Option (List Nat)|[]=>some []| .f k' n::r=>if k'=k then(jgr k r).map (n :: ·)else none|_=>none
def joi (k:qf) (e:Nat):List (List D)->Option (List (List Nat))
 |[]=>some []
 |x::r =>
  match jgr k x,joi k e r with|some y,some l=>if y.length=e then some (y::l)else none|_,_=>none
def jAD:List D->Option qf| .f k _::_=>some k|_=>none
def isI64:D->Bool| .i .i64 _=>true|_=>false
def jei (zero:List D) (ls:List (List D)):Option Cont :=match zero with|[.i k _]=>(jgP k ls).map (.ints k)|[.f k _]=>(jgQ k ls).map (.floats k)|[.s _]=>(jgR ls).map .strs|[.b _]=>(jeA ls).map .bools|_=>match jAD zero with|some k=>(joi k zero.length ls).map (.frs k zero.length)|none=>if zero.all isI64=true then(jjl zero.length ls).map (.recs zero.length)else(jgS zero.length ls).map (.lits zero.length)
def jmf (r:List Int):jjX r.length r=r.map (D.i .i64):=by
 apply xF
 ·simp
 ·intro i h1 h2;simp[jjX]at h1 ⊢;simp[h1]
def jmg (r:List D):jjY r.length r=r:=by
 apply xF
 ·simp
 ·intro i h1 h2;simp[jjY]at h1 ⊢;simp[h1]
def jo5 {k:IntKind}:∀{ls:List (List D)} {l:List Int},jgP k ls=some l->l.flatMap (fun x=>[D.i k x])=ls.flatten∧l.length=ls.length
 |[],l,h=>by simp only[jgP,zk]at h;subst h;exact⟨rfl,rfl⟩
 |x::r,l,h=>by
  unfold jgP at h;split at h<;>first|(rename_i h';cases h';done)|skip
  ·rename_i k' n r' he;cases he;split at h
   ·rename_i hk;subst hk;cases hi:jgP k' r with
    |none=>simp[hi]at h
    |some l' =>
     simp[hi]at h;subst h;have:=jo5 hi;exact⟨by simp[<-this.1],by simp[this.2]⟩
   ·cases h
  ·cases h
def jo6 {k:qf}:∀{ls:List (List D)} {l:List Nat},jgQ k ls=some l->l.flatMap (fun x=>[D.f k x])=ls.flatten∧l.length=ls.length
 |[],l,h=>by simp only[jgQ,zk]at h;subst h;exact⟨rfl,rfl⟩
 |x::r,l,h=>by
  unfold jgQ at h;split at h<;>first|(rename_i h';cases h';done)|skip
  ·rename_i k' n r' he;cases he;split at h
   ·rename_i hk;subst hk;cases hi:jgQ k' r with
    |none=>simp[hi]at h
    |some l' =>
     simp[hi]at h;subst h;have:=jo6 hi;exact⟨by simp[<-this.1],by simp[this.2]⟩
   ·cases h
  ·cases h
def jo7:∀{ls:List (List D)} {l:List ByteArray},jgR ls=some l->l.flatMap (fun x=>[D.s x])=ls.flatten∧l.length=ls.length
 |[],l,h=>by simp only[jgR,zk]at h;subst h;exact⟨rfl,rfl⟩
 |x::r,l,h=>by
  unfold jgR at h;split at h<;>first|(rename_i h';cases h';done)|skip
  ·rename_i n r' he;cases he;cases hi:jgR r with
   |none=>simp[hi]at h
   |some l' =>
    simp[hi]at h;subst h;have:=jo7 hi;exact⟨by simp[<-this.1],by simp[this.2]⟩
  ·cases h
def jmh:∀{ls:List (List D)} {l:List Bool},jeA ls=some l->l.flatMap (fun x=>[D.b x])=ls.flatten∧l.length=ls.length
 |[],l,h=>by simp only[jeA,zk]at h;subst h;exact⟨rfl,rfl⟩
 |x::r,l,h=>by
  unfold jeA at h;split at h<;>first|(rename_i h';cases h';done)|skip
  ·rename_i n r' he;cases he;cases hi:jeA r with
   |none=>simp[hi]at h
   |some l' =>
    simp[hi]at h;subst h;have:=jmh hi;exact⟨by simp[<-this.1],by simp[this.2]⟩
  ·cases h
def jjm:∀{x:List D} {y:List Int},jj4 x=some y->x=y.map (D.i .i64)
 |[],y,h=>by simp only[jj4,zk]at h;subst h;rfl
 |d::r,y,h=>by
  unfold jj4 at h;split at h<;>first|(rename_i h';cases h';done)|skip
  ·rename_i n r' he;cases he;cases hi:jj4 r with
   |none=>simp[hi]at h
   |some l' =>
    simp[hi]at h;subst h;simp[jjm hi]
  ·cases h
def jo8 {e:Nat}:∀{ls:List (List D)} {l:List (List Int)},jjl e ls=some l->l.flatMap (jjX e)=ls.flatten∧l.length=ls.length
 |[],l,h=>by simp only[jjl,zk]at h;subst h;exact⟨rfl,rfl⟩
 |x::r,l,h=>by
  unfold jjl at h;split at h
  ·rename_i y l' hy hl;split at h
   ·rename_i hlen;cases h;have:=jo8 hl;subst hlen;refine⟨?_,by simp[this.2]⟩;rw[xH,yp,this.1,jmf,jjm hy]
   ·cases h
  ·cases h
def jo9 {e:Nat}:∀{ls:List (List D)} {l:List (List D)},jgS e ls=some l->l.flatMap (jjY e)=ls.flatten∧l.length=ls.length
 |[],l,h=>by simp only[jgS,zk]at h;subst h;exact⟨rfl,rfl⟩
 |x::r,l,h=>by
  unfold jgS at h;split at h
  ·rename_i hlen;cases hi:jgS e r with
   |none=>simp[hi]at h
   |some l' =>
    simp[hi]at h;subst h;have:=jo9 hi;subst hlen;refine⟨?_,by simp[this.2]⟩;rw[xH,yp,this.1,jmg]
  ·cases h
def jj5 (k:qf) (r:List Nat):frD k r.length r=r.map (D.f k):=by
 apply xn;intro i;simp only[frD,zL]
 by_cases hi:i<r.length
 ·rw[js hi];simp[za,zG hi]
 ·rw[zW (by simpa using hi),zW (by simpa using hi)];rfl
def jgT {k:qf}:∀{x:List D} {y:List Nat},jgr k x=some y->x=y.map (D.f k)
 |[],y,h=>by simp only[jgr,zk]at h;subst h;rfl
 |d::r,y,h=>by
  cases d with
  |f k' n =>
   simp only[jgr]at h;split at h
   ·rename_i e;subst e;obtain⟨l,hl,rfl⟩:=zV.1 h;rw[jgT hl];rfl
   ·cases h
  |_=>simp only[jgr]at h;cases h
def jrb {k:qf} {e:Nat}:∀{ls:List (List D)} {l:List (List Nat)},joi k e ls=some l->l.flatMap (frD k e)=ls.flatten∧l.length=ls.length
 |[],l,h=>by simp only[joi,zk]at h;subst h;exact⟨rfl,rfl⟩
 |x::r,l,h=>by
  simp only[joi]at h;split at h
  ·rename_i y l' hx hl;split at h
   ·rename_i he;cases h;have ih:=jrb hl;refine⟨?_,by simp[ih.2]⟩;rw[xH,yp,ih.1,jgT hx,<-he,jj5]
   ·cases h
  ·cases h
def jdM {zero:List D} {ls:List (List D)} {c:Cont} (h:jei zero ls=some c):c.flat=ls.flatten∧c.n=ls.length∧c.e=zero.length:=by
 unfold jei at h;split at h
 ·rename_i k _;cases hi:jgP k ls with
  |none=>simp[hi]at h
  |some l=>simp[hi]at h;subst h;have:=jo5 hi;exact⟨this.1,this.2,rfl⟩
 ·rename_i k _;cases hi:jgQ k ls with
  |none=>simp[hi]at h
  |some l=>simp[hi]at h;subst h;have:=jo6 hi;exact⟨this.1,this.2,rfl⟩
 ·cases hi:jgR ls with
  |none=>simp[hi]at h
  |some l=>simp[hi]at h;subst h;have:=jo7 hi;exact⟨this.1,this.2,rfl⟩
 ·cases hi:jeA ls with
  |none=>simp[hi]at h
  |some l=>simp[hi]at h;subst h;have:=jmh hi;exact⟨this.1,this.2,rfl⟩
 ·split at h
  ·rename_i k _;cases hi:joi k zero.length ls with
   |none=>simp[hi]at h
   |some l=>simp[hi]at h;subst h;have:=jrb hi;exact⟨this.1,this.2,rfl⟩
  split at h
  ·cases hi:jjl zero.length ls with
   |none=>simp[hi]at h
   |some l=>simp[hi]at h;subst h;have:=jo8 hi;exact⟨this.1,this.2,rfl⟩
  ·cases hi:jgS zero.length ls with
   |none=>simp[hi]at h
   |some l=>simp[hi]at h;subst h;have:=jo9 hi;exact⟨this.1,this.2,rfl⟩
def jgF (zero:List D) (n:Nat):Option Cont :=match zero with|[.i k x]=>some (.ints k (zi n x))|[.f k x]=>some (.floats k (zi n x))|[.s x]=>some (.strs (zi n x))|[.b x]=>some (.bools (zi n x))|_=>match jAD zero with|some k=>(jgr k zero).map fun z=>.frs k zero.length (zi n z)|none=>match jj4 zero with|some z=>some (.recs zero.length (zi n z))|none=>some (.lits zero.length (zi n zero))
def jbd {α:Type} (g:α->List D) (x:α) (n:Nat):(zi n x).flatMap g=(zi n (g x)).flatten:=by
 induction n with
 |zero=>rfl
 |succ n ih=>simp[yP,ih]
def jmi {zero:List D} {n:Nat} {c:Cont} (h:jgF zero n=some c):c.flat=(zi n zero).flatten∧c.n=n∧c.e=zero.length:=by
 unfold jgF at h;split at h
 ·cases h;exact⟨by simp only[Cont.flat,jbd],by simp[Cont.n],rfl⟩
 ·cases h;exact⟨by simp only[Cont.flat,jbd],by simp[Cont.n],rfl⟩
 ·cases h;exact⟨by simp only[Cont.flat,jbd],by simp[Cont.n],rfl⟩
 ·cases h;exact⟨by simp only[Cont.flat,jbd],by simp[Cont.n],rfl⟩
 ·split at h
  ·rename_i k _;cases hz:jgr k zero with
   |none=>simp[hz]at h
   |some z =>
    simp only[hz,qn,zk]at h;subst h;refine⟨?_,by simp[Cont.n],rfl⟩;have hl:zero.length=z.length:=by rw[jgT hz];simp
    rw[Cont.flat,jbd,hl,jj5,<-jgT hz]
  split at h
  ·rename_i z hz;cases h;refine⟨?_,by simp[Cont.n],rfl⟩;have hl:zero.length=z.length:=by rw[jjm hz];simp
   rw[Cont.flat,jbd,hl,jmf,<-jjm hz]
  ·cases h;refine⟨?_,by simp[Cont.n],rfl⟩;rw[Cont.flat,jbd,jmg]
def Cont.app:Cont->Cont->Option Cont| .ints k l,.ints k' l'=>if k=k' then some (.ints k (l++l'))else none| .recs e l,.recs e' l'=>if e=e' then some (.recs e (l++l'))else none| .floats k l,.floats k' l'=>if k=k' then some (.floats k (l++l'))else none| .strs l,.strs l'=>some (.strs (l++l'))| .bools l,.bools l'=>some (.bools (l++l'))| .lits e l,.lits e' l'=>if e=e' then some (.lits e (l++l'))else none| .frs k e l,.frs k' e' l'=>if k=k' then if e=e' then some (.frs k e (l++l'))else none else none|_,_=>none
def Cont.app_flat {a b c:Cont} (h:a.app b=some c):c.flat=a.flat++b.flat∧c.n=a.n+b.n∧c.e=a.e∧b.e=a.e:=by
 unfold Cont.app at h
 split at h<;>first
  |(split at h
    ·split at h
     ·rename_i hk hk';subst hk;subst hk';cases h;exact⟨by simp[Cont.flat],by simp[Cont.n],rfl,rfl⟩
     ·cases h
    ·cases h)
  |(split at h
    ·rename_i hk;subst hk;cases h;exact⟨by simp[Cont.flat],by simp[Cont.n],rfl,rfl⟩
    ·cases h)
  |(cases h;exact⟨by simp[Cont.flat],by simp[Cont.n],rfl,rfl⟩)
  |cases h
def wr (e:Nat) (r:List Int) (j:Nat) (xs:List Int):List Int :=(zo e).map fun t=>if j<=t∧t<j+xs.length then xs.getD (t-j) 0 else r.getD t 0
def Cont.upd (c:Cont) (i j:Nat) (ds:List D):Option Cont :=match c,ds with| .ints k l,[.i k' x]=>if k'=k∧j=0 then some (.ints k (l.set i x))else none| .floats k l,[.f k' x]=>if k'=k∧j=0 then some (.floats k (l.set i x))else none| .strs l,[.s x]=>if j=0 then some (.strs (l.set i x))else none| .bools l,[.b x]=>if j=0 then some (.bools (l.set i x))else none| .recs e l,ds=>(jj4 ds).bind fun xs=>if j+xs.length<=e then some (.recs e (l.set i (wr e (l.getD i []) j xs)))else none|_,_=>none
def jaL {α:Type} (l:List α) (i k:Nat) (x d:α) (hi:i<l.length):(l.set i x).getD k d=if k=i then x else l.getD k d:=by
 simp only[za,List.getElem?_set]
 by_cases h:i=k
 ·subst h;simp[hi]
 ·simp[h,Ne.symm h]
def Cont.upd_cell {c c':Cont} {i j:Nat} {ds:List D} (h:c.upd i j ds=some c') (hi:i<c.n) :
  c'.n=c.n∧c'.e=c.e∧j+ds.length<=c.e ∧
   ∀k m,m<c.e->c'.cell k m=if k=i∧j<=m∧m<j+ds.length then ds.getD (m-j) (.v zX)else c.cell k m:=by
 unfold Cont.upd at h;split at h
 ·split at h
  ·rename_i hk;obtain⟨rfl,rfl⟩:=hk;cases h;refine⟨by simp[Cont.n],rfl,by simp[Cont.e],fun k m hm=>?_⟩;simp only[Cont.e]at hm;obtain rfl:m=0:=by omega
   simp only[Cont.cell,Cont.n]at *;rw[jaL _ _ _ _ _ hi]
   by_cases hki:k=i<;>simp[hki]
  ·cases h
 ·split at h
  ·rename_i hk;obtain⟨rfl,rfl⟩:=hk;cases h;refine⟨by simp[Cont.n],rfl,by simp[Cont.e],fun k m hm=>?_⟩;simp only[Cont.e]at hm;obtain rfl:m=0:=by omega
   simp only[Cont.cell,Cont.n]at *;rw[jaL _ _ _ _ _ hi]
   by_cases hki:k=i<;>simp[hki]
  ·cases h
 ·split at h
  ·rename_i hk;subst hk;cases h;refine⟨by simp[Cont.n],rfl,by simp[Cont.e],fun k m hm=>?_⟩;simp only[Cont.e]at hm;obtain rfl:m=0:=by omega
   simp only[Cont.cell,Cont.n]at *;rw[jaL _ _ _ _ _ hi]
   by_cases hki:k=i<;>simp[hki]
  ·cases h
 ·split at h
  ·rename_i hk;subst hk;cases h;refine⟨by simp[Cont.n],rfl,by simp[Cont.e],fun k m hm=>?_⟩;simp only[Cont.e]at hm;obtain rfl:m=0:=by omega
   simp only[Cont.cell,Cont.n]at *;rw[jaL _ _ _ _ _ hi]
   by_cases hki:k=i<;>simp[hki]
  ·cases h
 ·rename_i e l;cases hx:jj4 ds with
  |none=>simp[hx]at h
  |some xs =>
   simp only[hx,zP]at h;split at h
   ·rename_i hle;cases h;have hds:=jjm hx;subst hds;refine⟨by simp[Cont.n],rfl,by simpa [Cont.e]using hle,fun k m hm=>?_⟩;simp only[Cont.cell,Cont.n,Cont.e]at *;rw[jaL _ _ _ _ _ hi]
    by_cases hki:k=i
    ·subst hki;simp only[if_true,true_and,qr,wr];rw[qF,zL,js hm];simp only[qn,z6];split
     ·rename_i hin;have:m-j<xs.length:=by omega
      simp[za,this]
     ·rfl
    ·simp[hki]
   ·cases h
 ·cases h
def Cont.sub:Cont->Nat->Nat->Cont| .ints k l,lo,hi=>.ints k ((l.drop lo).take (hi-lo))| .recs e l,lo,hi=>.recs e ((l.drop lo).take (hi-lo))| .floats k l,lo,hi=>.floats k ((l.drop lo).take (hi-lo))| .strs l,lo,hi=>.strs ((l.drop lo).take (hi-lo))| .bools l,lo,hi=>.bools ((l.drop lo).take (hi-lo))| .lits e l,lo,hi=>.lits e ((l.drop lo).take (hi-lo))| .frs k e l,lo,hi=>.frs k e ((l.drop lo).take (hi-lo))
def Cont.sub_cell (c:Cont) {lo hi:Nat} (h:lo<=hi) (hh:hi<=c.n):(c.sub lo hi).n=hi-lo∧(c.sub lo hi).e=c.e∧∀k m,k<hi-lo->(c.sub lo hi).cell k m=c.cell (lo+k) m:=by
 cases c<;>simp only[Cont.sub,Cont.n,Cont.e,Cont.cell]at * <;>
  first
  |(refine⟨by simp;omega,trivial,fun k m hk=>?_⟩;simp[za,hk])
  |(refine⟨by simp;omega,rfl,fun k m hk=>?_⟩;simp[za,hk])
def jpM (e:Nat) (r:List Nat):List Nat:=(zo e).map fun j=>r.getD j 0
def jyy (e:Nat) (r:List Nat):(jpM e r).length=e:=by simp[jpM]
def jD1 {e:Nat} {r:List Nat} {j:Nat} (h:j<e):(jpM e r).getD j 0=r.getD j 0:=by simp[jpM,za,h]
def jeB (e:Nat) (r:List Nat) (j x:Nat):List Nat:=(jpM e r).set j x
def jwf {e:Nat} {r:List Nat} {j x m:Nat} (hj:j<e) (hm:m<e):(jeB e r j x).getD m 0=if m=j then x else r.getD m 0:=by
 rw[jeB,jaL _ _ _ _ _ (by rw[jyy];exact hj)];split
 ·rfl
 ·exact jD1 hm
end Go.Sx
end

section
open Go.RowKit
namespace Go.Sx
structure Res where
 ob:Prop
 v:V
 hp:Hp
 nx:Nat
inductive RT where
 |leaf (r:Res)
 |br (b:Bool) (x y:RT)
def RT.sel:RT->Res| .leaf r=>r| .br b x y=>match b with|true=>x.sel|false=>y.sel
def RT.leaf?:RT->Option Res| .leaf r=>some r|_=>none
abbrev Spec:=List V->Hp->Nat->Option RT
def jal (hp:Hp):Hp:=hp.map fun x=>(x.1,match x.2 with | .view _ _ _=>.dead | .sub _ _ _ _ _ _=>.dead|o=>o)
def jaE (hp:Hp) (h:Nat):find (jal hp) h=(find hp h).map fun o=>match o with | .view _ _ _=>.dead | .sub _ _ _ _ _ _=>.dead|o=>o:=by
 induction hp with
 |nil=>rfl
 |cons x r ih =>
  obtain⟨k,o⟩:=x;simp only[jal,zJ,find]at *;split
  ·rfl
  ·exact ih
def dOf:C->Option D| .d x=>some x|_=>none
def jbo:List C->Option (List D)|[]=>some []|x::r=>match dOf x,jbo r with|some d,some l=>some (d::l)|_,_=>none
def jbU:∀{l:List C} {ds:List D},jbo l=some ds->l=ds.map C.d
 |[],ds,h=>by simp only[jbo,zk]at h;subst h;rfl
 |x::r,ds,h=>by
  simp only[jbo]at h;split at h
  ·rename_i d l hx hl;cases h;have:=jbU hl;cases x<;>simp[dOf]at hx;subst hx;simp[this]
  ·cases h
def jj6 (e:Nat):Nat->List D->List (List D)|0,_=>[]|n+1,l=>l.take e::jj6 e n (l.drop e)
def jj7 (e:Nat):∀(n:Nat) (l:List D),l.length=n*e->(jj6 e n l).flatten=l∧(jj6 e n l).length=n
 |0,l,h=>by
  have:l=[]:=z4 (by simpa using h);subst this;exact⟨rfl,rfl⟩
 |n+1,l,h=>by
  have h2:(l.drop e).length=n*e:=by rw[xm,h,qy];omega
  have:=jj7 e n (l.drop e) h2;simp only[jj6,yp,this.1,xE,zC,this.2,and_self]
def jpa {α:Type} (z:List α) (n:Nat):(zi n z).flatten.length=n*z.length:=by simp
def jej {α:Type} (z:List α):∀(n i:Nat),i<n*z.length->(zi n z).flatten[i]?=z[i%z.length]?
 |0,i,h=>by simp at h
 |n+1,i,h=>by
  rw[yP,yp]
  by_cases hi:i<z.length
  ·rw[z8 hi,Nat.mod_eq_of_lt hi]
  ·have hge:z.length<=i:=by omega
   rw[qh hge,jej z n (i-z.length) (by rw[qy]at h;omega)]
   congr 1
   exact(Nat.mod_eq_sub_mod hge).symm
def jgG (z:Array zt) (n:Nat):(jG z (n*z.size)).toList=(zi n z.toList).flatten:=by
 apply xn;intro i
 by_cases hi:i<n*z.size
 ·have h0:0<z.size:=by
   rcases Nat.eq_zero_or_pos z.size with h|h
   ·rw[h]at hi;omega
   ·exact h
  have hm:=x9 i h0;rw[jej z.toList n i (by simpa using hi)];simp[jG,hi,hm]
 ·rw[zW (by simp[jG];omega),zW (by simp;omega)]
def jfp (P:zQ) (elem n:Nat) (parts:List (Nat × W)):Option Cont :=
 match jaG P elem,szT P elem with
 |some z,some (e+1) =>
  if z.length=e+1∧n*(e+1)<=4096 then match jdC (fun i=>some (i*(e+1),e+1)) (zi n z).flatten parts,jbo z with|some out,some zd=>(match jbo out with|some ds=>jei zd (jj6 (e+1) n ds)|none=>none)|_,_=>none
  else none
 |_,_=>none
def jbV (hp:Hp) (v:V):Option (Option Nat × Option Cont) :=
 match v with
 | .w (.c (.o h))=>match(find hp h).bind O.cont with
  |some c=>some (some h,some c)
  |none=>none
 | .w (.c (.d (.v (.slice none 0 0))))=>some (none,none)
 |_=>none
def jc6 (z:List D) (c:Option Cont):Option Cont :=match c with|some c=>some c|none=>jei z []
def cutO (h:Nat) (o:O) (c:Cont):O :=match o with| .ext _=>.ext c| .fext _=>.fext c| .view r _ _=>.view r c false|_=>.view h c false
def jaY (P:zQ) (t:qI):Option Nat:=(P.info? t).map (·.bytes)
def jj8 (rd:zU->Option V):List zU->Option (List V)|[]=>some []|x::r=>match rd x,jj8 rd r with|some v,some l=>some (v::l)|_,_=>none
def Cont.one:Cont->Bool| .lits e l=>(Cont.lits e l).flat.all D.one|_=>true
def jwg (hp:Hp) (v:Option V):Option Cont :=match v with|some (.w (.c (.o h)))=>(match find hp h with|some (.view _ c true)=>some c|_=>none)|_=>none
def jio (P:zQ) (t:qI) (c1:Cont) (x:Option V) (hp:Hp) (nx:Nat):Option Res :=
 match P.underlying t,x.bind (jbV hp)with
 |some (.slice elem),some (_,cx) =>
  match(jaG P elem).bind jbo,szT P elem,jaY P elem with
  |some z,some (e+1),some b=>match jc6 z cx with
   |some c2=>match c1.app c2 with
    |some c3=>if z.length=e+1∧c1.e=e+1 then some ⟨0<c1.n∧0<c2.n∧(c1.n+c2.n)*b<=140737488355328∧c1.n+c2.n<=9223372036854775807,.w (.c (.o nx)),(nx,.row elem c3)::hp,nx+1⟩
     else none
    |none=>none
   |none=>none
  |_,_,_=>none
 |_,_=>none
def jpN (P:zQ) (t t':qI) (s x:Option V) (hp:Hp) (nx:Nat):Option Res :=
 match P.underlying t,P.underlying t',s.bind (jbV hp),x.bind V.int? with
 |some (.slice elem),some (.int _),some (some h,some c1),some (_,m) =>
  match find hp h,(jaG P elem).bind jbo,szT P elem,jaY P elem with
  |some (.row ty _),some z,some (e+1),some b=>match jgF z m.toNat with
   |some c2=>match c1.app c2 with
    |some c3=>if z.length=e+1∧c1.e=e+1∧c2.one=true∧ty=elem then some ⟨0<m∧(c1.n+c2.n)*b<=140737488355328∧c1.n+c2.n<=9223372036854775807,.w (.c (.o nx)),(nx,.row elem c3)::(h,.dead)::jal hp,nx+1⟩
     else none
    |none=>none
   |none=>none
  |_,_,_,_=>none
 |_,_,_,_=>none
def jrc:List D->Option (List Int)|[]=>some []| .i .i64 n::r=>(jrc r).map (n :: ·)|_=>none
def arrF (P:zQ) (t:qI):Option (Nat × AR) :=match jbF P t,szT P t,(jaG P t).bind jbo with|some true,some sz,some ds=>(match jAD ds,qM 8 ds.length,zB sz ds.length with|some k,true,true=>(jgr k ds).map fun r=>(sz,.f k r)|none,true,true=>(match qM 16 sz with|true=>(jrc ds).map fun r=>(sz,.i r)|false=>none)|_,_,_=>none)|_,_,_=>none
def XC.sub:XC->Nat->Nat->XC| .st sh l,lo,hi=>.st sh ((l.drop lo).take (hi-lo))| .ii k l,lo,hi=>.ii k ((l.drop lo).take (hi-lo))| .ff k l,lo,hi=>.ff k ((l.drop lo).take (hi-lo))| .bb k e l,lo,hi=>.bb k e ((l.drop lo).take (hi-lo))| .rr e l,lo,hi=>.rr e ((l.drop lo).take (hi-lo))
def jeC (b:Bool) (c:Cont):O:=match b with|true=>.fext c|false=>.ext c
def O.xk:O->Option (Bool × XC)| .xext x=>some (false,x)| .xrow _ x=>some (true,x)|_=>none
def ncH (b:Bool) (nx:Nat) (hp:Hp):NC->Hp| .d _=>hp| .r c=>(nx,jeC b c)::hp
def ncN (nx:Nat):NC->Nat| .d _=>nx| .r _=>nx+1
def ncs (b:Bool):List NC->Nat->Hp->List C × Hp × Nat|[],nx,hp=>([],hp,nx)|x::l,nx,hp=>match ncs b l (ncN nx x) (ncH b nx hp x)with|(cs,hp',nx')=>((match x with | .d y=>C.d y | .r _=>C.o nx)::cs,hp',nx')
def jeD (k:qf):List C->Option (List Nat)|[]=>some []| .d (.f k' n)::l=>(match jbT k k',jeD k l with|true,some r=>some (n::r)|_,_=>none)|_::_=>none
def AR.cont:AR->Cont| .f k r=>.floats k r| .i r=>.ints .i64 r
def jeE (e:Nat) (r:List Int):List Int:=(zo e).map fun j=>r.getD j 0
def AR.put (e:Nat):AR->Nat->D->Option AR| .f k r,m,.f k' v=>(match jbT k k' with|true=>some (.f k (jeB e r m v))|false=>none)| .i r,m,.i .i64 v=>some (.i ((jeE e r).set m v))|_,_,_=>none
def AR.kin:AR->AR->Bool| .f k _,.f k' _=>jbT k k'| .i _,.i _=>true|_,_=>false
def jgU:List C->Option (List Int)|[]=>some []| .d (.i .i64 n)::l=>(jgU l).map (n :: ·)|_::_=>none
def AR.cells:AR->List C->Option AR| .f k _,cs=>(jeD k cs).map (.f k ·)| .i _,cs=>(jgU cs).map .i
def jhM (P:zQ) (op:Op) (rd:zU->Option V) (hp:Hp) (nx:Nat):Option Res :=
 match op with
 | .box elem x =>
  match rd x with|some (.w (.b e x))=>some ⟨True,.w (.c (.p nx 0 1 0)),(nx,.arr elem e x)::hp,nx+1⟩|_=>none
 | .alloc elem =>
  match arrF P elem with|some (e,x)=>some ⟨True,.w (.c (.p nx 0 1 0)),(nx,.arr elem e x)::hp,nx+1⟩|none=>none
 | .buildSlice t n parts =>
  match P.underlying t,parts.toList with|some (.slice elem),[(0,x)]=>(match rd x,szT P elem,jaG P elem with|some (.w (.b (e+1) (.f k r))),some sz,some z=>(match zB n 1,zB sz (e+1),zB z.length (e+1),qM (e+1) 4096 with|true,true,true,true=>some ⟨True,.w (.c (.o nx)),(nx,.row elem (.frs k (e+1) [r]))::hp,nx+1⟩|_,_,_,_=>none)|_,_,_=>none)|_,_=>none
 | .slice t x lo hi none =>
  match P.underlying t,rd x,ja5 rd lo,ja5 rd hi with
  |some (.array n elem),some (.w (.c (.p h i e 0))),some l,some m =>
   match find hp h,szT P elem with
   |some (.arr _ E x),some 1=>match zB i 0,zB e 1,zB n E,qM 1 n with
    |true,true,true,true =>
     some ⟨x.cont.n=n∧0<=l.getD 0∧l.getD 0<=m.getD (n:Int)∧m.getD (n:Int)<=(n:Int),.w (.c (.o nx)),(nx,.view h (Cont.sub x.cont (l.getD 0).toNat (m.getD (n:Int)).toNat) m.isNone)::hp,nx+1⟩
    |_,_,_,_=>none
   |some (.ext (.frs k E r)),some 1=>match zB n E,zB e E,qM 1 n with
    |true,true,true =>
     some ⟨i<r.length∧(r.getD i []).length=n∧0<=l.getD 0∧l.getD 0<=m.getD (n:Int)∧m.getD (n:Int)<=(n:Int),.w (.c (.o nx)),(nx,.ext (Cont.sub (.floats k (r.getD i [])) (l.getD 0).toNat (m.getD (n:Int)).toNat))::hp,nx+1⟩
    |_,_,_=>none
   |_,_=>none
  |some (.slice elem),some (.w (.c (.o h))),some l,some m =>
   match find hp h,szT P elem with
   |some (.xext X),some sz=>match zB sz X.e,qM 1 sz with
    |true,true =>
     some ⟨0<=l.getD 0∧l.getD 0<=m.getD (X.n:Int)∧m.getD (X.n:Int)<=(X.n:Int),.w (.c (.o nx)),(nx,.xext (X.sub (l.getD 0).toNat (m.getD (X.n:Int)).toNat))::hp,nx+1⟩
    |_,_=>none
   |_,_=>none
  |_,_,_,_=>none
 | .load t x =>
  match rd x with
  |some (.w (.c (.p h i e j)))=>match(find hp h).bind O.xk with
   |some (b,X)=>match zB e X.e,jbF P t with|true,some false=>(match xp j X.e,X.cell i j with|true,.r c=>some ⟨i<X.n,.w (.c (.o nx)),(nx,jeC b c)::hp,nx+1⟩|_,_=>none)|true,some true=>(match zB j 0,szT P t with|true,some sz=>(match zB sz X.e with|true=>(match ncs b ((zo X.e).map fun m=>X.cell i m) nx hp with|(cs,hp',nx')=>some ⟨i<X.n,.w (.a cs),hp',nx'⟩)|false=>none)|_,_=>none)|_,_=>none
   |none=>none
  |_=>none
 | .store t x y =>
  match rd x,rd y with
  |some (.w (.c (.p h i e j))),some (.w (.c (.d v0))) =>
   match jbF P t,szT P t,find hp h,v0 with|some false,some 1,some (.arr ty E x),v=>(match x.put E (i*e+j) v with|some x'=>some ⟨i*e+j<E,vu,(h,.arr ty E x')::jal hp,nx⟩|none=>none)|some false,some 1,some (.row ty (.frs k' (E+1) l)),.f k v=>(match jbT k k',zB e (E+1)with|true,true=>some ⟨i<l.length∧j<E+1,vu,(h,.row ty (.frs k' (E+1) (l.set i (jeB (E+1) (l.getD i []) j v))))::jal hp,nx⟩|_,_=>none)|_,_,_,_=>none
  |some (.w (.c (.p h i e 0))),some (.w (.b E' y)) =>
   match jbF P t,szT P t,find hp h,y with|some true,some sz,some (.arr ty E x),y=>(match x.kin y,zB sz E,zB E' E,zB i 0 with|true,true,true,true=>some ⟨True,vu,(h,.arr ty E y)::jal hp,nx⟩|_,_,_,_=>none)|some true,some sz,some (.row ty (.frs k' (E+1) l)),.f k v=>(match jbT k k',zB sz (E+1),zB E' (E+1),zB e (E+1)with|true,true,true,true=>some ⟨i<l.length,vu,(h,.row ty (.frs k' (E+1) (l.set i v)))::jal hp,nx⟩|_,_,_,_=>none)|_,_,_,_=>none
  |some (.w (.c (.p h i e 0))),some (.w (.a cs)) =>
   match jbF P t,szT P t,find hp h with|some true,some sz,some (.arr ty E x)=>(match x.cells cs with|some y=>(match zB sz E,zB cs.length E,zB i 0 with|true,true,true=>some ⟨True,vu,(h,.arr ty E y)::jal hp,nx⟩|_,_,_=>none)|none=>none)|_,_,_=>none
  |_,_=>none
 |_=>none
def jbN:NK->NC->Bool| .i k,.d (.i k' _)=>decide (k=k')| .b,.d (.b _)=>true| .f k,.d (.f k' _)=>jbT k k'| .s,.d (.s _)=>true| .ints k,.r (.ints k' _)=>decide (k=k')| .recs e,.r (.recs e' _)=>zB e e'| .flts k,.r (.floats k' _)=>jbT k k'| .strs,.r (.strs _)=>true| .bools,.r (.bools _)=>true| .frs k e,.r (.frs k' e' _)=>(match jbT k k' with|true=>zB e e'|false=>false)|_,_=>false
def jrd:NK->Option NC| .ints k=>some (.r (.ints k []))| .recs (e+1)=>some (.r (.recs (e+1) []))| .flts k=>some (.r (.floats k []))| .strs=>some (.r (.strs []))| .bools=>some (.r (.bools []))| .frs k (e+1)=>some (.r (.frs k (e+1) []))|_=>none
def XC.sh:XC->List NK| .st sh _=>sh| .ii k _=>[.ints k]| .ff k _=>[.flts k]| .bb k e _=>[.frs k e]| .rr e _=>[.recs e]
def jjn (hp:Hp) (k:NK) (c:C):Option (NC × Option Nat) :=match c with| .d (.v (.slice none 0 0))=>(match jrd k with|some x=>some (x,none)|none=>none)| .d x=>(match jbN k (.d x)with|true=>some (.d x,none)|false=>none)| .o h=>(match find hp h with|some (.row _ c)=>(match jbN k (.r c)with|true=>some (.r c,some h)|false=>none)|some (.fext c)=>(match jbN k (.r c)with|true=>some (.r c,none)|false=>none)|_=>none)|_=>none
def jbG (hp:Hp):List NK->List C->Option (List NC × List Nat)|[],[]=>some ([],[])|k::ks,c::cs=>(match jjn hp k c,jbG hp ks cs with|some (x,h),some (l,hs)=>(some (x::l,match h with|some h=>h::hs|none=>hs))|_,_=>none)|_,_=>none
def frz (hp:Hp):List Nat->Hp
 |[]=>hp
 |h::r=>match(find (frz hp r) h).bind O.cont with
  |some c=>(h,.fext c)::frz hp r
  |none=>frz hp r
def XC.put (X:XC) (i:Nat) (r:List NC):XC :=match X with| .st sh l=>.st sh (l.set i r)| .ii k l=>.ii k (l.set i ((r.headD (.d (.v zX))).toInts))| .ff k l=>.ff k (l.set i ((r.headD (.d (.v zX))).toFlts))| .bb k e l=>.bb k e (l.set i ((r.headD (.d (.v zX))).toFrs))| .rr e l=>.rr e (l.set i ((r.headD (.d (.v zX))).toRecs))
def XC.mk (X:XC) (rs:List (List NC)):XC :=match X with| .st sh _=>.st sh rs| .ii k _=>.ii k (rs.map fun r=>(r.headD (.d (.v zX))).toInts)| .ff k _=>.ff k (rs.map fun r=>(r.headD (.d (.v zX))).toFlts)| .bb k e _=>.bb k e (rs.map fun r=>(r.headD (.d (.v zX))).toFrs)| .rr e _=>.rr e (rs.map fun r=>(r.headD (.d (.v zX))).toRecs)
def XC.rep (X:XC) (n:Nat) (r:List NC):XC :=match X with| .st sh _=>.st sh (zi n r)| .ii k _=>.ii k (zi n ((r.headD (.d (.v zX))).toInts))| .ff k _=>.ff k (zi n ((r.headD (.d (.v zX))).toFlts))| .bb k e _=>.bb k e (zi n ((r.headD (.d (.v zX))).toFrs))| .rr e _=>.rr e (zi n ((r.headD (.d (.v zX))).toRecs))
def XC.app:XC->XC->Option XC| .st sh l,.st sh' l'=>if sh=sh' then some (.st sh (l++l'))else none| .ii k l,.ii k' l'=>if k=k' then some (.ii k (l++l'))else none| .ff k l,.ff k' l'=>if k=k' then some (.ff k (l++l'))else none| .bb k e l,.bb k' e' l'=>if k=k'∧e=e' then some (.bb k e (l++l'))else none| .rr e l,.rr e' l'=>if e=e' then some (.rr e (l++l'))else none|_,_=>none
def jdU (sh:List NK) (r:List NC) (j:Nat) (x:NC):List NC:=(zo sh.length).map fun m=>cond (zB m j) x ((sh.getD m .b).norm (r.getD m (.d (.v zX))))
def XC.row (X:XC) (i j:Nat) (x:NC):List NC :=match X with| .st sh l=>jdU sh (l.getD i []) j x|_=>[x]
def nkSl (P:zQ) (e:qI) (sub:Option (List NK)):Option NK :=match P.underlying e with|some (.int k)=>some (.ints k)|some (.float k)=>some (.flts k)|some .string=>some .strs|some .bool=>some .bools|some (.array n el)=>(match P.underlying el with|some (.float k)=>(match szT P el with|some 1=>some (.frs k n)|_=>none)|_=>none)|some (.struct _)=>(match sub with|some l=>(match l.all fun x=>decide (x=.i .i64)with|true=>some (.recs l.length)|false=>none)|none=>none)|_=>none
def nkT (P:zQ):Nat->qI->Option (List NK)|0,_=>none|n+1,t=>match P.underlying t with|some (.int k)=>some [.i k]|some (.float k)=>some [.f k]|some .string=>some [.s]|some .bool=>some [.b]|some (.slice e)=>(match nkSl P e (nkT P n e)with|some k=>some [k]|none=>none)|some (.array m e)=>(match nkT P n e with|some l=>some (zi m l).flatten|none=>none)|some (.struct fs)=>(fs.toList.foldr (fun f l=>match nkT P n f.type,l with|some a,some b=>some (a++b)|_,_=>none) (some []))|_=>none
def NK.isSl:NK->Bool| .i _=>false| .b=>false| .f _=>false| .s=>false|_=>true
def xcT (P:zQ) (elem:qI):Option XC :=match nkT P 6 elem with|some sh=>(match P.underlying elem with|some (.struct _)=>(match sh.any NK.isSl with|true=>some (.st sh [])|false=>none)|some (.slice _)=>(match sh with|[.ints k]=>some (.ii k [])|[.flts k]=>some (.ff k [])|[.frs k e]=>some (.bb k e [])|[.recs e]=>some (.rr e [])|_=>none)|_=>none)|none=>none
def jgH (hp:Hp) (sh:List NK):Nat->List (Nat × W)->Option (List (List NC) × List Nat)|_,[]=>some ([],[])|n,(i,u)::r=>match zB i n,jbG hp sh u.cells,jgH hp sh (n+1) r with|true,some (x,hs),some (l,gs)=>some (x::l,hs++gs)|_,_,_=>none
def xOf (hp:Hp) (X0:XC) (v:V):Option (Option Nat × Nat × XC) :=match v with| .w (.c (.o h))=>(match find hp h with|some (.xrow ty X)=>some (some h,ty,X)|_=>none)| .w (.c (.d (.v (.slice none 0 0))))=>some (none,0,X0)|_=>none
def jhN [Globs] (P:zQ) (op:Op) (rd:zU->Option V) (hp:Hp) (nx:Nat):Option Res :=
 match op with
 | .makeSlice t l c =>
  match P.underlying t,(rd l).bind V.int?,(rd c).bind V.int? with|some (.slice elem),some (_,n),some (_,m)=>(match xcT P elem,jaG P elem,jaY P elem,szT P elem with|some X0,some z,some b,some (e+1)=>(match jbG [] X0.sh z,zB z.length (e+1)with|some (r,_),true=>some ⟨0<=n∧n=m∧(b:Int)*n<=281474976710656∧n<=9223372036854775807,.w (.c (.o nx)),(nx,.xrow elem (X0.rep n.toNat r))::hp,nx+1⟩|_,_=>none)|_,_,_,_=>none)|_,_,_=>none
 | .buildSlice t n parts =>
  match Globs.nestT t,P.underlying t,jcG rd hp parts.toList with|true,some (.slice elem),some l=>(match xcT P elem,jaG P elem,szT P elem with|some X0,some z,some (e+1)=>(match jgH hp X0.sh 0 l,zB l.length n,zB z.length (e+1),zB X0.sh.length (e+1),qM (n*(e+1)) 4096 with|some (rs,hs),true,true,true,true=>some ⟨True,.w (.c (.o nx)),(nx,.xrow elem (X0.mk rs))::frz hp hs,nx+1⟩|_,_,_,_,_=>none)|_,_,_=>none)|_,_,_=>none
 | .store t x y =>
  match rd x,rd y with
  |some (.w (.c (.p h i e j))),some (.w u) =>
   match find hp h,szT P t with|some (.xrow ty X),some sz=>(match u.one hp,u.cells.all (fun c=>c.one hp),zB e X.e,zB X.sh.length e,qM 1 e,zB sz u.cells.length with|true,true,true,true,true,true=>(match zB sz e with|true=>(match zB j 0,jbG hp X.sh u.cells with|true,some (r,hs)=>some ⟨i<X.n,vu,(h,.xrow ty (X.put i r))::frz (jal hp) hs,nx⟩|_,_=>none)|false=>match u.cells,X.sh[j]? with|[c],some k=>(match jjn hp k c with|some (x,g)=>some ⟨i<X.n,vu,(h,.xrow ty (X.put i (X.row i j x)))::frz (jal hp) g.toList,nx⟩|none=>none)|_,_=>none)|_,_,_,_,_,_=>none)|_,_=>none
  |_,_=>none
 | .call c =>
  match c.callee,c.args.toList,c.argTypes.toList with
  | .builtin .append,[s,x],[t,t'] =>
   match zB t t',P.underlying t with
   |true,some (.slice elem)=>match xcT P elem,jaG P elem,szT P elem,jaY P elem with
    |some X0,some z,some (e+1),some b=>match(rd s).bind (xOf hp X0),(rd x).bind (xOf hp X0)with
     |some (hs,ty,X1),some (hx,ty',X2)=>match X1.app X2,(match hs with|some _=>zB ty elem|none=>true),(match hx with|some _=>zB ty' elem|none=>true),zB z.length (e+1),zB X1.sh.length (e+1)with
      |some X3,true,true,true,true=>some ⟨(X1.n+X2.n)*b<=140737488355328∧X1.n+X2.n<=9223372036854775807,.w (.c (.o nx)),(nx,.xrow elem X3)::(match hs with|some h=>(h,.dead)::jal hp|none=>jal hp),nx+1⟩
      |_,_,_,_,_=>none
     |_,_=>none
    |_,_,_,_=>none
   |_,_=>none
  |_,_,_=>none
 |_=>none
def tyT (P:zQ):Nat->qI->Option (List Nat)|0,_=>none|n+1,t=>match P.underlying t with|some (.int _)=>some [0]|some (.float _)=>some [0]|some .string=>some [0]|some .bool=>some [0]|some (.slice e)=>some [e]|some (.array m e)=>(match tyT P n e with|some l=>some (zi m l).flatten|none=>none)|some (.struct fs)=>(fs.toList.foldr (fun f l=>match tyT P n f.type,l with|some a,some b=>some (a++b)|_,_=>none) (some []))|_=>none
def jch (hp:Hp) (k:NK) (t:Nat) (c:C):Option (NC × Option Nat) :=match c with| .d (.v (.slice none 0 0))=>(match jrd k with|some x=>some (x,none)|none=>none)| .d x=>(match jbN k (.d x)with|true=>some (.d x,none)|false=>none)| .o h=>(match find hp h with|some (.row ty c)=>(match jbN k (.r c),zB ty t with|true,true=>some (.r c,some h)|_,_=>none)|_=>none)|_=>none
def jaS (hp:Hp):List NK->List Nat->List C->Option (List NC × List Nat)|[],_,[]=>some ([],[])|k::ks,ts,c::cs=>(match jch hp k (ts.headD 0) c,jaS hp ks ts.tail cs with|some (x,h),some (l,hs)=>(some (x::l,match h with|some h=>h::hs|none=>hs))|_,_=>none)|_,_,_=>none
def jeF (hp:Hp) (sh:List NK) (ts:List Nat):Nat->List (Nat × W)->Option (List (List NC) × List Nat)|_,[]=>some ([],[])|n,(i,u)::r=>match zB i n,jaS hp sh ts u.cells,jeF hp sh ts (n+1) r with|true,some (x,hs),some (l,gs)=>some (x::l,hs++gs)|_,_,_=>none
def jfB:List Nat->Bool|[]=>true|h::r=>match r.contains h with|true=>false|false=>jfB r
def jdj (hp:Hp):List Nat->Hp|[]=>hp|h::r=>(h,.dead)::jdj hp r
def jcH (h i e:Nat) (ts:List Nat):Nat->List NC->Nat->Hp->List C × Hp × Nat|_,[],nx,hp=>([],hp,nx)|j,x::l,nx,hp=>match x with| .d y=>(match jcH h i e ts (j+1) l nx hp with|(cs,hp',nx')=>(.d y::cs,hp',nx'))| .r c=>match jcH h i e ts (j+1) l (nx+1) ((nx,.sub h i e j (ts.getD j 0) c)::hp)with|(cs,hp',nx')=>(.o nx::cs,hp',nx')
def joj (r e j:Nat) (hp:Hp):Hp:=hp.map fun x=>(x.1,match x.2 with| .view _ _ _=>.dead| .sub r2 i2 e2 j2 t2 c2=>(match zB r2 r,zB e2 e,zB j2 j with|true,true,false=>.sub r2 i2 e2 j2 t2 c2|_,_,_=>.dead)|o=>o)
def mOf (hp:Hp) (X0:XC) (v:V):Option (Option Nat × Nat × List Nat × XC) :=match v with| .w (.c (.o h))=>(match find hp h with|some (.mrow ty ts X none)=>some (some h,ty,ts,X)|_=>none)| .w (.c (.d (.v (.slice none 0 0))))=>some (none,0,[],X0)|_=>none
def jcC (hp:Hp):Option Nat->Hp|some h=>(h,.dead)::hp|none=>hp
def jjo [Globs] (P:zQ) (t elem:qI) (us ux:Option V) (hp:Hp) (nx:Nat):Option Res :=
 match Globs.nestM t,xcT P elem,jaG P elem,szT P elem,jaY P elem,tyT P 6 elem with
 |true,some X0,some z,some (e+1),some b,some ts=>match us.bind (mOf hp X0),ux.bind (mOf hp X0)with
  |some (hs,ty,t1,X1),some (hx,ty',t2,X2)=>match X1.app X2,(match hs with|some _=>zB ty elem&&decide (t1=ts)|none=>true),(match hx with|some _=>zB ty' elem&&decide (t2=ts)|none=>true),zB z.length (e+1),zB X1.sh.length (e+1),(match hs,hx with|some a,some b=>!(zB a b)|_,_=>true)with
   |some X3,true,true,true,true,true=>some ⟨(X1.n+X2.n)*b<=140737488355328∧X1.n+X2.n<=9223372036854775807,.w (.c (.o nx)),(nx,.mrow elem ts X3 none)::jcC (jcC (jal hp) hs) hx,nx+1⟩
   |_,_,_,_,_,_=>none
  |_,_=>none
 |_,_,_,_,_,_=>none
def jhO [Globs] (P:zQ) (op:Op) (rd:zU->Option V) (hp:Hp) (nx:Nat):Option Res :=
 match op with
 | .makeSlice t l c =>
  match Globs.nestM t,P.underlying t,(rd l).bind V.int?,(rd c).bind V.int? with|true,some (.slice elem),some (_,n),some (_,m)=>(match xcT P elem,jaG P elem,jaY P elem,szT P elem,tyT P 6 elem with|some X0,some z,some b,some (e+1),some ts=>(match jaS [] X0.sh ts z,zB z.length (e+1)with|some (r,_),true=>some ⟨0<=n∧n=m∧(b:Int)*n<=281474976710656∧n<=9223372036854775807,.w (.c (.o nx)),(nx,.mrow elem ts (X0.rep n.toNat r) none)::hp,nx+1⟩|_,_=>none)|_,_,_,_,_=>none)|_,_,_,_=>none
 | .buildSlice t n parts =>
  match Globs.nestM t,Globs.nestT t,P.underlying t,jcG rd hp parts.toList with|true,true,some (.slice elem),some l=>(match xcT P elem,jaG P elem,szT P elem,tyT P 6 elem with|some X0,some z,some (e+1),some ts=>(match jeF hp X0.sh ts 0 l,zB l.length n,zB z.length (e+1),zB X0.sh.length (e+1),qM (n*(e+1)) 4096 with|some (rs,hs),true,true,true,true=>(match jfB hs with|true=>some ⟨True,.w (.c (.o nx)),(nx,.mrow elem ts (X0.mk rs) none)::jdj hp hs,nx+1⟩|false=>none)|_,_,_,_,_=>none)|_,_,_,_=>none)|_,_,_,_=>none
 | .load t x =>
  match rd x with|some (.w (.c (.p h i e j)))=>(match find hp h with|some (.mrow _ ts X none)=>(match zB e X.e,jbF P t with|true,some false=>(match xp j X.e,X.cell i j with|true,.r c=>some ⟨i<X.n,.w (.c (.o nx)),(nx,.sub h i X.e j (ts.getD j 0) c)::hp,nx+1⟩|_,_=>none)|true,some true=>(match zB j 0,szT P t with|true,some sz=>(match zB sz X.e with|true=>(match jcH h i X.e ts 0 ((zo X.e).map fun m=>X.cell i m) nx hp with|(cs,hp',nx')=>some ⟨i<X.n,.w (.a cs),hp',nx'⟩)|false=>none)|_,_=>none)|_,_=>none)|_=>none)|_=>none
 | .store t x y =>
  match rd x,rd y with
  |some (.w (.c (.p h i e j))),some (.w u) =>
   match find hp h,szT P t with|some (.mrow ty ts X ho),some sz=>(match u.one hp,u.cells.all (fun c=>c.one hp),zB e X.e,zB X.sh.length e,qM 1 e,zB sz u.cells.length with|true,true,true,true,true,true=>(match zB sz e,ho with|true,none=>(match zB j 0,jaS hp X.sh ts u.cells with|true,some (r,hs)=>(match jfB hs with|true=>some ⟨i<X.n,vu,(h,.mrow ty ts (X.put i r) none)::jdj (jal hp) hs,nx⟩|false=>none)|_,_=>none)|_,_=>match u.cells,X.sh[j]? with|[c],some k=>(match jch hp k (ts.getD j 0) c with|some (x,g)=>(match ho with|none=>some ⟨i<X.n,vu,(h,.mrow ty ts (X.put i (X.row i j x)) none)::jdj (jal hp) g.toList,nx⟩|some (i0,j0)=>match zB j j0 with|true=>some ⟨i=i0∧i<X.n,vu,(h,.mrow ty ts (X.put i (X.row i j x)) none)::jdj (jal hp) g.toList,nx⟩|false=>none)|none=>none)|_,_=>none)|_,_,_,_,_,_=>none)|some (.sub r i0 e0 j0 t0 c),some sz=>(match u.one hp,u.cells.all (fun c=>c.one hp),zB e c.e,qM 1 e,zB sz u.cells.length,jbo u.cells with|true,true,true,true,true,some ds=>(match c.upd i j ds,find hp r with|some c',some (.mrow ty ts X none)=>(match zB e0 X.e,X.sh[j0]? with|true,some k=>(match jbN k (.r c'),zB (ts.getD j0 0) t0 with|true,true=>some ⟨i<c.n,vu,(r,.mrow ty ts (X.put i0 (X.row i0 j0 (.r c'))) none)::(h,.sub r i0 e0 j0 t0 c')::joj r e0 j0 hp,nx⟩|_,_=>none)|_,_=>none)|_,_=>none)|_,_,_,_,_,_=>none)|_,_=>none
  |_,_=>none
 | .call c =>
  match c.callee,c.args.toList,c.argTypes.toList with
  | .builtin .append,[s,x],[t,t'] =>
   match zB t t',P.underlying t with
   |true,some (.slice elem) =>
    match(rd s).bind V.obj? with
    |some hs0=>match find hp hs0 with
     |some (.sub r i e0 j t0 c1)=>match(rd x).bind (jbV hp),(jaG P elem).bind jbo,szT P elem,jaY P elem,find hp r with
      |some (_,cx),some z,some (e+1),some b,some (.mrow ty ts X none)=>match jc6 z cx with
       |some c2=>match c1.app c2,zB t0 elem,zB e0 X.e with
        |some c3,true,true=>if z.length=e+1∧c1.e=e+1∧c2.one=true then some ⟨(c1.n+c2.n)*b<=140737488355328∧c1.n+c2.n<=9223372036854775807,.w (.c (.o nx)),(nx,.row elem c3)::(r,.mrow ty ts X (some (i,j)))::jal hp,nx+1⟩
         else none
        |_,_,_=>none
       |none=>none
      |_,_,_,_,_=>none
     |_=>jjo P t elem (rd s) (rd x) hp nx
    |none=>jjo P t elem (rd s) (rd x) hp nx
   |_,_=>none
  |_,_,_=>none
 |_=>none
def O.isSub:O->Bool| .sub _ _ _ _ _ _=>true|_=>false
def jCu (hp:Hp):Bool:=hp.any fun x=>x.2.isSub
def jvV (hp:Hp):O->O| .view _ _ _=>.dead| .sub r i e j t c=>(match find hp r with|some (.mrow _ _ _ none)=>.sub r i e j t c|_=>.dead)|o=>o
def jre (hp:Hp):Hp:=hp.map fun x=>(x.1,jvV hp x.2)
def jhP (P:zQ) (op:Op) (rd:zU->Option V) (hp:Hp) (nx:Nat):Option Res :=
 match op with
 | .load t x =>
  match rd x with|some (.w (.c (.p h i e j)))=>(match find hp h with|some (.trow _ _ X m)=>(match zB e X.e,jbF P t with|true,some false=>(match xp j X.e,X.cell i j with|true,.r c=>some ⟨i<X.n∧m<=i*X.e+j,.w (.c (.o nx)),(nx,.ext c)::hp,nx+1⟩|_,_=>none)|_,_=>none)|_=>none)|_=>none
 | .store t x y =>
  match rd x,rd y with
  |some (.w (.c (.p h i e j))),some (.w u) =>
   match find hp h,szT P t with
   |some (.trow ty ts X m),some sz=>match u.one hp,u.cells.all (fun c=>c.one hp),zB e X.e,zB sz u.cells.length with
    |true,true,true,true=>match u.cells,X.sh[j]? with
     |[c],some k=>match jch hp k (ts.getD j 0) c with
      |some (x,g)=>some ⟨i<X.n∧m<=i*X.e+j∧∀i' j',j'<X.e->m<=i' * X.e+j'->i' * X.e+j'<i*X.e+j->(X.sh.getD j' .b).isSl=false,vu,(h,.trow ty ts (X.put i (X.row i j x)) (i*X.e+j+1))::jdj (jal hp) g.toList,nx⟩
      |none=>none
     |_,_=>none
    |_,_,_,_=>none
   |some (.box ty cs),some sz=>match jCu hp,u.one hp,u.cells.all (fun c=>c.one hp),zB sz u.cells.length,qM 1 e,qM (i*e+j+u.cells.length) cs.length with|true,true,true,true,true,true=>some ⟨True,vu,(h,.box ty (cs.take (i*e+j)++u.cells++cs.drop (i*e+j+u.cells.length)))::jre hp,nx⟩|_,_,_,_,_,_=>none
   |_,_=>none
  |_,_=>none
 |_=>none
def jrf (P:zQ) (sp:Nat->Option (Bool × Spec)) (op:Op) (rd:zU->Option V) (hp:Hp) (nx:Nat):Option Res :=
 match op with
 | .box elem x =>
  match rd x with|some (.w u)=>if u.one hp=true then some ⟨True,.w (.c (.p nx 0 1 0)),(nx,.box elem u.cells)::hp,nx+1⟩else none|_=>none
 | .alloc elem =>
  match jaG P elem with|some z=>some ⟨True,.w (.c (.p nx 0 1 0)),(nx,.box elem z)::hp,nx+1⟩|none=>none
 | .buildSlice t n parts =>
  match P.underlying t,jcG rd hp parts.toList with|some (.slice elem),some l=>(match jfp P elem n l with|some c=>some ⟨True,.w (.c (.o nx)),(nx,.row elem c)::hp,nx+1⟩|none=>none)|_,_=>none
 | .makeSlice t l c =>
  match P.underlying t,(rd l).bind V.int?,(rd c).bind V.int? with
  |some (.slice elem),some (_,n),some (_,m) =>
   match(jaG P elem).bind jbo,szT P elem,jaY P elem with
   |some z,some (e+1),some b=>if z.length=e+1 then match jgF z n.toNat with|some c=>some ⟨0<=n∧n=m∧(b:Int)*n<=281474976710656∧n<=9223372036854775807,.w (.c (.o nx)),(nx,.row elem c)::hp,nx+1⟩|none=>none
    else none
   |_,_,_=>none
  |_,_,_=>none
 | .slice t x lo hi none =>
  match P.underlying t,rd x,ja5 rd lo,ja5 rd hi with
  |some (.array n elem),some (.w (.c (.p h 0 1 j))),some none,some none =>
   match find hp h,szT P elem,(jaG P elem).bind jbo with
   |some (.box _ cs),some (e+1),some z=>match jbo ((cs.drop j).take (n*(e+1)))with
    |some ds=>if z.length=e+1∧ds.length=n*(e+1)∧0<n then match jei z (jj6 (e+1) n ds)with|some c=>some ⟨True,.w (.c (.o nx)),(nx,.view h c true)::hp,nx+1⟩|none=>none
     else none
    |none=>none
   |_,_,_=>none
  |some (.slice elem),some (.w (.c (.o h))),some l,some m =>
   match find hp h,szT P elem with
   |some o,some (e+1)=>match o.cont with
    |some c=>if c.e=e+1 then let lo:=l.getD 0
      let hi:=m.getD (c.n:Int)
      some ⟨0<=lo∧lo<=hi∧hi<=(c.n:Int),.w (.c (.o nx)),(nx,cutO h o (c.sub lo.toNat hi.toNat))::hp,nx+1⟩
     else none
    |none=>none
   |_,_=>none
  |_,_,_,_=>none
 | .store t x y =>
  match rd x,rd y with
  |some (.w (.c (.p h i e j))),some (.w u) =>
   if u.one hp=true∧szT P t=some u.cells.length∧(u.cells.all fun c=>c.one hp)=true then
    match find hp h with
    |some (.box ty cs)=>if i*e+j+u.cells.length<=cs.length then some ⟨True,vu,(h,.box ty (cs.take (i*e+j)++u.cells++cs.drop (i*e+j+u.cells.length)))::jal hp,nx⟩
      else none
    |some (.row ty c)=>match jbo u.cells with|some ds=>(match c.upd i j ds with|some c'=>if e=c.e∧0<e then some ⟨i<c.n,vu,(h,.row ty c')::jal hp,nx⟩else none|none=>none)|none=>none
    |_=>none
   else none
  |_,_=>none
 | .call c =>
  match c.callee,c.args.toList,c.argTypes.toList with
  | .builtin .append,[s,x],[t,t'] =>
   if t=t' then
    match jwg hp (rd s)with
    |some c1=>jio P t c1 (rd x) hp nx
    |none=>match P.underlying t,(rd s).bind (jbV hp),(rd x).bind (jbV hp)with
    |some (.slice elem),some (hs,cs),some (_,cx) =>
     match(jaG P elem).bind jbo,szT P elem,jaY P elem,find hp (hs.getD nx)with
     |some z,some (e+1),some b,os =>
      match(match hs,os with|none,_=>true|some _,some (.row ty _)=>ty==elem|_,_=>false),jc6 z cs,jc6 z cx with
      |true,some c1,some c2=>match c1.app c2 with
       |some c3=>if z.length=e+1∧c1.e=e+1∧c2.one=true then
         some ⟨(c1.n+c2.n)*b<=140737488355328∧c1.n+c2.n<=9223372036854775807,.w (.c (.o nx)),(nx,.row elem c3)::(match hs with|some h=>(h,.dead)::jal hp|none=>jal hp),nx+1⟩
        else none
       |none=>none
      |_,_,_=>none
     |_,_,_,_=>none
    |_,_,_=>none
   else jpN P t t' (rd s) (rd x) hp nx
  | .value f,args,_ =>
   match rd f,jj8 rd args with|some (.w (.c (.fn g hs))),some vs=>(match sp g with|some (_,S)=>(S (vs++hs.map fun h=>.w (.c (.o h))) hp nx).bind RT.leaf?|none=>none)|_,_=>none
  |_,_,_=>none
 |_=>none
def jAF (op:ft) (k:qf) (a b:Nat):Option (Option Nat) :=match op with| .add=>some (k.format.add a b)| .sub=>some (k.format.sub a b)| .mul=>some (k.format.mul a b)| .quo=>some (k.format.div a b)|_=>none
def jAG (P:zQ) (sp:Nat->Option (Bool × Spec)) (op:Op) (rd:zU->Option V) (hp:Hp) (nx:Nat):Option RT :=
 match op with
 | .binOp op _ x y _ =>
  match rd x,rd y with|some (.w (.c (.d (.f k a)))),some (.w (.c (.d (.f k' b))))=>(match jbT k k',jAF op k a b with|true,some r=>some (.br r.isSome (.leaf ⟨True,vf k (r.getD 0),hp,nx⟩) (.leaf ⟨True,.w (.c (.o nx)),(nx,.nan k)::hp,nx+1⟩))|_,_=>none)|_,_=>none
 | .convert src dst x =>
  match P.underlying src,P.underlying dst,rd x with
  |some (.float .f32),some (.float .f64),some (.w (.c (.d (.f .f32 b)))) =>
   some (.br (jsN b) (.leaf ⟨True,.w (.c (.o nx)),(nx,.nan .f64)::hp,nx+1⟩) (.leaf ⟨True,vf .f64 (jv7 b),hp,nx⟩))
  |_,_,_=>none
 | .call c =>
  match c.callee with| .value f=>(match rd f,jj8 rd c.args.toList with|some (.w (.c (.fn g hs))),some vs=>(match sp g with|some (_,S)=>S (vs++hs.map fun h=>.w (.c (.o h))) hp nx|none=>none)|_,_=>none)|_=>none
 |_=>none
end Go.Sx
end

section
open Go.RowKit
namespace Go.Sx
section
variable [Globs] {P:zQ} {I:Env} {B:Kd} {nx:Nat} {hp:Hp} {w:zs} {rd:zU->Option V} {a:Act}
structure Grow (B B':Kd) (M:Bool) (w w':zs):Prop where
 le:B.Le B'
 new:∀k,B'.all k->B.all k∨k<w'.heap.size
 out:∀k,B'.fr k->B.fr k∨¬B.kp k
 mono:M=true->(∀k,B'.all k->B.all k∨w.heap.size<=k)∧B.LeM B'
def Grow.refl (B:Kd) (M:Bool) (w w':zs):Grow B B M w w':=⟨⟨fun _ h=>h,fun _ h=>h⟩,fun _ h=>.inl h,fun _ h=>.inl h,fun _=>⟨fun _ h=>.inl h,fun _ _ h=>h⟩⟩
def Grow.trans {B B1 B2:Kd} {M:Bool} {w w1 w2:zs} (h:Grow B B1 M w w1) (k:Grow B1 B2 M w1 w2) (hw:w.heap.size<=w1.heap.size) (hw2:w1.heap.size<=w2.heap.size):Grow B B2 M w w2:=by
 refine⟨⟨fun i hi=>k.le.kp i (h.le.kp i hi),fun i hi=>k.le.fr i (h.le.fr i hi)⟩,fun i hi=>?_,fun i hi=>?_,fun hM=>⟨fun i hi=>?_,fun i g hi=>(k.mono hM).2 i g ((h.mono hM).2 i g hi)⟩⟩
 ·rcases k.new i hi with h1|h1
  ·rcases h.new i h1 with h2|h2
   ·exact .inl h2
   ·exact .inr (zF h2 hw2)
  ·exact .inr h1
 ·rcases k.out i hi with h1|h1
  ·exact h.out i h1
  ·exact .inr fun h2=>h1 (h.le.kp i h2)
 ·rcases(k.mono hM).1 i hi with h1|h1
  ·exact(h.mono hM).1 i h1
  ·exact .inr (qN hw h1)
def Grow.weak {B B':Kd} {M:Bool} {w w1 w':zs} (h:Grow B B' M w w'):Grow B B' false w1 w':=⟨h.le,h.new,h.out,fun h=>by cases h⟩
def Grow.later {B B':Kd} {w w1 w' w2:zs} (h:Grow B B' false w w') (hs:w'.heap.size<=w2.heap.size):Grow B B' false w1 w2:=⟨h.le,fun k hk=>(h.new k hk).imp id fun b=>zF b hs,h.out,fun h=>by cases h⟩
def Grow.old {B B':Kd} {M:Bool} {w w':zs} (h:Grow B B' M w w') (hB:Old B w'):Old B' w':=fun k hk=>(h.new k hk).elim (hB k) id
def HRel.gr {I':Env} {B:Kd} {M:Bool} {w w':zs} {hp':Hp} {nx':Nat} (h:HRel I' B hp' nx' w'):∃B',Grow B B' M w w'∧HRel I' B' hp' nx' w':=⟨B,Grow.refl B M w w',h⟩
structure Left [Globs] (I:Env) (B:Kd) (nx:Nat) (w:zs) (r:Res) (M:Bool) (I':Env) (w':zs):Prop where
 agree:jak nx I I'
 lt:r.v.lt r.nx
 le:nx<=r.nx
 heap:∃B',Grow B B' M w w'∧HRel I' B' r.hp r.nx w'
 below:Bel B w w'
 mono:M=true->x8 w.heap.size w w'
 fresh:M=true->∀h o k,nx<=h->find r.hp h=some o->o.blk (I' h)=some k->w.heap.size<=k
def jaJ (P:zQ) (I:Env) (B:Kd) (nx:Nat) (a:Act) (w:zs) (o:qx) (r:Res) (M:Bool):Prop :=∀(K:Act->zs->Prop) (Q:Exit->Act->zs->Prop),(∀I' w',Left I B nx w r M I' w'->K (a.put o.dst (r.v.val I')) w')->o.wp P a w K Q
def upd (I:Env) (n:Nat) (v:zt):Env:=fun h=>if h=n then v else I h
def jas (I:Env) (n:Nat) (v:zt):jak n I (upd I n v):=fun h hh=>by simp[upd,Nat.ne_of_lt hh]
@[simp] theorem upd_same (I:Env) (n:Nat) (v:zt):upd I n v n=v:=by simp[upd]
def jaq {o:qx} {r:Res} {M:Bool} {I':Env} {w':zs} (h:(qS a.eval o).run P w=.ok (.value (r.v.val I')) w') (hl:Left I B nx w r M I' w'):jaJ P I B nx a w o r M:=by
 intro K Q hK;unfold gR;rw[h];exact hK I' w' hl
def jcs {o:qx} {r:Res} {M:Bool} {I':Env} {w':zs} (h:(qS a.eval o).run P w=.ok .skip w') (hv:r.v.val I'=zX) (hl:Left I B nx w r M I' w'):jaJ P I B nx a w o r M:=by
 intro K Q hK;unfold gR;rw[h];have:=hK I' w' hl;rw[hv]at this;exact this
def jbu {r:Res} (hh:HRel I B hp nx w) (hB:Old B w) (v:zt) (cells:Array zt) (ty:Nat) (obj:O) (hr:r.hp=(nx,obj)::hp) (hn:r.nx=nx+1) (hv:r.v.lt (nx+1)) (M:Bool)
  (hl:obj.lt (nx+1)) (ho:obj.ok (upd I nx v) B (w.alloc (.cells cells ty)) nx) (hb:∀k,obj.blk v=some k->w.heap.size<=k) :
  Left I B nx w r M (upd I nx v) (w.alloc (.cells cells ty)):=by
 have hbel:x8 w.heap.size w (w.alloc (.cells cells ty)):=(xz _ w).alloc (zq _) _;refine⟨jas _ _ _,by rw[hn];exact hv,by omega,HRel.gr ?_,jc5 hbel hB,fun _=>hbel,fun _ h o k hnh hf hk=>?_⟩
 ·rw[hr,hn];exact hh.add hbel hB (jas _ _ _) hl ho (by simpa using hb)
 ·rw[hr]at hf;simp only[find]at hf;split at hf
  ·rename_i e;subst e;cases hf;rw[upd_same]at hk;exact hb k hk
  ·have:=(hh.ok h o hf).1;omega
def jCv {cs:List C} {ty:Nat} (hB:Old B w) (hl:∀c∈cs,C.lt nx c) :
  (O.box ty cs).ok (upd I nx (.pointer (some ⟨w.heap.size,0,none⟩))) B (w.alloc (.cells (cs.map (C.val I)).toArray ty)) nx:=by
 refine⟨w.heap.size,by simp,fun hc=>fu _ (hB _ hc),?_⟩;rw[yR]
 congr 3
 exact qt fun c hc=>(C.val_agree (jas I nx _) (hl c hc)).symm
def jwh {c:Cont} {ty:Nat} (hB:Old B w) (hm:c.n<=9223372036854775807) :
  (O.row ty c).ok (upd I nx (.slice (some ⟨w.heap.size,0,none⟩) c.n c.n)) B (w.alloc (.cells (c.flat.map D.val).toArray ty)) nx:=by
 refine⟨⟨by simp[Cont.flat_length],.inr ⟨w.heap.size,c.n,_,by simp,xh _,yR w _,zq _,by simpa [maxLen]using hm,by simp[Cont.flat_length],?_⟩⟩,fun k hk hc=>?_⟩
 rotate_left
 ·simp[zM]at hk;have:=hB k hc;omega
 rw[<-Cont.flat_length];exact List.take_of_length_le (by simp)
def jCw {o:qx} {elem:Nat} {x:zU} {u:W} (hh:HRel I B hp nx w) (hB:Old B w) (hr:jaH I nx rd a) (ho:o.op=.box elem x) (hx:rd x=some (.w u)) (hone:u.one hp=true) :
  jaJ P I B nx a w o ⟨True,.w (.c (.p nx 0 1 0)),(nx,.box elem u.cells)::hp,nx+1⟩ true:=by
 have h1:=hr _ _ hx;have hc:=W.cells_val hh hone;have hlt:∀c∈u.cells,C.lt nx c:=W.cells_lt h1.1
 refine jaq (I':=upd I nx (.pointer (some ⟨w.heap.size,0,none⟩))) (w':=w.alloc (.cells (u.cells.map (C.val I)).toArray elem)) ?_
  (jbu hh hB _ _ _ (.box elem u.cells) rfl rfl (show V.lt (nx+1) (.w (.c (.p nx 0 1 0)))from zp nx) true (fun c hc=>C.lt_mono (xi nx) (hlt c hc)) (jCv hB hlt) (by simp[O.blk,base]))
 unfold qS;simp only[ho,kC,newVar,gz,zr,j5,zn,zu,h1.2,V.val,hc];simp[W.val,C.val,base]
def jyz {o:qx} {elem:Nat} {z:List C} (hh:HRel I B hp nx w) (hB:Old B w) (ho:o.op=.alloc elem) (hz:jaG P elem=some z) :
  jaJ P I B nx a w o ⟨True,.w (.c (.p nx 0 1 0)),(nx,.box elem z)::hp,nx+1⟩ true:=by
 obtain⟨v,hv,hvc,hlt⟩:=ja3 (P:=P) (w:=w) (I:=I) hz
 refine jaq (I':=upd I nx (.pointer (some ⟨w.heap.size,0,none⟩))) (w':=w.alloc (.cells (z.map (C.val I)).toArray elem)) ?_
  (jbu hh hB _ _ _ (.box elem z) rfl rfl (show V.lt (nx+1) (.w (.c (.p nx 0 1 0)))from zp nx) true (hlt (nx+1)) (jCv hB (hlt nx)) (by simp[O.blk,base]))
 unfold qS;simp only[ho,kw,newVar,gz,zr,j5,zn,zu,hv,hvc];simp[V.val,W.val,C.val,base]
def jrg {elem n:Nat} {parts:List (Nat × W)} {c:Cont} (hh:HRel I B hp nx w) (h:jfp P elem n parts=some c) (hp':∀x∈parts,x.2.one hp=true∧x.2.lt nx) (t:Nat) (hu:P.underlying t=some (.slice elem)) :
  (yz t n (parts.map fun x=>(x.1,x.2.val I)).toArray).run P w=.ok (.slice (some ⟨w.heap.size,0,none⟩) n n) (w.alloc (.cells (c.flat.map D.val).toArray elem))∧c.n=n∧n<=4096:=by
 unfold jfp at h;split at h
 ·rename_i z e hz hs;split at h
  ·rename_i hzl;split at h
   ·rename_i out zd hout hzd;split at h
    ·rename_i ds hds;obtain⟨v,hv,hvc,hlt⟩:=ja3 (P:=P) (w:=w) (I:=I) hz
     have hf:=jd9 (I:=I) _ hh parts _ out hout hp' (fun c hc=>by
      obtain⟨l,hl,hc'⟩:=List.mem_flatten.1 hc;rw[List.eq_of_mem_replicate hl]at hc';exact hlt nx c hc')
     have hoe:=jbU hds
     have hlen:ds.length=n*(e+1):=by
      have:=hf.2.2;rw[hoe]at this;simpa [hzl.1]using this
     have hck:=jj7 (e+1) n ds hlen;have hmk:=jdM h;have hle:n*(e+1)<=4096:=hzl.2;have hn:n<=4096:=qN (Nat.le_mul_of_pos_right n (yX e)) hle;refine⟨?_,by rw[hmk.2.1,hck.2],hn⟩;have hvs:v.cells.size=e+1:=by rw[hvc];simp[hzl.1]
     have e1:¬(n*(e+1)>2^24):=by omega
     have hcells:∀zz:Array zt,(n*(e+1)≠0->zz=v.cells)->(fR (n*(e+1))).map (zz[· % zz.size]!)=((zi n z).flatten.map (C.val I)).toArray:=by
      intro zz hzz
      by_cases h0:n*(e+1)=0
      ·have hn0:n=0:=by
        rcases gh.1 h0 with h|h
        ·exact h
        ·omega
       subst hn0;simp
      ·rw[hzz h0];have:=jgG v.cells n;apply qR;simp only[jG,hvs]at this;simp only[hvs];rw[this,hvc];simp
     have hfin:(do
       let some cells:=fv (fun i=>some (i*(e+1),e+1)) ((zi n z).flatten.map (C.val I)).toArray (parts.map fun x=>(x.1,x.2.val I))|stuck "buildSlice: a part of the wrong size"
       pure (.slice (some (<-gz elem cells)) n n):Sem zt).run P w=.ok (.slice (some ⟨w.heap.size,0,none⟩) n n) (w.alloc (.cells (c.flat.map D.val).toArray elem)):=by
      simp only[hf.1,gz,zr,j5,zn,zu];simp only[hmk.1,hck.1,hoe,xM];rfl
     by_cases h0:n*(e+1)=0
     ·have hn0:n=0:=by
       rcases gh.1 h0 with h|h
       ·exact h
       ·omega
      subst hn0;have h3:=hcells #[] (fun h=>absurd h0 h);have e2:¬(0*(e+1)>2^24):=by omega
      simp only[yz,zr,zR hu,zn,jaV w hs,jt];rw[if_neg e2,if_pos h0];simp only[zr,zu,zn,h3];exact hfin
     ·simp only[yz,zr,zR hu,zn,jaV w hs,jt];rw[if_neg e1,if_neg h0];simp only[zr,zu,zn,hv,hcells v.cells (fun _=>rfl)];exact hfin
    ·cases h
   ·cases h
  ·cases h
 ·cases h
def jpO {o:qx} {t n elem:Nat} {parts:Array (Nat × zU)} {l:List (Nat × W)} {c:Cont} (hh:HRel I B hp nx w) (hB:Old B w) (hr:jaH I nx rd a) (ho:o.op=.buildSlice t n parts)
  (hu:P.underlying t=some (.slice elem)) (hl:jcG rd hp parts.toList=some l) (hc:jfp P elem n l=some c) :
  jaJ P I B nx a w o ⟨True,.w (.c (.o nx)),(nx,.row elem c)::hp,nx+1⟩ true:=by
 have hps:=jdL hr parts.toList l hl;have hb:=jrg (w:=w) (I:=I) hh hc hps.2 t hu
 refine jaq (I':=upd I nx (.slice (some ⟨w.heap.size,0,none⟩) c.n c.n)) (w':=w.alloc (.cells (c.flat.map D.val).toArray elem)) ?_
  (jbu hh hB _ _ _ (.row elem c) rfl rfl (show V.lt (nx+1) (.w (.c (.o nx)))from zp nx) true trivial (jwh hB (by omega)) (by simp[O.blk,zM]))
 unfold qS
 have he:(parts.map fun(i,x)=>(i,a.eval x))=(l.map fun x=>(x.1,x.2.val I)).toArray:=by
  rw[<-hps.1];apply qR;simp
 simp only[ho,he,zr,hb.1,zn,zu];simp[V.val,W.val,C.val,hb.2.1]
def jrh {o:qx} {t elem e b:Nat} {x y:zU} {k k':IntKind} {n m:Int} {u u':V} {z:List D} {c:Cont} (hh:HRel I B hp nx w) (hB:Old B w) (hr:jaH I nx rd a) (ho:o.op=.makeSlice t x y)
  (hu:P.underlying t=some (.slice elem)) (hx:rd x=some u) (hx':u.int?=some (k,n)) (hy:rd y=some u') (hy':u'.int?=some (k',m))
  (hz:(jaG P elem).bind jbo=some z) (hs:szT P elem=some (e+1)) (hb:jaY P elem=some b) (hzl:z.length=e+1) (hc:jgF z n.toNat=some c)
  (hob:0<=n∧n=m∧(b:Int)*n<=281474976710656∧n<=9223372036854775807) :
  jaJ P I B nx a w o ⟨0<=n∧n=m∧(b:Int)*n<=281474976710656∧n<=9223372036854775807,.w (.c (.o nx)),(nx,.row elem c)::hp,nx+1⟩ true:=by
 obtain⟨h0,rfl,h2,h3⟩:=hob;have h1:=hr _ _ hx;have h1':=hr _ _ hy;rw[V.int?_eq hx']at h1;rw[V.int?_eq hy']at h1';have hrc:=jmi hc;cases hi:P.info? elem with
 |none=>simp[szT,hi]at hs
 |some i =>
  have hsz:i.size=e+1:=by simpa [szT,hi]using hs
  have hby:i.bytes=b:=by simpa [jaY,hi]using hb
  cases hzz:i.zero with
  |none=>simp[jaG,hi,hzz]at hz
  |some zv =>
   cases hzc:jaG P elem with
   |none=>simp[hzc]at hz
   |some zc =>
    simp only[hzc,zP]at hz;obtain⟨v,hv,hvc,_⟩:=ja3 (P:=P) (w:=w) (I:=I) hzc
    have hvz:v=zv:=by
     simp[yo,yK,hi,hzz]at hv;exact hv.symm
    subst hvz;have hzce:=jbU hz;have hm:=run_make (P:=P) w t elem i v hu hi hzz k k' n n h0 (Int.le_refl _) (by rw[hby];exact h2) h3
    have hcells:jG v.cells (n.toNat*i.size)=(c.flat.map D.val).toArray:=by
     apply qR;have:=jgG v.cells n.toNat;have hvs:v.cells.size=e+1:=by rw[hvc,hzce];simp[hzl]
     rw[hvs]at this;rw[hsz,this,hrc.1,hvc,hzce];simp only[xM];rw[List.map_flatten,List.map_replicate];rfl
    rw[hcells]at hm
    refine jaq (I':=upd I nx (.slice (some ⟨w.heap.size,0,none⟩) c.n c.n)) (w':=w.alloc (.cells (c.flat.map D.val).toArray elem)) ?_
     (jbu hh hB _ _ _ (.row elem c) rfl rfl (show V.lt (nx+1) (.w (.c (.o nx)))from zp nx) true trivial (jwh hB (by omega)) (by simp[O.blk,zM]))
    unfold qS;simp only[ho,h1.2,h1'.2,vi_val,zr,hm,zn,zu];simp[V.val,W.val,C.val,hrc.2.1]
end
end Go.Sx
end

section
open Go.RowKit
namespace Go.Sx
section
variable [Globs] {P:zQ} {I:Env} {B:Kd} {nx:Nat} {hp:Hp} {w:zs} {rd:zU->Option V} {a:Act}
def nkp {B:Kd} {g:Nat} (h:¬B.all g):¬B.kp g:=fun x=>h (.inl x)
def jdk {G:Nat->Prop} {w':zs} (hw:∀k,k<w.heap.size->¬G k->w'.heap[k]?=w.heap[k]?) (hg:∀k,G k->¬B.kp k) {b o:Nat} {v:zt} (hb:B.kp b) (h:w.cell? ⟨b,o,none⟩=some v):w'.cell? ⟨b,o,none⟩=some v:=by
 rw[<-h];exact qX (hw b (qP w _ h) (fun e=>hg _ e hb))
def jwi {G:Nat->Prop} {k n:Nat} {w':zs} (hw:∀k,k<w.heap.size->¬G k->w'.heap[k]?=w.heap[k]?) (hg:∀k,G k->¬B.kp k) (hk:B.kp k) (h:∃cs t f,w.heap[k]?=some (.cells cs t f)∧cs.size=n):∃cs t f,w'.heap[k]?=some (.cells cs t f)∧cs.size=n:=by
 obtain⟨cs,t,f,h1,h2⟩:=h;exact⟨cs,t,f,(hw k (zH.1 h1).1 (fun e=>hg _ e hk)).trans h1,h2⟩
def jjp {G:Nat->Prop} {w':zs} (hw:∀k,k<w.heap.size->¬G k->w'.heap[k]?=w.heap[k]?) (hg:∀k,G k->¬B.kp k) (h:jbD B w):jbD B w' :=
 ⟨fun y c hy=>⟨(h.1 y c hy).1,fun j x hj=>jdk hw hg (h.1 y c hy).1 ((h.1 y c hy).2.1 j x hj),jwi hw hg (h.1 y c hy).1 (h.1 y c hy).2.2⟩,fun y p hy=>let ⟨h1,v,h2,h3⟩:=h.2 y p hy; ⟨h1,v,jdk hw hg h1 h2,h3⟩⟩
def jdO {G:Nat->Prop} {w':zs} (hw:∀k,k<w.heap.size->¬G k->w'.heap[k]?=w.heap[k]?) (hg:∀k,G k->¬B.kp k) {v:zt} {c:Cont} (h:jaQ w v c) (ho:jbM B v):jaQ w' v c:=by
 obtain⟨a',cap,h1,h2,h3⟩:=h;refine⟨a',cap,h1,h2,fun hn=>?_⟩;obtain⟨b,off,hab,hx⟩:=h3 hn;subst hab;exact⟨b,off,rfl,fun j x hj=>jdk hw hg (ho _ _ _ h1 hn) (hx j x hj)⟩
def O.isV:O->Bool| .view _ _ _=>true| .sub _ _ _ _ _ _=>true|_=>false
def O.ok_exceptS {G:Nat->Prop} {h:Nat} {w':zs} (hw:∀k,k<w.heap.size->¬G k->w'.heap[k]?=w.heap[k]?) (hg:∀k,G k->¬B.all k):∀{o:O},o.ok I B w h->(∀k,o.blk (I h)=some k->¬G k)->o.isV=false->o.ok I B w' h
 | .box ty cs,⟨k,h1,h2,h3⟩,hb,_=>by
  refine⟨k,h1,h2,?_⟩;rw[hw k (zH.1 h3).1 (fun e=>hb k (by simp[O.blk,h1,base]) e),h3]
 | .row ty c,hr,hb,_=>by
  refine⟨⟨hr.1.1,?_⟩,hr.2⟩;rcases hr.1.2 with hn|⟨k,cap,cur,h1,h2,h3,h4⟩
  ·exact .inl hn
  ·exact .inr ⟨k,cap,cur,h1,h2,by rw[hw k (zH.1 h3).1 (fun e=>hb k (by simp[O.blk,zM,h1]) e)];exact h3,h4⟩
 | .ext c,⟨⟨a',cap,h1,h2,h3⟩,ho⟩,_,_=>by
  refine⟨⟨a',cap,h1,h2,fun hn=>?_⟩,ho⟩;obtain⟨b,off,hab,hx⟩:=h3 hn;refine⟨b,off,hab,fun j x hj=>?_⟩;subst hab;have hlt:=ho _ _ _ h1 hn;simp only at hlt;rw[<-hx j x hj];have hc:=qP w _ (hx j x hj);exact qX (hw b hc (fun e=>nkp (hg _ e) hlt))
 | .view r c fl,_,_,hv=>by cases hv
 | .sub _ _ _ _ _ _,_,_,hv=>by cases hv
 | .dead,_,_,_=>trivial
 | .nan _,h,_,_=>h
 | .err,h,_,_=>h
 | .atom,h,_,_=>h
 | .ebox cs,⟨k,o,h1,h2,h3⟩,_,_=>⟨k,o,h1,h2,fun j c hj=>jdk hw (fun k hk=>nkp (hg k hk)) h2 (h3 j c hj)⟩
 | .arr ty _ _,⟨k,h1,h2,h3⟩,hb,_=>by
  refine⟨k,h1,h2,?_⟩;rw[hw k (zH.1 h3).1 (fun e=>hb k (by simp[O.blk,h1,base]) e),h3]
 | .mrow ty ts X ho,⟨us,hr,hi,hd,hk⟩,hb,_=>by
  have own:∀{ty e n:Nat} {v:zt} {cs:List zt},(∀k,v.ownBlock=some k->¬G k)->w.ownsRow 0 ty e v n cs->w'.ownsRow 0 ty e v n cs:=fun hne hr=>by
   refine⟨hr.1,?_⟩;rcases hr.2 with hn|⟨k,cap,cur,h1,h2,h3,h4⟩
   ·exact .inl hn
   ·exact .inr ⟨k,cap,cur,h1,h2,(hw k (zH.1 h3).1 (hne k (by simp[h1,zM]))).trans h3,h4⟩
  refine⟨us,own (fun k h1=>hb k h1) hr,fun i j h1 h2 h3=>?_,hd,hk⟩;obtain⟨u,hu,hux⟩:=hi i j h1 h2 h3;refine⟨u,hu,?_⟩;cases hc:X.cell i j with
  |d x=>rw[hc]at hux;exact hux
  |r c =>
   rw[hc]at hux;exact⟨own (fun k h1 e=>hg k e (.inr (by rw[hux.2 k h1];simp))) hux.1,hux.2⟩
 | .trow ty ts X m,⟨us,hr,hi,hd,hk⟩,hb,_=>by
  have own:∀{ty e n:Nat} {v:zt} {cs:List zt},(∀k,v.ownBlock=some k->¬G k)->w.ownsRow 0 ty e v n cs->w'.ownsRow 0 ty e v n cs:=fun hne hr=>by
   refine⟨hr.1,?_⟩;rcases hr.2 with hn|⟨k,cap,cur,h1,h2,h3,h4⟩
   ·exact .inl hn
   ·exact .inr ⟨k,cap,cur,h1,h2,(hw k (zH.1 h3).1 (hne k (by simp[h1,zM]))).trans h3,h4⟩
  refine⟨us,own (fun k h1=>hb k h1) hr,fun i j h1 h2=>?_,hd,hk⟩;obtain⟨u,hu,hux,hua⟩:=hi i j h1 h2;refine⟨u,hu,fun h3=>?_,fun h3=>?_⟩
  ·have hux:=hux h3;cases hc:X.cell i j with
   |d x=>rw[hc]at hux;exact hux
   |r c =>
    rw[hc]at hux;exact⟨own (fun k h1 e=>hg k e (.inr (by rw[hux.2 k h1];simp))) hux.1,hux.2⟩
  ·have hua:=hua h3;cases hc:X.cell i j with
   |d x=>rw[hc]at hua;exact hua
   |r c=>rw[hc]at hua;exact⟨jdO hw (fun k hk=>nkp (hg k hk)) hua.1 hua.2,hua.2⟩
 | .fext c,⟨h1,h2⟩,_,_=>⟨jdO hw (fun k hk=>nkp (hg k hk)) h1 (ja2 B.sub h2),h2⟩
 | .xrow ty X,⟨us,hr,hi,hk⟩,hb,_=>by
  refine⟨us,⟨hr.1,?_⟩,fun i j h1 h2=>?_,hk⟩
  ·rcases hr.2 with hn|⟨k,cap,cur,h1,h2,h3,h4⟩
   ·exact .inl hn
   ·refine .inr ⟨k,cap,cur,h1,h2,(hw k (zH.1 h3).1 (fun e=>hb k (by simp[O.blk,h1,zM]) e)).trans h3,h4⟩
  ·obtain⟨u,hu,hux⟩:=hi i j h1 h2;refine⟨u,hu,?_⟩;cases hc:X.cell i j with
   |d x=>rw[hc]at hux;exact hux
   |r c=>rw[hc]at hux;exact⟨jdO hw (fun k hk=>nkp (hg k hk)) hux.1 (ja2 B.sub hux.2),hux.2⟩
 | .xext X,⟨a',cap,h1,h2,h3⟩,_,_=>by
  refine⟨a',cap,h1,h2,fun hn=>?_⟩;obtain⟨b,off,hab,hB,hx⟩:=h3 hn;refine⟨b,off,hab,hB,fun i j hi hj=>?_⟩;obtain⟨u,hu,hux⟩:=hx i j hi hj;refine⟨u,jdk hw (fun k hk=>nkp (hg k hk)) hB hu,?_⟩
  generalize X.cell i j=nc at *
  cases nc with
  |d x=>exact hux
  |r c=>exact⟨jdO hw (fun k hk=>nkp (hg k hk)) hux.1 hux.2,hux.2⟩
def jlp {g:Nat} {w':zs} (hw:∀k,k<w.heap.size->k≠g->w'.heap[k]?=w.heap[k]?) (hg:¬B.kp g) (h:jbD B w):jbD B w':=jjp (G:=(·= g)) hw (fun _ e=>e ▸ hg) h
def O.ok_except {h g:Nat} {w':zs} (hw:∀k,k<w.heap.size->k≠g->w'.heap[k]?=w.heap[k]?) (hg:¬B.all g) {o:O} (hok:o.ok I B w h) (hb:o.blk (I h)≠some g) (hv:o.isV=false):o.ok I B w' h :=O.ok_exceptS (G:=(·= g)) hw (fun _ e=>e ▸ hg) hok (fun _ hk e=>hb (e ▸ hk)) hv
def jaN {h:Nat} {o:O} (hh:HRel I B hp nx w) (hf:find (jal hp) h=some o):∃o1,find hp h=some o1∧h<nx∧o.lt nx∧o.ok I B w h∧o.isV=false∧∀k,o.blk (I h)=some k->o1.blk (I h)=some k:=by
 rw[jaE]at hf;cases h1:find hp h with
 |none=>simp[h1]at hf
 |some o1 =>
  simp only[h1,qn,zk]at hf;have hok:=hh.ok h o1 h1;refine⟨o1,rfl,hok.1,?_⟩;cases o1 with
  |view r c fl=>subst hf;exact⟨trivial,trivial,rfl,fun k hk=>by simp[O.blk]at hk⟩
  |sub r i e j ty c=>subst hf;exact⟨trivial,trivial,rfl,fun k hk=>by simp[O.blk]at hk⟩
  |_=>subst hf;exact⟨hok.2.1,hok.2.2,rfl,fun k hk=>hk⟩
def HRel.write {w':zs} {h g:Nat} {o o':O} (hh:HRel I B hp nx w) (hf:find hp h=some o) (hb:o.blk (I h)=some g)
  (hw:∀k,k<w.heap.size->k≠g->w'.heap[k]?=w.heap[k]?) (ho':o'.ok I B w' h) (hl:o'.lt nx) (hb':∀k,o'.blk (I h)=some k->k=g) :
  HRel I B ((h,o')::jal hp) nx w':=by
 have hok:=hh.ok h o hf;have hg:=O.blk_lt hok.2.2 hb;refine⟨?_,?_,jlp hw (nkp hg.2) hh.glob⟩
 ·intro k o1 hk;simp only[find]at hk;split at hk
  ·rename_i e;subst e;cases hk;exact⟨hok.1,hl,ho'⟩
  ·rename_i hne;obtain⟨o2,h2,h3,h4,h5,h6,h7⟩:=jaN hh hk;refine⟨h3,h4,O.ok_except hw hg.2 h5 (fun e=>?_) h6⟩;exact hh.apart h o k o2 g hf h2 hne hb (h7 g e)
 ·intro k o1 k' o1' b hk hk' hne hbk hbk';simp only[find]at hk hk';split at hk
  ·rename_i e;subst e;cases hk;rw[if_neg hne]at hk';obtain⟨o2,h2,_,_,_,_,h7⟩:=jaN hh hk';have:=hb' b hbk;subst this;exact hh.apart h o k' o2 _ hf h2 hne hb (h7 _ hbk')
  ·rename_i hne2;split at hk'
   ·rename_i e;subst e;cases hk';obtain⟨o2,h2,_,_,_,_,h7⟩:=jaN hh hk;have:=hb' b hbk';subst this;exact hh.apart h o k o2 _ hf h2 hne2 hb (h7 _ hbk)
   ·obtain⟨o2,h2,_,_,_,_,h7⟩:=jaN hh hk;obtain⟨o3,h3,_,_,_,_,h8⟩:=jaN hh hk';exact hh.apart k o2 k' o3 b h2 h3 hne (h7 b hbk) (h8 b hbk')
def jcj {w:zs} {B:Kd} {g:Nat} {cs:Array zt} (hg:¬B.all g):Bel B w (w.setRow g cs) :=⟨rfl,rfl,rfl,by simp,fun k hk=>yj w g k cs (fun e=>nkp hg (e ▸ hk))⟩
def jbO {t g:Nat} {off:Nat} {cur:Array zt} {ty:Nat} {v:zt} (hs:szT P t=some v.cells.size) (hg:w.heap[g]?=some (.cells cur ty (0,0))) (hle:off+v.cells.size<=cur.size) (h1:∀x∈v.cells.toList,x.oneCell'=true) :
  (storeVar t ⟨g,off,none⟩ v).run P w=.ok () (w.setRow g (cur.toList.take off++v.cells.toList++cur.toList.drop (off+v.cells.size)).toArray):=by
 have hst:=run_storeCells_at P g off ty v.cells.toList 0 cur w hg (by simpa using hle) h1;simp only[storeVar,zr,jaV w hs,zn,ne_eq,not_true_eq_false,if_false];simpa using hst
def jcO {u:W} (hh:HRel I B hp nx w) (h:(u.cells.all fun c=>c.one hp)=true):∀x∈(u.cells.map (C.val I)),x.oneCell'=true:=by
 intro x hx;obtain⟨c,hc,rfl⟩:=qm.1 hx;exact C.one_val hh (zx.1 h c hc)
def jsP {o:qx} {t h i e j ty:Nat} {x y:zU} {u:W} {cs:List C} (hh:HRel I B hp nx w) (hr:jaH I nx rd a) (ho:o.op=.store t x y)
  (hx:rd x=some (.w (.c (.p h i e j)))) (hy:rd y=some (.w u)) (hone:u.one hp=true) (hs:szT P t=some u.cells.length) (hall:(u.cells.all fun c=>c.one hp)=true)
  (hf:find hp h=some (.box ty cs)) (hle:i*e+j+u.cells.length<=cs.length) :
  jaJ P I B nx a w o ⟨True,vu,(h,.box ty (cs.take (i*e+j)++u.cells++cs.drop (i*e+j+u.cells.length)))::jal hp,nx⟩ false:=by
 have h1:=hr _ _ hx;have h2:=hr _ _ hy;obtain⟨hlt,hol,g,hk,hBg,hheap⟩:=hh.ok h _ hf;have hc:=W.cells_val hh hone;have hvs:(u.val I).cells.size=u.cells.length:=by rw[hc];simp
 have hst:=jbO (P:=P) (t:=t) (g:=g) (off:=i*e+j) (v:=u.val I) (by rw[hvs];exact hs) hheap (by rw[hvs];simpa using hle) (by rw[hc];exact jcO hh hall);refine jcs (I':=I) (w':=w.setRow g (((cs.map (C.val I)).toArray.toList.take (i*e+j)++(u.val I).cells.toList++(cs.map (C.val I)).toArray.toList.drop (i*e+j+(u.val I).cells.size)).toArray)) ?_ rfl ?_
 ·unfold qS;have h1v:a.eval x=.pointer (some ⟨g,i*e+j,none⟩):=by rw[h1.2];simp[C.val,hk,base]
  have h2v:a.eval y=u.val I:=h2.2;simp only[ho,h1v,h2v,yM,qU,zr,zu,zn,hst]
 ·refine⟨jak.refl _ _,trivial,zq _,HRel.gr ?_,jcj hBg,(fun h=>by cases h),fun h=>by cases h⟩;refine HRel.write hh hf (g:=g) (by simp[O.blk,hk,base]) (fun k _ hne=>yj w g k _ hne) ?_ ?_ (by simp[O.blk,hk,base])
  ·refine⟨g,hk,hBg,?_⟩;rw[yV w g _ _ ty (0,0) hheap,hc];simp
  ·intro c hcm;rcases qK.1 hcm with hcm|hcm
   ·rcases qK.1 hcm with hcm|hcm
    ·exact hol c (yk hcm)
    ·exact W.cells_lt h2.1 c hcm
   ·exact hol c (jf hcm)
def jri (c c':Cont) (i j:Nat) (ds:List D):Prop :=
 c'.n=c.n∧c'.e=c.e∧j+ds.length<=c.e ∧ ∀k m,m<c.e->c'.cell k m=if k=i∧j<=m∧m<j+ds.length then ds.getD (m-j) (.v zX)else c.cell k m
def jwj {c c':Cont} {i j:Nat} {ds:List D} (h:jri c c' i j ds) (hi:i<c.n) (he:0<c.e) (tail:List zt) :
  ((c.flat.map D.val++tail).take (i*c.e+j)++ds.map D.val++(c.flat.map D.val++tail).drop (i*c.e+j+ds.length)).take (c'.n*c'.e)=c'.flat.map D.val:=by
 obtain⟨hn,hee,hle,hcell⟩:=h
 have hin:i*c.e+j+ds.length<=c.n*c.e:=by
  have:(i+1)*c.e<=c.n*c.e:=qb _ hi;rw[qy]at this;omega
 have hfl:=c.flat_length;have hfl':=c'.flat_length;apply xn;intro t
 by_cases ht:t<c.n*c.e
 ·have hq:t/c.e<c.n:=ym (by rw[xN];exact ht);have hm:=x9 t he;have hdm:t/c.e*c.e+t%c.e=t:=by rw[xN];exact yG t c.e
  have hc':c'.flat[t]?=some (c'.cell (t/c.e) (t%c.e)):=by
   have:=c'.flat_get (i:=t/c.e) (j:=t%c.e) (by omega) (by omega);rw[hee,hdm]at this;exact this
  have hc:c.flat[t]?=some (c.cell (t/c.e) (t%c.e)):=by
   have:=c.flat_get (i:=t/c.e) (j:=t%c.e) hq hm;rw[hdm]at this;exact this
  rw[zL,hc',hcell _ _ hm];rw[qc,if_pos (by rw[hn,hee];exact ht)]
  have hrange:(t/c.e=i∧j<=t%c.e∧t%c.e<j+ds.length)<->(i*c.e+j<=t∧t<i*c.e+j+ds.length):=by
   constructor
   ·rintro ⟨h1,h2,h3⟩;rw[h1]at hdm;omega
   ·rintro ⟨h1,h2⟩
    have hti:t/c.e=i:=by
     apply Nat.div_eq_of_lt_le
     ·omega
     ·rw[qy];omega
    rw[hti]at hdm;exact⟨hti,by omega,by omega⟩
  by_cases hr:i*c.e+j<=t∧t<i*c.e+j+ds.length
  ·rw[if_pos (hrange.2 hr)];obtain⟨h1,h2,h3⟩:=hrange.2 hr;have hdm2:i*c.e+t%c.e=t:=by rw[<-h1];exact hdm
   rw[qD,qh (by simp;omega),z8 (by simp;omega)];simp only[qW,z9,qr];have hmin:min (i*c.e+j) (c.flat.length+tail.length)=i*c.e+j:=by omega
   rw[hmin,zL];have hidx:t-(i*c.e+j)=t%c.e-j:=by omega
   have hlt:t%c.e-j<ds.length:=by omega
   rw[hidx];simp[za,hlt]
  ·rw[if_neg (fun h=>hr (hrange.1 h))]
   by_cases hlo:t<i*c.e+j
   ·rw[qD,z8 (by simp;omega),qc,if_pos hlo,z8 (by simp;omega),zL,hc]
   ·rw[qh (by simp;omega)];simp only[z9,qW,qr];have hmin:min (i*c.e+j) (c.flat.length+tail.length)=i*c.e+j:=by omega
    rw[hmin,yh];have hidx:i*c.e+j+ds.length+(t-(i*c.e+j+ds.length))=t:=by omega
    rw[hidx,z8 (by simp;omega),zL,hc]
 ·rw[zW (by simp only[qW,hn,hee];omega),zW (by simp only[qr,hfl',hn,hee];omega)]
def jeG {o:qx} {t h i e j ty:Nat} {x y:zU} {u:W} {c c':Cont} {ds:List D} (hh:HRel I B hp nx w) (hr:jaH I nx rd a) (ho:o.op=.store t x y)
  (hx:rd x=some (.w (.c (.p h i e j)))) (hy:rd y=some (.w u)) (hone:u.one hp=true) (hs:szT P t=some u.cells.length) (hall:(u.cells.all fun c=>c.one hp)=true)
  (hf:find hp h=some (.row ty c)) (hds:jbo u.cells=some ds) (hupd:jri c c' i j ds) (he:e=c.e) (he0:0<e) (hi:i<c.n) :
  jaJ P I B nx a w o ⟨i<c.n,vu,(h,.row ty c')::jal hp,nx⟩ false:=by
 subst he;have h1:=hr _ _ hx;have h2:=hr _ _ hy;obtain⟨hlt,hol,hok⟩:=hh.ok h _ hf;obtain⟨⟨hlen,hcase⟩,hBk⟩:=hok;rcases hcase with ⟨_,hn⟩|⟨g,cap,cur,hk,_,hheap,hncap,hcapm,hcs,htk⟩
 ·omega
 have hBg:¬B.all g:=hBk g (by rw[hk];rfl);obtain⟨hn',hee,hle,_⟩:=id hupd;have hc:=W.cells_val hh hone;have hdse:=jbU hds;have hul:u.cells.length=ds.length:=by rw[hdse];simp
 have hvs:(u.val I).cells.size=u.cells.length:=by rw[hc];simp
 have hin:i*c.e+j+ds.length<=c.n*c.e:=by
  have:(i+1)*c.e<=c.n*c.e:=qb _ hi;rw[qy]at this;omega
 have hcapsz:c.n*c.e<=cap*c.e:=qb _ hncap;have hst:=jbO (P:=P) (t:=t) (g:=g) (off:=i*c.e+j) (v:=u.val I) (by rw[hvs];exact hs) hheap (by rw[hvs,hul,hcs];omega) (by rw[hc];exact jcO hh hall);refine jcs (I':=I) (w':=w.setRow g ((cur.toList.take (i*c.e+j)++(u.val I).cells.toList++cur.toList.drop (i*c.e+j+(u.val I).cells.size)).toArray)) ?_ rfl ?_
 ·unfold qS;have h1v:a.eval x=.pointer (some ⟨g,i*c.e+j,none⟩):=by rw[h1.2];simp[C.val,hk,base]
  have h2v:a.eval y=u.val I:=h2.2;simp only[ho,h1v,h2v,yM,qU,zr,zu,zn,hst]
 ·refine⟨jak.refl _ _,trivial,zq _,HRel.gr ?_,jcj hBg,(fun h=>by cases h),fun h=>by cases h⟩;refine HRel.write hh hf (g:=g) (by simp[O.blk,hk,zM]) (fun k _ hne=>yj w g k _ hne) ?_ trivial (by simp[O.blk,hk,zM]);refine⟨⟨by simp[Cont.flat_length],.inr ⟨g,cap,_,by rw[hn'];exact hk,xh _,yV w g _ _ ty (0,0) hheap,by rw[hn'];exact hncap,hcapm,?_,?_⟩⟩,hBk⟩
  ·simp only[List.size_toArray,z9,qW,xm,Array.length_toList,hvs,hul,hee];omega
  ·have hcur:cur.toList=c.flat.map D.val++cur.toList.drop (c.n*c.e):=by rw[<-htk];exact(xE _ _).symm
   have hvl:(u.val I).cells.toList=ds.map D.val:=by rw[hc,hdse];simp[xI,C.val]
   rw[hvs,hul,hvl,hcur];exact jwj hupd hi he0 _
end
end Go.Sx
end

section
open Go.RowKit
namespace Go.Sx
structure RunOK [Globs] (P:zQ) (f:Nat) (M:Bool) (S:Spec):Prop where
 enter:∀args w,(callFunc f args).run P w=.ok (.enter f args) w
 sound:∀I B w args hp nx t,S args hp nx=some t->t.sel.ob->(∀x∈args,V.lt nx x)->HRel I B hp nx w->Old B w -> Calls P f (args.map (V.val I)).toArray w fun e w'=>∃I',e=.returned (t.sel.v.val I')∧Left I B nx w t.sel M I' w'
def ValOK [Globs] (P:zQ) (f:Nat) (S:Spec):Prop :=
 ∀I B w args hp nx t,S args hp nx=some t->t.sel.ob->(∀x∈args,V.lt nx x)->HRel I B hp nx w->Old B w -> ∃ob v,t.sel=⟨ob,v,hp,nx⟩∧v.lt nx∧(callFunc f (args.map (V.val I)).toArray).run P w=.ok (.value (v.val I)) w
def jaf [Globs] (P:zQ) (f:Nat) (M:Bool) (S:Spec):Prop:=RunOK P f M S∨ValOK P f S
abbrev jaa:=Nat->Option (Bool × Spec)
def jab [Globs] (P:zQ) (sp:jaa):Prop:=∀f M S,sp f=some (M,S)->jaf P f M S
def jaw [Globs] (sp:jaa) (op:Op) (rd:zU->Option V):Bool :=match op with| .store _ _ _=>false| .buildSlice t _ _=>!Globs.nestT t| .call c=>(match c.callee with| .builtin .append=>false| .value f=>(match rd f with|some (.w (.c (.fn g _)))=>(match sp g with|some (M,_)=>M|none=>false)|_=>false)|_=>true)|_=>true
def step [Globs] (P:zQ) (sp:jaa) (op:Op) (rd:zU->Option V) (hp:Hp) (nx:Nat):Option Res :=match jcn P op rd hp with|some (ob,v)=>some ⟨ob,v,hp,nx⟩|none=>match jhM P op rd hp nx with|some r=>some r|none=>match jhO P op rd hp nx with|some r=>some r|none=>match jhP P op rd hp nx with|some r=>some r|none=>match jhN P op rd hp nx with|some r=>some r|none=>jrf P sp op rd hp nx
section
variable [Globs] {P:zQ} {I:Env} {B:Kd} {nx:Nat} {hp:Hp} {w:zs} {rd:zU->Option V} {a:Act} {sp:jaa}
def jmj {v:zt} {c:Cont} {lo hi:Nat} (he:0<c.e) (h:jaQ w v c) (hlo:lo<=hi) (hhi:hi<=c.n) {a':Option gu} {n cap:Nat} (hv:v=.slice a' n cap) :
  jaQ w (.slice (if cap=lo then a' else a'.map (·.add (lo*c.e))) (hi-lo) (cap-lo)) (c.sub lo hi):=by
 obtain⟨a2,cap2,h1,⟨h2,h2'⟩,h3⟩:=h;rw[hv]at h1;cases h1;have hs:=c.sub_cell hlo hhi;refine⟨_,_,by rw[hs.1],⟨by omega,fun hnone=>?_⟩,fun hn=>?_⟩
 ·by_cases hc:cap=lo
  ·omega
  ·rw[if_neg hc]at hnone;have:=h2' (by simpa using hnone);omega
 rw[hs.1]at hn;obtain⟨b,off,rfl,hx⟩:=h3 (by omega);rw[if_neg (by omega)];refine⟨b,off+lo*c.e,by simp[jaX],fun j x hj=>?_⟩
 have hjl:j<(hi-lo)*c.e:=by
  have:=(zA.1 hj).1;rw[Cont.flat_length,hs.1,hs.2.1]at this;exact this
 have hk:j/c.e<hi-lo:=ym (by rw[xN];exact hjl);have hm:=x9 j he;have hdm:j/c.e*c.e+j%c.e=j:=by rw[xN];exact yG j c.e
 have h4:=(c.sub lo hi).flat_get (i:=j/c.e) (j:=j%c.e) (by omega) (by omega);rw[hs.2.1,hdm,hj,hs.2.2 _ _ hk]at h4;have h5:=c.flat_get (i:=lo+j/c.e) (j:=j%c.e) (by omega) hm;have h6:=hx _ _ h5;cases h4;rw[<-h6]
 congr 2
 rw[qy];omega
def juo (hr:jaH I nx rd a) {x:Option zU} {l:Option Int} (h:ja5 rd x=some l):∃k,x.map a.eval=l.map (xS k ·):=by
 cases x with
 |none=>simp only[ja5,zk]at h;subst h;exact⟨.i64,rfl⟩
 |some x =>
  simp only[ja5]at h;split at h
  ·rename_i k n hx;cases h;cases hrx:rd x with
   |none=>simp[hrx]at hx
   |some u =>
    simp only[hrx,zP]at hx;have:=(hr x u hrx).2;rw[V.int?_eq hx]at this;exact⟨k,by simp[this]⟩
  ·cases h
def jhQ {len cap:Nat} {l m:Option Int} {k k':IntKind} (h0:0<=l.getD 0) (h1:l.getD 0<=m.getD (len:Int)) (h2:m.getD (len:Int)<=(len:Int)) (h3:len<=cap) :
  (xT true len cap (l.map (xS k ·)) (m.map (xS k' ·)) none).run P w=.ok ((l.getD 0).toNat,(m.getD (len:Int)).toNat,cap) w:=by
 cases l<;>cases m<;>simp only[ja,qn,jm,z6]at * <;>
  simp[xT,j4,je, *]
 ·intro h;omega
 ·rw[if_pos (by omega),if_pos (by omega)]
def jdl {r:Res} (hh:HRel I B hp nx w) (hB:Old B w) (v:zt) (obj:O) (hr:r.hp=(nx,obj)::hp) (hn:r.nx=nx+1) (hv:r.v.lt (nx+1)) (M:Bool)
  (hl:obj.lt (nx+1)) (ho:obj.ok (upd I nx v) B w nx) (hb:obj.blk v=none):Left I B nx w r M (upd I nx v) w:=by
 refine⟨jas _ _ _,by rw[hn];exact hv,by omega,HRel.gr ?_,Bel.refl _ _,fun _=>xz _ _,fun _ h o k hnh hf hk=>?_⟩
 ·rw[hr,hn];exact hh.add (xz _ w) hB (jas _ _ _) hl ho (by simp[hb])
 ·rw[hr]at hf;simp only[find]at hf;split at hf
  ·rename_i e;subst e;cases hf;rw[upd_same,hb]at hk;cases hk
  ·have:=(hh.ok h o hf).1;omega
def jpP {o:qx} {t h e elem:Nat} {x:zU} {lo hi:Option zU} {l m:Option Int} {ob:O} {c:Cont} (hh:HRel I B hp nx w) (hB:Old B w) (hr:jaH I nx rd a) (ho:o.op=.slice t x lo hi none)
  (hu:P.underlying t=some (.slice elem)) (hx:rd x=some (.w (.c (.o h)))) (hl:ja5 rd lo=some l) (hm:ja5 rd hi=some m) (hf:find hp h=some ob) (hs:szT P elem=some (e+1)) (hc:ob.cont=some c) (hce:c.e=e+1)
  (hob:0<=l.getD 0∧l.getD 0<=m.getD (c.n:Int)∧m.getD (c.n:Int)<=(c.n:Int)) (r:Res) (hrn:r.nx=nx+1) (hrv:r.v=.w (.c (.o nx)))
  (hrh:r.hp=(nx,cutO h ob (c.sub (l.getD 0).toNat (m.getD (c.n:Int)).toNat))::hp) :
  jaJ P I B nx a w o r true:=by
 obtain⟨h0,h1,h2⟩:=hob;have hok:=hh.ok h ob hf;have hrow:=jcc hok.2.2 hc;obtain⟨a2,cap,hv,⟨hcap,_⟩,hcells⟩:=hrow;have he:0<c.e:=by omega
 have hlo:(l.getD 0).toNat<=(m.getD (c.n:Int)).toNat:=by omega
 have hhi:(m.getD (c.n:Int)).toNat<=c.n:=by omega
 have hsub:=jmj (w:=w) he (jcc hok.2.2 hc) hlo hhi hv;obtain⟨k1,hlv⟩:=juo hr hl;obtain⟨k2,hmv⟩:=juo hr hm;have hsb:=jhQ (P:=P) (w:=w) (len:=c.n) (cap:=cap) (l:=l) (m:=m) (k:=k1) (k':=k2) h0 h1 h2 hcap;have hxv:a.eval x=.slice a2 c.n cap:=by rw[(hr _ _ hx).2];exact hv
 refine jaq (I':=upd I nx (.slice (if cap=(l.getD 0).toNat then a2 else a2.map (·.add ((l.getD 0).toNat*c.e))) ((m.getD (c.n:Int)).toNat-(l.getD 0).toNat) (cap-(l.getD 0).toNat))) (w':=w) ?_ ?_
 ·unfold qS;simp only[ho,hxv,hlv,hmv,ja,hH,ky,zr,zR hu,zn,hsb,jaV w hs,zu,hrv];simp[V.val,W.val,C.val,hce]
 ·refine jdl hh hB _ _ hrh hrn (by rw[hrv];exact zp nx) true ?_ ?_ ?_
  ·cases ob with
   |view r2 c2 _=>exact zF hok.2.1 (xi nx)
   |ext=>trivial
   |row=>exact zF hok.1 (xi nx)
   |sub=>exact zF hok.1 (xi nx)
   |fext=>trivial
   |_=>simp[O.cont]at hc
  ·have hblk:∀a n' cap',(qd (if cap=(l.getD 0).toNat then a2 else a2.map (·.add ((l.getD 0).toNat*c.e))) ((m.getD (c.n:Int)).toNat-(l.getD 0).toNat) (cap-(l.getD 0).toNat))=.slice (some a) n' cap'->0<n'->∃b off,a2=some ⟨b,off,none⟩∧a.block=b∧0<c.n:=by
    intro a n' cap' heq hn';simp only[kA]at heq;obtain⟨h5,h6,h7⟩:=heq;obtain⟨b,off,rfl,_⟩:=hcells (by omega);rw[if_neg (by omega)]at h5;simp only[qn,zk]at h5;refine⟨b,off,rfl,?_,by omega⟩;rw[<-h5,jaX]
   cases ob with
   |ext c2 =>
    refine⟨by rw[upd_same];exact hsub,?_⟩;rw[upd_same];intro a n' cap' heq hn';obtain⟨b,off,rfl,rfl,hcn⟩:=hblk a n' cap' heq hn';exact hok.2.2.2 ⟨_,off,none⟩ c.n cap hv hcn
   |fext c2 =>
    refine⟨by rw[upd_same];exact hsub,?_⟩;rw[upd_same];intro a n' cap' heq hn';obtain⟨b,off,rfl,rfl,hcn⟩:=hblk a n' cap' heq hn';exact hok.2.2.2 ⟨_,off,none⟩ c.n cap hv hcn
   |view r2 c2 _ =>
    exact⟨by rw[upd_same];exact hsub,fun h=>by cases h⟩
   |sub r2 i2 e2 j2 t2 c2 =>
    exact⟨by rw[upd_same];exact hsub,fun h=>by cases h⟩
   |row ty c2 =>
    exact⟨by rw[upd_same];exact hsub,fun h=>by cases h⟩
   |_=>simp[O.cont]at hc
  ·cases ob<;>simp[O.cont]at hc<;>rfl
end
end Go.Sx
end

section
open Go.RowKit
namespace Go.Sx
section
variable [Globs] {P:zQ} {I:Env} {B:Kd} {nx:Nat} {hp:Hp} {w:zs} {rd:zU->Option V} {a:Act} {sp:jaa}
def jzI {ty:Nat} {e:Nat} {x:AR} (hB:Old B w) :
  (O.arr ty e x).ok (upd I nx (.pointer (some ⟨w.heap.size,0,none⟩))) B (w.alloc (.cells ((arD e x).map D.val).toArray ty)) nx :=
 ⟨w.heap.size,upd_same _ _ _,fun h=>absurd (hB _ h) (fu _),by rw[yR]⟩
def jwk {o:qx} {elem:Nat} {x:zU} {e:Nat} {y:AR} (hh:HRel I B hp nx w) (hB:Old B w) (hr:jaH I nx rd a) (ho:o.op=.box elem x) (hx:rd x=some (.w (.b e y))) :
  jaJ P I B nx a w o ⟨True,.w (.c (.p nx 0 1 0)),(nx,.arr elem e y)::hp,nx+1⟩ true:=by
 refine jaq (I':=upd I nx (.pointer (some ⟨w.heap.size,0,none⟩))) (w':=w.alloc (.cells ((arD e y).map D.val).toArray elem)) ?_
  (jbu hh hB _ _ _ (.arr elem e y) rfl rfl (show V.lt (nx+1) (.w (.c (.p nx 0 1 0)))from zp nx) true trivial (jzI hB) (by simp[O.blk,base]))
 unfold qS;have hv:a.eval x=.agg ((arD e y).map D.val).toArray:=(hr _ _ hx).2;simp only[ho,kC,newVar,gz,zr,j5,zn,zu,hv];simp[V.val,W.val,C.val,base,Value.cells]
def jwl {cs:List C} {ds:List D} (h:jbo cs=some ds) (I:Env):cs.map (C.val I)=ds.map D.val:=by
 rw[jbU h,xM];rfl
def jGv:∀(r:List Int),(arD r.length (.i r)).map D.val=r.map fun n=>xS .i64 n:=fun r=>by
 rw[arD,xM];exact jj0 0 r fun n=>xS .i64 n
def jwm:∀{x:List D} {y:List Int},jrc x=some y->x=y.map (D.i .i64)
 |[],y,h=>by simp only[jrc,zk]at h;subst h;rfl
 |c::x,y,h=>by
  unfold jrc at h;split at h
  ·rename_i e;cases e
  ·rename_i e;cases e;obtain⟨l,hl,rfl⟩:=zV.1 h;rw[jwm hl];rfl
  ·cases h
def jCx {t:qI} {e:Nat} {x:AR} (h:arrF P t=some (e,x)):∃z,jaG P t=some z∧z.map (C.val I)=(arD e x).map D.val:=by
 unfold arrF at h;split at h
 ·rename_i sz ds _ _ hds;cases hz:jaG P t with
  |none=>simp[hz]at hds
  |some z =>
   simp only[hz,zP]at hds;split at h
   ·rename_i _ _ hl;obtain⟨r',hr',he⟩:=zV.1 h;cases he;refine⟨z,rfl,?_⟩;have hl:=zj hl;have h1:=jgT hr';have h2:=hl.trans (by rw[h1];simp:ds.length=r'.length);rw[h2,jGu,jwl hds,h1,jj5]
   ·rename_i _ _ hl;split at h
    ·obtain⟨r',hr',he⟩:=zV.1 h;cases he;refine⟨z,rfl,?_⟩;have hl:=zj hl;have h1:=jwm hr';have h2:=hl.trans (by rw[h1];simp:ds.length=r'.length);rw[h2,jGv,jwl hds,h1,xM];rfl
    ·cases h
   ·cases h
 ·cases h
def jsQ {o:qx} {elem e:Nat} {x:AR} (hh:HRel I B hp nx w) (hB:Old B w) (ho:o.op=.alloc elem) (h:arrF P elem=some (e,x)) :
  jaJ P I B nx a w o ⟨True,.w (.c (.p nx 0 1 0)),(nx,.arr elem e x)::hp,nx+1⟩ true:=by
 obtain⟨z,hz,hzv⟩:=jCx (I:=I) h;obtain⟨v,hv,hvc,_⟩:=ja3 (P:=P) (w:=w) (I:=I) hz
 refine jaq (I':=upd I nx (.pointer (some ⟨w.heap.size,0,none⟩))) (w':=w.alloc (.cells ((arD e x).map D.val).toArray elem)) ?_
  (jbu hh hB _ _ _ (.arr elem e x) rfl rfl (show V.lt (nx+1) (.w (.c (.p nx 0 1 0)))from zp nx) true trivial (jzI hB) (by simp[O.blk,base]))
 unfold qS;rw[hzv]at hvc;simp only[ho,kw,newVar,gz,zr,j5,zn,zu,hv,hvc];simp[V.val,W.val,C.val,base]
def jzJ:∀(vs cs:List C) (n:Nat) (pre:List C),pre.length=n->cs.length=vs.length -> ((vs.zipIdx n).foldl (fun cs (c,j)=>cs.set (0+j) c) (pre++cs))=pre++vs
 |[],cs,n,pre,_,hl=>by
  have:cs=[]:=z4 hl;simp[this]
 |v::vs,[],n,pre,_,hl=>by simp at hl
 |v::vs,c::cs,n,pre,hp,hl=>by
  rw[jY,gd]
  have h1:(pre++c::cs).set (0+n) v=(pre++[v])++cs:=by
   rw[z7,List.set_append_right _ _ (by omega)];simp[hp]
  simp only[h1];rw[jzJ vs cs (n+1) (pre++[v]) (by simp[hp]) (by simpa using hl)];simp
def jD2 {z vs:List C} {e:Nat} {u:W} (hu:u.cells=vs) (hz:z.length=e) (hv:vs.length=e) :
  jdC (fun i=>some (i*e,e)) z [(0,u)]=some vs:=by
 simp only[jdC,hu];rw[if_pos ⟨hv,by omega⟩];have:=jzJ vs z 0 [] rfl (by omega);simp only[qT]at this;simp only[xV];exact congrArg some this
def jGH (k:qf) (e:Nat) (r:List Nat):(Cont.frs k e [r]).flat=frD k e r:=by simp[Cont.flat]
def jsR {o:qx} {t elem e:Nat} {x:zU} {parts:Array (Nat × zU)} {k:qf} {r:List Nat} {z:List C} (hh:HRel I B hp nx w) (hB:Old B w) (hr:jaH I nx rd a)
  (ho:o.op=.buildSlice t 1 parts) (hp1:parts.toList=[(0,x)]) (hu:P.underlying t=some (.slice elem)) (hx:rd x=some (.w (.b (e+1) (.f k r)))) (hs:szT P elem=some (e+1)) (hz:jaG P elem=some z) (hzl:z.length=e+1) (hle:e+1<=4096) :
  jaJ P I B nx a w o ⟨True,.w (.c (.o nx)),(nx,.row elem (.frs k (e+1) [r]))::hp,nx+1⟩ true:=by
 have hv:=hr _ _ hx;obtain⟨zv,hzv,hzc,hlt⟩:=ja3 (P:=P) (w:=w) (I:=I) hz
 have hl:∀c∈[((0:Nat),W.b (e+1) (.f k r))],c.2.one hp=true∧c.2.lt nx:=by
  intro c hc;simp only[zZ]at hc;subst hc;exact⟨rfl,trivial⟩
 have hfc:jdC (fun i=>some (i*(e+1),e+1)) z [(0,W.b (e+1) (.f k r))]=some ((frD k (e+1) r).map C.d):=jD2 rfl hzl (by simp);have hf:=jd9 (I:=I) _ hh _ _ _ hfc hl (hlt nx)
 refine jaq (I':=upd I nx (.slice (some ⟨w.heap.size,0,none⟩) 1 1)) (w':=w.alloc (.cells ((Cont.frs k (e+1) [r]).flat.map D.val).toArray elem)) ?_
  (jbu hh hB _ _ _ (.row elem (.frs k (e+1) [r])) rfl rfl (show V.lt (nx+1) (.w (.c (.o nx)))from zp nx) true trivial (jwh (c:=.frs k (e+1) [r]) hB (by simp[Cont.n])) (by simp[O.blk,zM]))
 unfold qS
 have he:(parts.map fun(i,x)=>(i,a.eval x))=([((0:Nat),W.b (e+1) (.f k r))].map fun x=>(x.1,x.2.val I)).toArray:=by
  apply qR;have hv2:a.eval x=(W.b (e+1) (.f k r)).val I:=hv.2;simp[hp1,hv2]
 have e1:¬(1*(e+1)>2^24):=by omega
 have e2:¬(1*(e+1)=0):=by omega
 have hvs:zv.cells.size=e+1:=by rw[hzc];simp[hzl]
 have hcells:(fR (1*(e+1))).map (zv.cells[· % zv.cells.size]!)=(z.map (C.val I)).toArray:=by
  have:=jgG zv.cells 1;apply qR;simp only[jG,hvs]at this;simp only[hvs];rw[this,hzc];simp
 simp only[ho,he,yz,zr,zR hu,zn,jaV w hs];rw[if_neg e1,if_neg e2];simp only[zr,zu,zn,hzv,hcells];have hfin:=hf.1;simp only[hfin,gz,zr,j5,zn,zu,jGH,xM];simp[V.val,W.val,C.val];rfl
def jip (k:qf):∀r:List Nat,(Cont.floats k r).flat=r.map (D.f k)
 |[]=>rfl
 |x::r=>by
  have:=jip k r;simp only[Cont.flat]at this ⊢;rw[xH,this];rfl
def jD3 {n:Nat} (y:AR) (h:y.cont.n=n):arD n y=y.cont.flat∧y.cont.e=1:=by
 subst h;cases y with
 |f k r=>exact⟨(jj5 k r).trans (jip k r).symm,rfl⟩
 |i r =>
  refine⟨?_,rfl⟩;apply xn;intro j
  by_cases hj:j<r.length
  ·have h1:=(Cont.ints .i64 r).flat_get (i:=j) (j:=0) hj (Nat.zero_lt_one);simp only[Cont.e,yU,xq]at h1;rw[AR.cont,h1];simp[arD,AR.cont,Cont.n,hj,AR.el,Cont.cell]
  ·rw[zW (by simpa [AR.cont,Cont.n]using hj),zW (by rw[Cont.flat_length];simpa [AR.cont,Cont.n,Cont.e]using hj)]
def jrj {o:qx} {t h n elem ty E:Nat} {y:AR} {x:zU} {lo hi:Option zU} {l m:Option Int} (hh:HRel I B hp nx w) (hB:Old B w) (hr:jaH I nx rd a) (ho:o.op=.slice t x lo hi none)
  (hu:P.underlying t=some (.array n elem)) (hx:rd x=some (.w (.c (.p h 0 1 0)))) (hl:ja5 rd lo=some l) (hm:ja5 rd hi=some m) (hf:find hp h=some (.arr ty E y)) (hs:szT P elem=some 1) (hn:n=E) (hn1:1<=n)
  (hob:y.cont.n=n∧0<=l.getD 0∧l.getD 0<=m.getD (n:Int)∧m.getD (n:Int)<=(n:Int)) :
  jaJ P I B nx a w o ⟨y.cont.n=n∧0<=l.getD 0∧l.getD 0<=m.getD (n:Int)∧m.getD (n:Int)<=(n:Int),.w (.c (.o nx)),(nx,.view h (Cont.sub y.cont (l.getD 0).toNat (m.getD (n:Int)).toNat) m.isNone)::hp,nx+1⟩ true:=by
 obtain⟨hrl,h0,h1,h2⟩:=hob;obtain⟨hlt,hol,g,hk,hBg,hheap⟩:=hh.ok h _ hf;subst hn;obtain⟨k1,hlv⟩:=jda hr hl;obtain⟨k2,hmv⟩:=jda hr hm;have hxv:a.eval x=.pointer (some ⟨g,0,none⟩):=by rw[(hr _ _ hx).2];simp[C.val,hk,base]
 have hsb:=jra (P:=P) (w:=w) (len:=n) (l:=l) (m:=m) (k:=k1) (k':=k2) h0 h1 h2;have hlo:(l.getD 0).toNat<=(m.getD (n:Int)).toNat:=by omega
 have hhi:(m.getD (n:Int)).toNat<=n:=by omega
 obtain⟨hfl,he1⟩:=jD3 y hrl
 have hrow:jaQ w (.slice (some ⟨g,0,none⟩) n n) y.cont:=by
  refine⟨some ⟨g,0,none⟩,n,by rw[hrl],⟨by rw[hrl];exact zq _,fun e=>by cases e⟩,fun _=>⟨g,0,rfl,fun j x hj=>?_⟩⟩;rw[z7,xD w g _ _ ty (0,0) hheap,hfl];simp[hj]
 have hsub:=jmj (w:=w) (c:=y.cont) (by rw[he1];exact Nat.zero_lt_one) hrow hlo (by rw[hrl];exact hhi) rfl;rw[he1]at hsub;refine jaq (I':=upd I nx (.slice (if n=(l.getD 0).toNat then some ⟨g,0,none⟩else(some (⟨g,0,none⟩:gu)).map (·.add ((l.getD 0).toNat*1))) ((m.getD (n:Int)).toNat-(l.getD 0).toNat) (n-(l.getD 0).toNat))) (w':=w) ?_ ?_
 ·unfold qS;simp only[ho,hxv,hlv,hmv,ja,hH,zr,zR hu,zn,qU,zu,hsb,jaV w hs];simp[V.val,W.val,C.val];split<;>simp_all
 ·refine jdl hh hB _ (.view h _ m.isNone) rfl rfl (show V.lt (nx+1) (.w (.c (.o nx)))from zp nx) true (zF hlt (xi nx)) ⟨by rw[upd_same];exact hsub,fun hfl a' n' cap' heq=>?_⟩ rfl;rw[upd_same]at heq;cases heq;cases m with
  |none=>simp
  |some q=>cases hfl
def jrk {o:qx} {t h i n elem:Nat} {k:qf} {r:List (List Nat)} {x:zU} {lo hi:Option zU} {l m:Option Int} (hh:HRel I B hp nx w) (hB:Old B w) (hr:jaH I nx rd a) (ho:o.op=.slice t x lo hi none)
  (hu:P.underlying t=some (.array n elem)) (hx:rd x=some (.w (.c (.p h i n 0)))) (hl:ja5 rd lo=some l) (hm:ja5 rd hi=some m) (hf:find hp h=some (.ext (.frs k n r))) (hs:szT P elem=some 1) (hn1:1<=n)
  (hob:i<r.length∧(r.getD i []).length=n∧0<=l.getD 0∧l.getD 0<=m.getD (n:Int)∧m.getD (n:Int)<=(n:Int)) :
  jaJ P I B nx a w o ⟨i<r.length∧(r.getD i []).length=n∧0<=l.getD 0∧l.getD 0<=m.getD (n:Int)∧m.getD (n:Int)<=(n:Int),.w (.c (.o nx)),(nx,.ext (Cont.sub (.floats k (r.getD i [])) (l.getD 0).toNat (m.getD (n:Int)).toNat))::hp,nx+1⟩ true:=by
 obtain⟨hi,hrl,h0,h1,h2⟩:=hob;obtain⟨hlt,hol,⟨av,cap,hv,_,hcells⟩,hold⟩:=hh.ok h _ hf;obtain⟨g,off,rfl,hx2⟩:=hcells (yW (xh i) hi);have hBg:B.kp g:=hold _ _ _ hv (yW (xh i) hi);obtain⟨k1,hlv⟩:=jda hr hl;obtain⟨k2,hmv⟩:=jda hr hm;have hxv:a.eval x=.pointer (some ⟨g,off+i*n,none⟩):=by rw[(hr _ _ hx).2];simp[V.val,W.val,C.val,hv,base]
 have hsb:=jra (P:=P) (w:=w) (len:=n) (l:=l) (m:=m) (k:=k1) (k':=k2) h0 h1 h2;have hlo:(l.getD 0).toNat<=(m.getD (n:Int)).toNat:=by omega
 have hhi:(m.getD (n:Int)).toNat<=n:=by omega
 have hrow:jaQ w (.slice (some ⟨g,off+i*n,none⟩) n n) (.floats k (r.getD i [])):=by
  refine⟨some ⟨g,off+i*n,none⟩,n,by simp only[Cont.n,hrl],⟨by simp only[Cont.n,hrl];exact zq _,fun e=>by cases e⟩,fun _=>⟨g,off+i*n,rfl,fun j y hj=>?_⟩⟩;rw[jip,zL]at hj;obtain⟨z,hz,rfl⟩:=zV.1 hj;have hjn:j<n:=by rw[<-hrl];exact(zA.1 hz).1
  have h3:=(Cont.frs k n r).flat_get (i:=i) (j:=j) hi hjn;have h4:=hx2 _ _ h3;simp only[Cont.cell,Cont.e]at h4;have h5:(r.getD i []).getD j 0=z:=by rw[qF,hz];rfl
  rw[xy,h4,h5]
 have hsub:=jmj (w:=w) (c:=.floats k (r.getD i [])) Nat.zero_lt_one hrow hlo (by simp only[Cont.n,hrl];exact hhi) rfl;refine jaq (I':=upd I nx (.slice (if n=(l.getD 0).toNat then some ⟨g,off+i*n,none⟩else(some (⟨g,off+i*n,none⟩:gu)).map (·.add ((l.getD 0).toNat*1))) ((m.getD (n:Int)).toNat-(l.getD 0).toNat) (n-(l.getD 0).toNat))) (w':=w) ?_ ?_
 ·unfold qS;simp only[ho,hxv,hlv,hmv,ja,hH,zr,zR hu,zn,qU,zu,hsb,jaV w hs];simp[V.val,W.val,C.val];split<;>simp_all
 ·refine jdl hh hB _ (.ext _) rfl rfl (show V.lt (nx+1) (.w (.c (.o nx)))from zp nx) true trivial ⟨by rw[upd_same];exact hsub,fun a' n' cap' heq hn'=>?_⟩ rfl;rw[upd_same]at heq
  injection heq with e1 e2 e3
  split at e1
  ·cases e1;exact hBg
  ·simp only[qn,zk,jaX]at e1;subst e1;exact hBg
def jcS {o:qx} {r:Res} {M:Bool} (h:jaJ P I B nx a w o r true):jaJ P I B nx a w o r M:=fun K Q hK =>
 h K Q fun I' w' hl=>hK I' w' ⟨hl.agree,hl.lt,hl.le,(let ⟨B',g,h⟩:=hl.heap; ⟨B',⟨g.le,g.new,g.out,fun _=>g.mono rfl⟩,h⟩),hl.below,fun _=>hl.mono rfl,fun _=>hl.fresh rfl⟩
def XC.sub_spec (X:XC) {lo hi:Nat} (h:lo<=hi) (hh:hi<=X.n):(X.sub lo hi).n=hi-lo∧(X.sub lo hi).e=X.e∧∀k m,k<hi-lo->(X.sub lo hi).cell k m=X.cell (lo+k) m:=by
 cases X<;>simp only[XC.sub,XC.n,XC.e,XC.cell]at * <;>
  first
  |(refine⟨by simp;omega,trivial,fun k m hk=>?_⟩;simp[za,hk])
  |(refine⟨by simp;omega,rfl,fun k m hk=>?_⟩;simp[za,hk])
def jD4 {B B':Bd} {v:zt} {X:XC} (hb:∀k,B k->B' k) (h:IsX B w v X):IsX B' w v X:=by
 obtain⟨a,cap,hv,hc,hcells⟩:=h;refine⟨a,cap,hv,hc,fun hn=>?_⟩;obtain⟨b,off,hab,hB,hx⟩:=hcells hn;refine⟨b,off,hab,hb b hB,fun i j hi hj=>?_⟩;obtain⟨u,hu,hux⟩:=hx i j hi hj;refine⟨u,hu,?_⟩
 generalize X.cell i j=nc at *
 cases nc with
 |d x=>exact hux
 |r c=>exact⟨hux.1,fun a n cap hv hn=>hb _ (hux.2 a n cap hv hn)⟩
def jGI {v:zt} {X:XC} {lo hi:Nat} (h:IsX B w v X) (hlo:lo<=hi) (hhi:hi<=X.n) {a':Option gu} {n cap:Nat} (hv:v=.slice a' n cap) :
  IsX B w (.slice (if cap=lo then a' else a'.map (·.add (lo*X.e))) (hi-lo) (cap-lo)) (X.sub lo hi):=by
 obtain⟨a2,cap2,h1,⟨h2,h2'⟩,h3⟩:=h;rw[hv]at h1;cases h1;have hs:=X.sub_spec hlo hhi;refine⟨_,_,by rw[hs.1],⟨by omega,fun hnone=>?_⟩,fun hn=>?_⟩
 ·by_cases hc:cap=lo
  ·omega
  ·rw[if_neg hc]at hnone;have:=h2' (by simpa using hnone);omega
 rw[hs.1]at hn;obtain⟨b,off,rfl,hbB,hx⟩:=h3 (by omega);rw[if_neg (by omega)];refine⟨b,off+lo*X.e,by simp[jaX],hbB,fun i j hi' hj=>?_⟩;rw[hs.1]at hi';rw[hs.2.1]at hj ⊢;obtain⟨u,hu,hux⟩:=hx (lo+i) j (by omega) hj;refine⟨u,?_,by rw[hs.2.2 _ _ hi'];exact hux⟩;have e1:off+lo*X.e+(i*X.e+j)=off+((lo+i)*X.e+j):=by rw[qy];omega
 rw[e1];exact hu
def jwn {o:qx} {t h sz elem:Nat} {x:zU} {lo hi:Option zU} {l m:Option Int} {X:XC} (hh:HRel I B hp nx w) (hB:Old B w) (hr:jaH I nx rd a) (ho:o.op=.slice t x lo hi none)
  (hu:P.underlying t=some (.slice elem)) (hx:rd x=some (.w (.c (.o h)))) (hl:ja5 rd lo=some l) (hm:ja5 rd hi=some m) (hf:find hp h=some (.xext X)) (hs:szT P elem=some sz) (hsz:sz=X.e)
  (hob:0<=l.getD 0∧l.getD 0<=m.getD (X.n:Int)∧m.getD (X.n:Int)<=(X.n:Int)) :
  jaJ P I B nx a w o ⟨0<=l.getD 0∧l.getD 0<=m.getD (X.n:Int)∧m.getD (X.n:Int)<=(X.n:Int),.w (.c (.o nx)),(nx,.xext (X.sub (l.getD 0).toNat (m.getD (X.n:Int)).toNat))::hp,nx+1⟩ true:=by
 obtain⟨h0,h1,h2⟩:=hob;have hok:=hh.ok h _ hf;obtain⟨a2,cap,hv,⟨hcap,_⟩,hcells⟩:=hok.2.2;have hlo:(l.getD 0).toNat<=(m.getD (X.n:Int)).toNat:=by omega
 have hhi:(m.getD (X.n:Int)).toNat<=X.n:=by omega
 have hsub:=jGI (w:=w) hok.2.2 hlo hhi hv;obtain⟨k1,hlv⟩:=jda hr hl;obtain⟨k2,hmv⟩:=jda hr hm;have hsb:=jhQ (P:=P) (w:=w) (len:=X.n) (cap:=cap) (l:=l) (m:=m) (k:=k1) (k':=k2) h0 h1 h2 hcap;have hxv:a.eval x=.slice a2 X.n cap:=by rw[(hr _ _ hx).2];exact hv
 subst hsz;refine jaq (I':=upd I nx (.slice (if cap=(l.getD 0).toNat then a2 else a2.map (·.add ((l.getD 0).toNat*X.e))) ((m.getD (X.n:Int)).toNat-(l.getD 0).toNat) (cap-(l.getD 0).toNat))) (w':=w) ?_ ?_
 ·unfold qS;simp only[ho,hxv,hlv,hmv,ja,hH,ky,zr,zR hu,zn,hsb,jaV w hs,zu];simp[V.val,W.val,C.val]
 ·exact jdl hh hB _ (.xext (X.sub (l.getD 0).toNat (m.getD (X.n:Int)).toNat)) rfl rfl (show V.lt (nx+1) (.w (.c (.o nx)))from zp nx) true trivial (by unfold O.ok;rw[upd_same];exact hsub) rfl
def jzK (bk:Bool) (c:Cont) {n:Nat}:(jeC bk c).lt n:=by cases bk<;>trivial
def jCy (bk:Bool) (c:Cont) (v:zt):(jeC bk c).blk v=none:=by cases bk<;>rfl
def jwo (bk:Bool) (c:Cont) (v:zt) (k:Nat):(jeC bk c).blk v≠some k:=by cases bk<;>simp[jeC,O.blk]
def Kd.sel (B:Kd):Bool->Nat->Prop|true=>B.fr|false=>B.kp
def jzL {I:Env} {B:Kd} {w:zs} {h:Nat} {bk:Bool} {c:Cont} (hr:jaQ w (I h) c∧jbM (B.sel bk) (I h)):(jeC bk c).ok I B w h:=by cases bk<;>exact hr
def jzM {I:Env} {B:Kd} {w:zs} {h:Nat} {o:O} {bk:Bool} {X:XC} (hok:o.ok I B w h) (hx:o.xk=some (bk,X)):∃a cap,I h=.slice a X.n cap∧(X.n<=cap∧(a=none->cap=0)) ∧
  (0<X.n->∃b off,a=some ⟨b,off,none⟩∧∀i j,i<X.n->j<X.e->∃u,w.cell? ⟨b,off+(i*X.e+j),none⟩=some u∧(X.cell i j).at (B.sel bk) w u):=by
 cases o with
 |xext X' =>
  simp only[O.xk,zk,qp]at hx;obtain⟨rfl,rfl⟩:=hx;obtain⟨a,cap,h1,h2,h3⟩:=hok;exact⟨a,cap,h1,h2,fun hn=>let ⟨b,off,h4,_,h6⟩:=h3 hn; ⟨b,off,h4,h6⟩⟩
 |xrow ty X' =>
  simp only[O.xk,zk,qp]at hx;obtain⟨rfl,rfl⟩:=hx;obtain⟨us,hr,hi,_⟩:=hok;rcases hr.2 with ⟨h1,hn⟩|⟨g,cap,cur,h1,h2,h3,h4,h5,h6,h7⟩
  ·exact⟨none,0,by rw[hn];exact h1,⟨by omega,fun _=>rfl⟩,fun h=>by omega⟩
  ·refine⟨some ⟨g,0,none⟩,cap,h1,⟨h4,fun h=>by cases h⟩,fun _=>⟨g,0,rfl,fun i j h8 h9=>?_⟩⟩;obtain⟨u,hu,hux⟩:=hi i j h8 h9;refine⟨u,?_,hux⟩;rw[z7,xD w g _ cur ty (0,0) h3];have h2:(cur.toList.take (X'.n*X'.e))[i*X'.e+j]?=some u:=by rw[h7,hu]
   rw[qc]at h2;split at h2
   ·simpa using h2
   ·cases h2
 |_=>simp[O.xk]at hx
def jwp {bk:Bool}:∀(l:List NC) (nx:Nat) (hp:Hp) (h:Nat),h<nx->find (ncs bk l nx hp).2.1 h=find hp h
 |[],_,_,_,_=>rfl
 |x::l,nx,hp,h,hlt=>by
  simp only[ncs];rw[jwp l (ncN nx x) (ncH bk nx hp x) h (by cases x<;>simp only[ncN]<;>omega)];cases x with
  |d y=>rfl
  |r c=>simp only[ncH,find];rw[if_neg (by omega)]
def jpQ {w:zs} {bk:Bool} (hB:Old B w):∀(l:List NC) (us:List zt) (nx:Nat) (hp:Hp) (I:Env),HRel I B hp nx w->l.length=us.length->(∀(j:Nat) (x:NC) (u:zt),l[j]?=some x->us[j]?=some u->x.at (B.sel bk) w u) ->
  ∃I',jak nx I I'∧(ncs bk l nx hp).1.map (C.val I')=us∧(∀c∈(ncs bk l nx hp).1,C.lt (ncs bk l nx hp).2.2 c)∧nx<=(ncs bk l nx hp).2.2∧HRel I' B (ncs bk l nx hp).2.1 (ncs bk l nx hp).2.2 w ∧ ∀h o k,nx<=h->find (ncs bk l nx hp).2.1 h=some o->o.blk (I' h)≠some k
 |[],us,nx,hp,I,hh,hl,_=>by
  have:us=[]:=z4 hl.symm;subst this;exact⟨I,jak.refl _ _,rfl,(fun c hc=>by cases hc),zq _,hh,fun h o k hn hf=>by have:=(hh.ok h o hf).1;omega⟩
 |x::l,[],nx,hp,I,hh,hl,_=>by simp at hl
 |x::l,u::us,nx,hp,I,hh,hl,hat=>by
  have h0:=hat 0 x u rfl rfl;cases x with
  |d y =>
   have hu:u=y.val:=h0;obtain⟨I',hag,hm,hlt,hle,hh',hb⟩:=jpQ hB l us nx hp I hh (by simpa using hl) (fun j x u hj hu=>hat (j+1) x u (by simpa using hj) (by simpa using hu));refine⟨I',hag,?_,?_,hle,hh',hb⟩
   ·simp only[ncs,ncN,ncH,zJ,hm,C.val,hu]
   ·intro c hc;simp only[ncs,ncN,ncH,qu]at hc;rcases hc with rfl|hc
    ·trivial
    ·exact hlt c hc
  |r c =>
   have hu:jaQ w u c∧jbM (B.sel bk) u:=h0;have hh1:HRel (upd I nx u) B ((nx,jeC bk c)::hp) (nx+1) w:=hh.add (xz _ w) hB (jas _ _ _) (jzK bk c) (jzL (by rw[upd_same];exact hu)) (fun k hk=>absurd hk (jwo bk c _ k));obtain⟨I',hag,hm,hlt,hle,hh',hb⟩:=jpQ hB l us (nx+1) _ _ hh1 (by simpa using hl) (fun j x u hj hu=>hat (j+1) x u (by simpa using hj) (by simpa using hu));have hag2:jak nx I I':=(jas I nx u).trans hag (xi nx);refine⟨I',hag2,?_,?_,Nat.le_of_succ_le hle,hh',fun h o k hn hf hk=>?_⟩
   ·simp only[ncs,ncN,ncH,zJ,hm,C.val];rw[hag nx (zp nx),upd_same]
   ·intro d hd;simp only[ncs,ncN,ncH,qu]at hd;rcases hd with rfl|hd
    ·exact hle
    ·exact hlt d hd
   ·by_cases e:h=nx
    ·subst e;have hf2:find (ncs bk l (h+1) ((h,jeC bk c)::hp)).2.1 h=some o:=hf
     have:o=jeC bk c:=by
      have:=jwp (bk:=bk) l (h+1) ((h,jeC bk c)::hp) h (zp h);rw[this]at hf2;simpa [find]using hf2.symm
     subst this;exact jwo bk c _ k hk
    ·exact hb h o k (by omega) hf hk
def jwq {o:qx} {t h i e j:Nat} {x:zU} {X:XC} {bk:Bool} {ox:O} {c:Cont} (hh:HRel I B hp nx w) (hB:Old B w) (hr:jaH I nx rd a) (ho:o.op=.load t x) (hx:rd x=some (.w (.c (.p h i e j)))) (hf:find hp h=some ox) (hxk:ox.xk=some (bk,X))
  (he:e=X.e) (hag:jbF P t=some false) (hj:j<X.e) (hc:X.cell i j=.r c) (hob:i<X.n) :
  jaJ P I B nx a w o ⟨i<X.n,.w (.c (.o nx)),(nx,jeC bk c)::hp,nx+1⟩ true:=by
 obtain⟨a2,cap,hv,_,hcells⟩:=jzM (hh.ok h _ hf).2.2 hxk;obtain⟨b,off,rfl,hx2⟩:=hcells (by omega);obtain⟨u,hu,hux⟩:=hx2 i j hob hj;rw[hc]at hux;refine jaq (I':=upd I nx u) (w':=w) ?_ (jdl hh hB u (jeC bk c) rfl rfl (show V.lt (nx+1) (.w (.c (.o nx)))from zp nx) true (jzK bk c) (jzL (by rw[upd_same];exact hux)) (jCy bk c _));unfold qS;subst he;have hlv:=jaW (P:=P) w hag hu;simp[ho,(hr _ _ hx).2,C.val,hv,base,jN,qU,hlv,V.val,W.val]
def jwr {o:qx} {t h i e sz:Nat} {x:zU} {X:XC} {bk:Bool} {ox:O} (hh:HRel I B hp nx w) (hB:Old B w) (hr:jaH I nx rd a) (ho:o.op=.load t x) (hx:rd x=some (.w (.c (.p h i e 0)))) (hf:find hp h=some ox) (hxk:ox.xk=some (bk,X))
  (he:e=X.e) (hag:jbF P t=some true) (hs:szT P t=some sz) (hsz:sz=X.e) (hob:i<X.n) :
  jaJ P I B nx a w o ⟨i<X.n,.w (.a (ncs bk ((zo X.e).map fun m=>X.cell i m) nx hp).1),(ncs bk ((zo X.e).map fun m=>X.cell i m) nx hp).2.1,(ncs bk ((zo X.e).map fun m=>X.cell i m) nx hp).2.2⟩ true:=by
 obtain⟨a2,cap,hv,_,hcells⟩:=jzM (hh.ok h _ hf).2.2 hxk;obtain⟨b,off,rfl,hx2⟩:=hcells (by omega);subst he;subst hsz
 have hex:∃us:List zt,us.length=X.e∧∀j,j<X.e->∃u,us[j]?=some u∧w.cell? ⟨b,off+(i*X.e+j),none⟩=some u∧(X.cell i j).at (B.sel bk) w u:=by
  refine⟨(zo X.e).map fun j=>(w.cell? ⟨b,off+(i*X.e+j),none⟩).getD zX,by simp,fun j hj=>?_⟩;obtain⟨u,hu,hux⟩:=hx2 i j hob hj;exact⟨u,by simp[hj,hu],hu,hux⟩
 obtain⟨us,hul,hus⟩:=hex
 obtain⟨I',hag2,hm,hlt,hle,hh',hb⟩:=jpQ (w:=w) hB ((zo X.e).map fun m=>X.cell i m) us nx hp I hh (by simp[hul]) (fun j x u hj hu=>by
  have hjl:j<X.e:=by have:=(zA.1 hj).1;simpa using this
  obtain⟨u',hu',_,hat⟩:=hus j hjl;rw[hu]at hu';cases hu';simp[hjl]at hj;subst hj;exact hat)
 refine jaq (I':=I') (w':=w) ?_ ⟨hag2,hlt,hle,hh'.gr,Bel.refl _ _,fun _=>xz _ _,fun _ h' o' k hn hf' hk=>absurd hk (hb h' o' k hn hf')⟩;unfold qS
 have hlv:=jcr (P:=P) w (a:=⟨b,off+(i*X.e+0),none⟩) (cs:=us) hag (by rw[hul];exact hs) (fun j v hj=>by
  have hjl:j<X.e:=by rw[<-hul];exact(zA.1 hj).1
  obtain⟨u',hu',hcell,_⟩:=hus j hjl;rw[hj]at hu';cases hu';rw[jaX,xy,xy,z7];exact hcell)
 simp only[xq]at hlv;simp[ho,(hr _ _ hx).2,C.val,hv,base,jN,qU,hlv,V.val,W.val,hm]
def jD5 {k:qf} {E:Nat} {l:List (List Nat)} {i j v:Nat} (hi:i<l.length) (hj:j<E):jri (.frs k E l) (.frs k E (l.set i (jeB E (l.getD i []) j v))) i j [D.f k v]:=by
 refine⟨by simp[Cont.n],rfl,by simp[Cont.e];omega,fun q m hm=>?_⟩;simp only[Cont.cell,Cont.e]at *;rw[jaL _ _ _ _ _ hi]
 by_cases hq:q=i
 ·subst hq;rw[if_pos rfl,jwf hj hm]
  by_cases hmj:m=j
  ·subst hmj;simp
  ·rw[if_neg hmj,if_neg (by simp;omega)]
 ·simp[hq]
def jD6 {k:qf} {E:Nat} {l:List (List Nat)} {i:Nat} {v:List Nat} (hi:i<l.length):jri (.frs k E l) (.frs k E (l.set i v)) i 0 (frD k E v):=by
 refine⟨by simp[Cont.n],rfl,by simp[Cont.e],fun q m hm=>?_⟩;simp only[Cont.cell,Cont.e]at *;rw[jaL _ _ _ _ _ hi]
 by_cases hq:q=i
 ·subst hq;rw[if_pos rfl,if_pos (by simp;omega)];simp[frD,za,hm]
 ·simp[hq]
def jws:∀(l:List D),jbo (l.map C.d)=some l
 |[]=>rfl
 |x::l=>by simp[jbo,dOf,jws l]
def jwt (l:List D) (h:∀x∈l,x.one=true):((l.map C.d).all fun c=>c.one hp)=true:=by
 rw[zx];intro c hc;obtain⟨x,hx,rfl⟩:=qm.1 hc;exact h x hx
def jGJ (k:qf) (e:Nat) (r:List Nat):∀x∈frD k e r,x.one=true:=by
 intro x hx;obtain⟨_,_,rfl⟩:=qm.1 hx;rfl
def jGK (e:Nat) (x:AR):∀y∈arD e x,y.one=true:=by
 intro y hy;obtain⟨_,_,rfl⟩:=qm.1 hy;cases x<;>rfl
def jzN {E m:Nat} {r r':AR} {v:D} (h:r.put E m v=some r'):v.one=true:=by
 unfold AR.put at h;split at h<;>first|rfl|cases h
def jeH {o:qx} {t h i e j ty E E':Nat} {r v':AR} {x y:zU} {u:W} (hh:HRel I B hp nx w) (hr:jaH I nx rd a) (ho:o.op=.store t x y)
  (hx:rd x=some (.w (.c (.p h i e j)))) (hy:rd y=some (.w u)) (hone:u.one hp=true) (hs:szT P t=some u.cells.length) (hall:(u.cells.all fun c=>c.one hp)=true)
  (hf:find hp h=some (.arr ty E r)) (hE:E'=E) (hle:i*e+j+u.cells.length<=E)
  (hnew:((arD E r).map D.val).take (i*e+j)++u.cells.map (C.val I)++((arD E r).map D.val).drop (i*e+j+u.cells.length)=(arD E' v').map D.val) :
  jaJ P I B nx a w o ⟨i*e+j+u.cells.length<=E,vu,(h,.arr ty E' v')::jal hp,nx⟩ false:=by
 have h1:=hr _ _ hx;have h2:=hr _ _ hy;obtain⟨hlt,hol,g,hk,hBg,hheap⟩:=hh.ok h _ hf;have hc:=W.cells_val hh hone;have hvs:(u.val I).cells.size=u.cells.length:=by rw[hc];simp
 have hst:=jbO (P:=P) (t:=t) (g:=g) (off:=i*e+j) (v:=u.val I) (by rw[hvs];exact hs) hheap (by rw[hvs];simpa using hle) (by rw[hc];exact jcO hh hall);refine jcs (I':=I) (w':=w.setRow g ((((arD E r).map D.val).toArray.toList.take (i*e+j)++(u.val I).cells.toList++((arD E r).map D.val).toArray.toList.drop (i*e+j+(u.val I).cells.size)).toArray)) ?_ rfl ?_
 ·unfold qS;have h1v:a.eval x=.pointer (some ⟨g,i*e+j,none⟩):=by rw[h1.2];simp[C.val,hk,base]
  have h2v:a.eval y=u.val I:=h2.2;simp only[ho,h1v,h2v,yM,qU,zr,zu,zn,hst]
 ·refine⟨jak.refl _ _,trivial,zq _,HRel.gr ?_,jcj hBg,(fun h=>by cases h),fun h=>by cases h⟩;refine HRel.write hh hf (g:=g) (by simp[O.blk,hk,base]) (fun k _ hne=>yj w g k _ hne) ?_ trivial (by simp[O.blk,hk,base]);refine⟨g,hk,hBg,?_⟩;rw[yV w g _ _ ty (0,0) hheap,<-hnew,hc];simp
def jHy {E:Nat} {r r':AR} {m:Nat} {v:D} (h:r.put E m v=some r') (hm:m<E) {t:Nat} (ht:t<E):r'.el t=if t=m then v else r.el t:=by
 unfold AR.put at h;split at h
 ·split at h
  ·rename_i hk;have hk:=jci hk;subst hk;cases h;simp only[AR.el,jwf hm ht];split<;>rfl
  ·cases h
 ·cases h;simp only[AR.el];rw[jaL _ _ _ _ _ (by simpa [jeE]using hm)];split
  ·rfl
  ·simp[jeE,za,ht]
 ·cases h
def jD7 {E:Nat} {r r':AR} {m:Nat} {v:D} (hp:r.put E m v=some r') (hm:m<E) :
  ((arD E r).map D.val).take m++[v.val]++((arD E r).map D.val).drop (m+1)=(arD E r').map D.val:=by
 apply xn;intro t
 by_cases ht:t<E
 ·have hL:((arD E r').map D.val)[t]?=some (r'.el t).val:=by simp[arD,ht]
  have hR:((arD E r).map D.val)[t]?=some (r.el t).val:=by simp[arD,ht]
  rw[hL,jHy hp hm ht];have hlen:((arD E r).map D.val).length=E:=by simp
  by_cases h1:t=m
  ·subst h1;rw[if_pos rfl,qD,qh (by simp;omega)];simp[Nat.min_eq_left (Nat.le_of_lt hm)]
  ·rw[if_neg h1]
   by_cases h2:t<m
   ·rw[qD,z8 (by simp;omega),qc,if_pos h2,hR]
   ·rw[qh (by simp;omega),yh];have:m+1+(t-(((arD E r).map D.val).take m++[v.val]).length)=t:=by simp;omega
    rw[this,hR]
 ·rw[zW (by simp;omega),zW (by simp;omega)]
def jeI {o:qx} {p q:Prop} {v:V} {hp':Hp} {n:Nat} {M:Bool} (h:jaJ P I B nx a w o ⟨p,v,hp',n⟩ M):jaJ P I B nx a w o ⟨q,v,hp',n⟩ M:=by
 intro K Q hK;refine h K Q fun I' w' hl=>hK I' w' ⟨hl.agree,hl.lt,hl.le,hl.heap,hl.below,hl.mono,hl.fresh⟩
def jiq {k:qf}:∀{cs:List C} {r:List Nat},jeD k cs=some r->cs=r.map fun n=>C.d (.f k n)
 |[],r,h=>by simp only[jeD,zk]at h;subst h;rfl
 |c::l,r,h=>by
  unfold jeD at h;split at h
  ·rename_i h0;cases h0
  ·rename_i k' n l' h0;cases h0;split at h
   ·rename_i r' hk hr;cases h;have hk:=jci hk;subst hk;simp[jiq hr]
   ·cases h
  ·cases h
def jwu {k:qf} {I:Env} {cs:List C} {r:List Nat} (h:jeD k cs=some r):cs.map (C.val I)=r.map (yJ k ·):=by
 rw[jiq h];simp[xI,C.val,D.val]
def jGL {k:qf} (r:List Nat):(frD k r.length r).map D.val=r.map (yJ k ·):=by
 apply xF
 ·simp
 ·intro i h1 h2;simp at h1 h2;simp[frD,D.val,h1]
def jpb:∀{cs:List C} {r:List Int},jgU cs=some r->cs=r.map fun n=>C.d (.i .i64 n)
 |[],r,h=>by simp only[jgU,zk]at h;subst h;rfl
 |c::l,r,h=>by
  unfold jgU at h;split at h
  ·rename_i h0;cases h0
  ·rename_i h0;cases h0;obtain⟨r',hr,rfl⟩:=zV.1 h;rw[jpb hr];rfl
  ·cases h
def jmk {x y:AR} {cs:List C} (h:x.cells cs=some y):cs.map (C.val I)=(arD cs.length y).map D.val∧(cs.all fun c=>c.one hp)=true:=by
 unfold AR.cells at h;split at h
 ·obtain⟨r,hr,rfl⟩:=zV.1 h;have h1:=jiq hr;have h2:cs.length=r.length:=by rw[h1];simp
  refine⟨by rw[h2,jGu,jGL,jwu hr],zx.2 fun c hc=>?_⟩;rw[h1]at hc;obtain⟨_,_,rfl⟩:=qm.1 hc;rfl
 ·obtain⟨r,hr,rfl⟩:=zV.1 h;have h1:=jpb hr;have h2:cs.length=r.length:=by rw[h1];simp
  refine⟨by rw[h2,jGv,h1,xM];rfl,zx.2 fun c hc=>?_⟩;rw[h1]at hc;obtain⟨_,_,rfl⟩:=qm.1 hc;rfl
def jyA {o:qx} {r:Res} (hh:HRel I B hp nx w) (hB:Old B w) (hr:jaH I nx rd a) (h:jhM P o.op rd hp nx=some r) (hob:r.ob) :
  jaJ P I B nx a w o r (jaw sp o.op rd):=by
 unfold jhM at h;split at h
 ·rename_i elem x hop;split at h
  ·rename_i k e r' hx;cases h;simp only[hop,jaw];exact jwk hh hB hr hop hx
  ·cases h
 ·rename_i elem hop;split at h
  ·rename_i k r' hz;cases h;simp only[hop,jaw];exact jsQ hh hB hop hz
  ·cases h
 ·rename_i t n parts hop;split at h
  ·rename_i elem x hu hp1;split at h
   ·rename_i k e r' sz z hx hs hz;split at h
    ·rename_i h1 h2 h3 h4;have h1:=zj h1;have h2:=zj h2;have h3:=zj h3;have h4:=zh h4;subst h1;subst h2;cases h;simp only[hop,jaw];exact jcS (jsR hh hB hr hop hp1 hu hx hs hz h3 h4)
    ·cases h
   ·cases h
  ·cases h
 ·rename_i t x lo hi hop;split at h
  ·rename_i n elem h0 i e l m hu hx hl hm;split at h
   ·rename_i ty E r' hf hs;split at h
    ·rename_i h1 h2 h3 h4;cases h;have h1:=zj h1;have h2:=zj h2;subst h1;subst h2;simp only[hop,jaw];exact jcS (jrj hh hB hr hop hu hx hl hm hf hs (zj h3) (zh h4) hob)
    ·cases h
   ·rename_i kf E r hf hs;split at h
    ·rename_i h1 h2 h3;cases h;have h1:=zj h1;have h2:=zj h2;subst h1;subst h2;simp only[hop,jaw];exact jcS (jrk hh hB hr hop hu hx hl hm hf hs (zh h3) hob)
    ·cases h
   ·cases h
  ·rename_i elem k l m hu hx hl hm;split at h
   ·rename_i X sz hf hs;split at h
    ·rename_i h1 h2;cases h;simp only[hop,jaw];exact jcS (jwn hh hB hr hop hu hx hl hm hf hs (zj h1) hob)
    ·cases h
   ·cases h
  ·cases h
 ·rename_i t x hop;split at h
  ·rename_i k i e j hx;split at h
   ·rename_i bk X hfx;obtain⟨ox,hf,hxk⟩:=zK.1 hfx;split at h
    ·rename_i he hag;split at h
     ·rename_i c hj hc;cases h;simp only[hop,jaw];exact jwq hh hB hr hop hx hf hxk (zj he) hag (zF (zp j) (zh hj)) hc hob
     ·cases h
    ·rename_i he hag;split at h
     ·rename_i sz hj hs;split at h
      ·rename_i hsz;have hj:=zj hj;subst hj;cases h;simp only[hop,jaw];exact jwr hh hB hr hop hx hf hxk (zj he) hag hs (zj hsz) hob
      ·cases h
     ·cases h
    ·cases h
   ·cases h
  ·cases h
 ·rename_i t x y hop;split at h
  ·rename_i k i e j v0 hx hy;split at h
   ·rename_i ty E r' hag hs hf;split at h
    ·rename_i r2 hk;cases h;simp only[hop,jaw];have hob:i*e+j<E:=hob;exact jeI (jeH (E':=E) hh hr hop hx hy (jzN hk) (by simpa [W.cells]using hs) (by simp only[W.cells,List.all_cons,List.all_nil,Bool.and_true];exact jzN hk) hf rfl (by simp[W.cells];omega) (jD7 hk hob))
    ·cases h
   ·rename_i ty k' E l kf v hag hs hf;split at h
    ·rename_i hk he;have hk:=jci hk;subst hk;have he:=zj he;subst he;cases h;simp only[hop,jaw];have hob:i<l.length∧j<E+1:=hob;exact jeI (jeG hh hr hop hx hy rfl (by simpa [W.cells]using hs) rfl hf rfl (jD5 hob.1 hob.2) rfl (yX E) hob.1)
    ·cases h
   ·cases h
  ·rename_i k i e E' y0 hx hy;split at h
   ·rename_i sz ty E r' hag hs hf;split at h
    ·rename_i h1 h2 h3 h4;have h2:=zj h2;have h3:=zj h3;have h4:=zj h4;subst h2;subst h3;subst h4;cases h;simp only[hop,jaw];exact jeI (jeH (E':=E') hh hr hop hx hy rfl (by simpa [W.cells]using hs) (jwt _ (jGK E' _)) hf rfl (by simp[W.cells]) (by simp[W.cells,xI,C.val,yY]))
    ·cases h
   ·rename_i sz ty k' E l kf v hag hs hf;split at h
    ·rename_i h1 h2 h3 h4;have hk:=jci h1;subst hk;have h2:=zj h2;have h3:=zj h3;have h4:=zj h4;subst h2;subst h3;subst h4;cases h;simp only[hop,jaw];have hob:i<l.length:=hob;exact jeI (jeG hh hr hop hx hy rfl (by simpa [W.cells]using hs) (jwt _ (jGJ kf _ v)) hf (jws _) (jD6 hob) rfl (yX E) hob)
    ·cases h
   ·cases h
  ·rename_i k i e cs hx hy;split at h
   ·rename_i sz ty E r' hag hs hf;split at h
    ·rename_i y hv;split at h
     ·rename_i h2 h3 h4;have h2:=zj h2;have h3:=zj h3;have h4:=zj h4;subst h2;subst h4;cases h;simp only[hop,jaw];obtain⟨hcs,hone⟩:=jmk (I:=I) (hp:=hp) hv;refine jeI (jeH (E':=sz) (v':=y) hh hr hop hx hy rfl (by simpa [W.cells,h3]using hs) hone hf rfl (by simp[W.cells,h3]) ?_);simp only[W.cells,xV,xq,List.take_zero,qT,z7,h3];rw[hcs,h3,yY (by simp),List.append_nil]
     ·cases h
    ·cases h
   ·cases h
  ·cases h
 ·cases h
end
end Go.Sx
end
