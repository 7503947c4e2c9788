/- Part 1 of the proof of EngineBlocks: the executor, the mirrors of the functions, the plain facts. -/
import Derived.WalkKit
import Derived.Laws.StructEq
import Derived.Laws.BytesString
set_option maxRecDepth 100000
set_option linter.unusedSectionVars false
set_option linter.unusedSimpArgs false
set_option linter.unusedVariables false
set_option linter.defProp false
open Array renaming ext'->xf,getElem?_eq_some_iff->zM,getElem?_toList->fh,range->kh
open BitVec renaming ofInt->jW
open Bool renaming false_eq_true->z3
open ByteArray renaming empty->xY
open Function renaming comp_def->xS
open Go renaming Addr->gH,BinOp->fH,FloatKind->qd,Oper->qu,Operand->zZ,Program->zP,TypeId->qI,Value->zs,World->zr,asIntOf->jr,beq_toListBytes->kj,cell_of_row->xP,eqGuard->jx,execOp->xg,heap_alloc_new->jd,invoke->gc,loadVar->jX,madeCells->jT,newRow->gL,resolve->jy,run_equalIn_bool'->fO,run_newObj->gh,run_underlying->zX,setRow_heap->jh,setRow_other->yC,typeInfo->yX,undef->zJ,zeroValue->yH
open Go.Addr renaming add->fP
open Go.Builtin renaming len_->gC,max2->kF,min2->kE
open Go.FloatKind renaming decode->qM,encode->jw
open Go.Instr renaming alloc->kP,box->kX,build->kc,buildSlice->yQ,fill->fJ,index->ke,indexAt->gq,loadAt->jY,slice->kQ,sliceAt->gu,sliceBound->gd,sliceBounds->yb,storeAt->ja,sureAddr->xh
open Go.Op renaming floatArith->gp,floatCmp->kO,intArith->kN
open Go.Oper renaming wp->g7
open Go.Result renaming andThen_ok->zn
open Go.RowKit renaming Below->yn
open Go.RowKit.Below renaming refl->xM
open Go.Sem renaming run_bind->zq,run_pure->zt
open Go.Value renaming bool->kq,float->yW,int->x9,ownBlock->zU,slice->zx,string->kG
open Go.Value.slice renaming injEq->kV
open Go.World renaming block_lt_of_cell?->xe,cell?_of_block->xj
open Go.World.ownsRow renaming lt->hH
open Ieee.Datum renaming isNaN->jz,order->fZ
open Ieee.Format renaming order->qo
open List renaming all_eq_true->zy,append_assoc->qF,drop_eq_nil_of_le->jk,eq_nil_of_length_eq_zero->z5,ext_getElem->x5,ext_getElem?->xA,flatMap_cons->xz,flatten_cons->yI,foldlM_cons->fY,foldl_cons->gx,getD->zb,getD_eq_getElem?_getD->qJ,getElem?_append_left->qf,getElem?_append_right->qj,getElem?_drop->yA,getElem?_eq_getElem->zH,getElem?_eq_none->z7,getElem?_eq_none_iff->gI,getElem?_eq_some_iff->zC,getElem?_map->zR,getElem?_range->jF,getElem?_take->qg,length_append->qc,length_cons->zB,length_drop->xy,length_map->qh,length_take->xn,mapM_cons->fm,map_congr_left->qx,map_cons->zL,map_map->xV,mem_append->qR,mem_cons->qr,mem_cons_of_mem->zu,mem_cons_self->zw,mem_map->qn,mem_of_getElem?->yh,mem_of_mem_drop->jt,mem_of_mem_take->yD,mem_singleton->z6,nil_append->qS,range->zm,replicate->zh,replicate_succ->jb,take_append_drop->xQ,zipIdx_cons->hZ
open Nat renaming add_assoc->xL,add_mul->qE,add_zero->xH,beq->zF,ble->qN,blt->xD,div_add_mod->yu,div_lt_of_lt_mul->yE,eq_of_beq_eq_true->zi,le_of_ble_eq_true->zQ,le_refl->zp,le_succ->xu,le_trans->xb,lt_irrefl->fI,lt_of_le_of_lt->ji,lt_of_lt_of_le->zG,lt_succ_self->zo,mod_lt->ya,mul_comm->xI,mul_eq_zero->gy,mul_le_mul_right->qb,mul_one->jg,succ_eq_add_one->jG,succ_pos->jj,zero_add->qa,zero_le->xE,zero_mul->yd
open Option renaming bind_eq_some_iff->zK,bind_some->zV,getD_none->jA,getD_some->z9,isSome_iff_exists->yZ,map_eq_some_iff->z4,map_none->jm,map_some->qk
open Option.some renaming injEq->zj
open Prod.mk renaming injEq->qp
open Std.Legacy.Range renaming forIn_eq_forIn_range'->fk,size->kJ
section
open Go.RowKit
namespace Go.Sx
inductive D where
 |i (k:IntKind) (n:Int)
 |b (x:Bool)
 |f (k:qd) (n:Nat)
 |s (x:ByteArray)
 |v (x:zs)
 |z (k:qd) (p:Nat × Nat)
def D.val:D->zs| .i k n=>.int k n| .b x=>.bool x| .f k n=>.float k n| .s x=>.string x| .v x=>x| .z k p=>.complex k p.1 p.2
def D.one:D->Bool| .v x=>x.oneCell'|_=>true
def D.one_val {x:D} (h:x.one=true):x.val.oneCell'=true:=by
 cases x<;>first|rfl|exact h
inductive Cont where
 |ints (k:IntKind) (l:List Int)
 |recs (e:Nat) (l:List (List Int))
 |floats (k:qd) (l:List Nat)
 |strs (l:List ByteArray)
 |bools (l:List Bool)
 |lits (e:Nat) (l:List (List D))
 |frs (k:qd) (e:Nat) (l:List (List Nat))
def jjh (e:Nat) (r:List Int):List D:=(zm e).map fun j=>D.i .i64 (r.getD j 0)
def jji (e:Nat) (r:List D):List D:=(zm e).map fun j=>r.getD j (.v zJ)
def frD (k:qd) (e:Nat) (r:List Nat):List D:=(zm e).map fun j=>D.f k (r.getD j 0)
inductive AR where
 |f (k:qd) (r:List Nat)
 |i (r:List Int)
def AR.el:AR->Nat->D| .f k r,j=>.f k (r.getD j 0)| .i r,j=>.i .i64 (r.getD j 0)
def arD (e:Nat) (x:AR):List D:=(zm e).map x.el
def Cont.n:Cont->Nat| .ints _ l=>l.length| .recs _ l=>l.length| .floats _ l=>l.length| .strs l=>l.length| .bools l=>l.length| .lits _ l=>l.length| .frs _ _ l=>l.length
def Cont.e:Cont->Nat| .recs e _=>e| .lits e _=>e| .frs _ e _=>e|_=>1
def Cont.flat:Cont->List D| .ints k l=>l.flatMap fun x=>[D.i k x]| .recs e l=>l.flatMap (jjh e)| .floats k l=>l.flatMap fun x=>[D.f k x]| .strs l=>l.flatMap fun x=>[D.s x]| .bools l=>l.flatMap fun x=>[D.b x]| .lits e l=>l.flatMap (jji e)| .frs k e l=>l.flatMap (frD k e)
def Cont.cell:Cont->Nat->Nat->D| .ints k l,i,_=>.i k (l.getD i 0)| .recs _ l,i,j=>.i .i64 ((l.getD i []).getD j 0)| .floats k l,i,_=>.f k (l.getD i 0)| .strs l,i,_=>.s (l.getD i xY)| .bools l,i,_=>.b (l.getD i false)| .lits _ l,i,j=>(l.getD i []).getD j (.v zJ)| .frs k _ l,i,j=>.f k ((l.getD i []).getD j 0)
inductive C where
 |d (x:D)
 |p (h i e j:Nat)
 |o (h:Nat)
 |fn (f:Nat) (hs:List Nat)
 |g (n i e j:Nat)
inductive W where
 |c (x:C)
 |a (l:List C)
 |b (e:Nat) (x:AR)
inductive V where
 |w (x:W)
 |t (l:List W)
abbrev Env:=Nat->zs
def base:zs->gH| .pointer (some a)=>a| .slice (some a) _ _=>a|_=>⟨0,0,none⟩
def C.val (I:Env):C->zs| .d x=>x.val| .p h i e j=>.pointer (some ⟨(base (I h)).block,(base (I h)).off+(i*e+j),none⟩)| .o h=>I h| .fn f hs=>.func (.func f) #[] (hs.map I).toArray| .g n i e j=>.pointer (some ⟨n,i*e+j,none⟩)
def W.val (I:Env):W->zs| .c x=>x.val I| .a l=>.agg (l.map (C.val I)).toArray| .b e x=>.agg ((arD e x).map D.val).toArray
def V.val (I:Env):V->zs| .w x=>x.val I| .t l=>.tuple (l.map (W.val I)).toArray
def C.lt (n:Nat):C->Prop| .d _=>True| .p h _ _ _=>h<n| .o h=>h<n| .fn _ hs=>∀h∈hs,h<n| .g _ _ _ _=>True
def W.lt (n:Nat):W->Prop| .c x=>x.lt n| .a l=>∀x∈l,C.lt n x| .b _ _=>True
def V.lt (n:Nat):V->Prop| .w x=>x.lt n| .t l=>∀x∈l,W.lt n x
def jah (n:Nat) (I I':Env):Prop:=∀h,h<n->I' h=I h
def jah.refl (n:Nat) (I:Env):jah n I I:=fun _ _=>rfl
def jah.trans {n m:Nat} {a b c:Env} (h:jah n a b) (k:jah m b c) (hm:n<=m):jah n a c :=fun x hx=>(k x (zG hx hm)).trans (h x hx)
def C.val_agree {n:Nat} {I I':Env} (h:jah n I I'):∀{x:C},x.lt n->x.val I'=x.val I
 | .d _,_=>rfl
 | .p _ _ _ _,hx=>by simp only[C.val,h _ hx]
 | .o _,hx=>h _ hx
 | .fn _ hs,hx=>by
  simp only[C.val]
  congr 2
  exact qx fun a ha=>h a (hx a ha)
 | .g _ _ _ _,_=>rfl
def W.val_agree {n:Nat} {I I':Env} (h:jah n I I'):∀{x:W},x.lt n->x.val I'=x.val I
 | .c _,hx=>C.val_agree h hx
 | .a l,hx=>by
  simp only[W.val]
  congr 2
  exact qx fun a ha=>C.val_agree h (hx a ha)
 | .b _ _,_=>rfl
def V.val_agree {n:Nat} {I I':Env} (h:jah n I I'):∀{x:V},x.lt n->x.val I'=x.val I
 | .w _,hx=>W.val_agree h hx
 | .t l,hx=>by
  simp only[V.val]
  congr 2
  exact qx fun a ha=>W.val_agree h (hx a ha)
def C.lt_mono {n m:Nat} (h:n<=m):∀{x:C},x.lt n->x.lt m| .d _,_=>trivial| .p _ _ _ _,hx=>zG hx h| .o _,hx=>zG hx h| .fn _ _,hx=>fun a ha=>zG (hx a ha) h| .g _ _ _ _,_=>trivial
def W.lt_mono {n m:Nat} (h:n<=m):∀{x:W},x.lt n->x.lt m| .c _,hx=>C.lt_mono h hx| .a _,hx=>fun a ha=>C.lt_mono h (hx a ha)| .b _ _,_=>trivial
def V.lt_mono {n m:Nat} (h:n<=m):∀{x:V},x.lt n->x.lt m| .w _,hx=>W.lt_mono h hx| .t _,hx=>fun a ha=>W.lt_mono h (hx a ha)
def jcb {α:Type} (g:α->List D) (e:Nat) (hg:∀x,(g x).length=e) (j:Nat) (hj:j<e) :
  ∀(l:List α) (i:Nat),(l.flatMap g)[i*e+j]?=(l[i]?).bind fun x=>(g x)[j]?
 |[],i=>by simp
 |x::l,0=>by
  rw[xz,yd,qa,qf (by rw[hg x];exact hj)];simp
 |x::l,i+1=>by
  have ih:=jcb g e hg j hj l i;have e1:(i+1)*e+j=(g x).length+(i*e+j):=by rw[hg x,qE];omega
  rw[xz,e1,qj (by omega)];simpa using ih
def jil {α:Type} (g:α->List D) (e:Nat) (hg:∀x,(g x).length=e):∀(l:List α),(l.flatMap g).length=l.length*e
 |[]=>by simp
 |x::l=>by rw[xz,qc,jil g e hg l,hg x,zB,qE];omega
@[simp] theorem recD_length (e:Nat) (r:List Int):(jjh e r).length=e:=by simp[jjh]
@[simp] theorem litD_length (e:Nat) (r:List D):(jji e r).length=e:=by simp[jji]
@[simp] theorem frD_length (k:qd) (e:Nat) (r:List Nat):(frD k e r).length=e:=by simp[frD]
@[simp] theorem arD_length (e:Nat) (x:AR):(arD e x).length=e:=by simp[arD]
def jCd (e:Nat) (k:qd) (r:List Nat):arD e (.f k r)=frD k e r:=rfl
def Cont.flat_length (c:Cont):c.flat.length=c.n*c.e:=by
 cases c<;>simp only[Cont.flat,Cont.n,Cont.e]<;>(refine jil _ _ ?_ _)<;>intro x<;>simp
def Cont.flat_get (c:Cont) {i j:Nat} (hi:i<c.n) (hj:j<c.e):c.flat[i*c.e+j]?=some (c.cell i j):=by
 cases c with
 |ints k l =>
  have h:=jcb (fun x:Int=>[D.i k x]) 1 (by simp) j hj l i;simp only[Cont.n]at hi;simp only[Cont.flat,Cont.e,Cont.cell]at *;rw[h];obtain rfl:j=0:=by omega
  simp[hi,zb]
 |recs e l =>
  have h:=jcb (jjh e) e (by simp) j hj l i;simp only[Cont.n]at hi;simp only[Cont.flat,Cont.e,Cont.cell]at *;rw[h];simp[hi,zb,jjh,hj]
 |floats k l =>
  have h:=jcb (fun x:Nat=>[D.f k x]) 1 (by simp) j hj l i;simp only[Cont.n]at hi;simp only[Cont.flat,Cont.e,Cont.cell]at *;rw[h];obtain rfl:j=0:=by omega
  simp[hi,zb]
 |strs l =>
  have h:=jcb (fun x:ByteArray=>[D.s x]) 1 (by simp) j hj l i;simp only[Cont.n]at hi;simp only[Cont.flat,Cont.e,Cont.cell]at *;rw[h];obtain rfl:j=0:=by omega
  simp[hi,zb]
 |bools l =>
  have h:=jcb (fun x:Bool=>[D.b x]) 1 (by simp) j hj l i;simp only[Cont.n]at hi;simp only[Cont.flat,Cont.e,Cont.cell]at *;rw[h];obtain rfl:j=0:=by omega
  simp[hi,zb]
 |lits e l =>
  have h:=jcb (jji e) e (by simp) j hj l i;simp only[Cont.n]at hi;simp only[Cont.flat,Cont.e,Cont.cell]at *;rw[h];simp[hi,zb,jji,hj]
 |frs k e l =>
  have h:=jcb (frD k e) e (by simp) j hj l i;simp only[Cont.n]at hi;simp only[Cont.flat,Cont.e,Cont.cell]at *;rw[h];simp[hi,zb,frD,hj]
inductive NC where
 |d (x:D)
 |r (c:Cont)
inductive NK where
 |i (k:IntKind)
 |b
 |f (k:qd)
 |s
 |ints (k:IntKind)
 |recs (e:Nat)
 |flts (k:qd)
 |strs
 |bools
 |frs (k:qd) (e:Nat)
 deriving DecidableEq
def NC.toI:NC->Int| .d (.i _ n)=>n|_=>0
def NC.toB:NC->Bool| .d (.b x)=>x|_=>false
def NC.toF:NC->Nat| .d (.f _ n)=>n|_=>0
def NC.toS:NC->ByteArray| .d (.s x)=>x|_=>xY
def NC.toInts:NC->List Int| .r (.ints _ l)=>l|_=>[]
def NC.toRecs:NC->List (List Int)| .r (.recs _ l)=>l|_=>[]
def NC.toFlts:NC->List Nat| .r (.floats _ l)=>l|_=>[]
def NC.toStrs:NC->List ByteArray| .r (.strs l)=>l|_=>[]
def NC.toBools:NC->List Bool| .r (.bools l)=>l|_=>[]
def NC.toFrs:NC->List (List Nat)| .r (.frs _ _ l)=>l|_=>[]
def NK.norm:NK->NC->NC| .i k,x=>.d (.i k x.toI)| .b,x=>.d (.b x.toB)| .f k,x=>.d (.f k x.toF)| .s,x=>.d (.s x.toS)| .ints k,x=>.r (.ints k x.toInts)| .recs e,x=>.r (.recs e x.toRecs)| .flts k,x=>.r (.floats k x.toFlts)| .strs,x=>.r (.strs x.toStrs)| .bools,x=>.r (.bools x.toBools)| .frs k e,x=>.r (.frs k e x.toFrs)
inductive XC where
 |st (sh:List NK) (l:List (List NC))
 |ii (k:IntKind) (l:List (List Int))
 |ff (k:qd) (l:List (List Nat))
 |bb (k:qd) (e:Nat) (l:List (List (List Nat)))
 |rr (e:Nat) (l:List (List (List Int)))
def XC.n:XC->Nat| .st _ l=>l.length| .ii _ l=>l.length| .ff _ l=>l.length| .bb _ _ l=>l.length| .rr _ l=>l.length
def XC.e:XC->Nat| .st sh _=>sh.length|_=>1
def XC.cell:XC->Nat->Nat->NC| .st sh l,i,j=>(sh.getD j .b).norm ((l.getD i []).getD j (.d (.v zJ)))| .ii k l,i,_=>.r (.ints k (l.getD i []))| .ff k l,i,_=>.r (.floats k (l.getD i []))| .bb k e l,i,_=>.r (.frs k e (l.getD i []))| .rr e l,i,_=>.r (.recs e (l.getD i []))
inductive O where
 |box (ty:Nat) (cs:List C)
 |row (ty:Nat) (c:Cont)
 |ext (c:Cont)
 |view (r:Nat) (c:Cont) (fl:Bool)
 |dead
 |nan (k:qd)
 |ebox (cs:List C)
 |arr (ty:Nat) (e:Nat) (x:AR)
 |xext (x:XC)
 |fext (c:Cont)
 |xrow (ty:Nat) (x:XC)
 |mrow (ty:Nat) (ts:List Nat) (x:XC) (ho:Option (Nat × Nat))
 |trow (ty:Nat) (ts:List Nat) (x:XC) (m:Nat)
 |sub (r i e j ty:Nat) (c:Cont)
 |err
 |atom
def O.cont:O->Option Cont| .row _ c=>some c| .ext c=>some c| .view _ c _=>some c| .fext c=>some c| .sub _ _ _ _ _ c=>some c|_=>none
def O.xc:O->Option XC| .xext x=>some x| .xrow _ x=>some x| .mrow _ _ x none=>some x| .trow _ _ x _=>some x|_=>none
def O.isT:O->Bool| .trow _ _ _ _=>true|_=>false
def O.isM:O->Bool| .mrow _ _ _ _=>true| .trow _ _ _ _=>true|_=>false
def O.hole:O->Option XC| .mrow _ _ x (some _)=>some x|_=>none
abbrev Hp:=List (Nat × O)
def find:Hp->Nat->Option O|[],_=>none|(k,o)::r,h=>if k=h then some o else find r h
def jaH (w:zr) (v:zs) (c:Cont):Prop :=∃a cap,v=.slice a c.n cap∧(c.n<=cap∧(a=none->cap=0))∧(0<c.n->∃b off,a=some ⟨b,off,none⟩∧∀j x,c.flat[j]?=some x->w.cell? ⟨b,off+j,none⟩=some x.val)
class Globs where
 tab:Nat->Option Cont
 nestT:Nat->Bool:=fun _=>false
 nestM:Nat->Bool:=fun _=>false
 held:Nat->Option (zs->Prop):=fun _=>none
abbrev Bd:=Nat->Prop
structure Kd where
 kp:Nat->Prop
 fr:Nat->Prop
 mu:Nat->Option Nat
 sub:∀k,fr k->kp k
 dis:∀k,kp k->mu k=none
def Kd.all (B:Kd) (k:Nat):Prop:=B.kp k∨B.mu k≠none
instance : Coe Kd Bd := ⟨Kd.kp⟩
def kd (p:Nat->Prop):Kd:=⟨p,fun _=>False,fun _=>none,fun _ h=>h.elim,fun _ _=>rfl⟩
def jbJ {p:Nat->Prop} {k:Nat}:(kd p).all k<->p k:=⟨fun h=>h.elim id fun h=>absurd rfl h,.inl⟩
def jDe [Globs] (B:Bd) (w:zr):Prop:=∀g c,Globs.tab g=some c->B g∧(∀j x,c.flat[j]?=some x->w.cell? ⟨g,j,none⟩=some x.val)∧∃cs t f,w.heap[g]?=some (.cells cs t f)∧cs.size=c.flat.length
def jy5 [Globs] (B:Bd) (w:zr):Prop:=∀g p,Globs.held g=some p->B g∧∃v,w.cell? ⟨g,0,none⟩=some v∧p v
def jby [Globs] (B:Bd) (w:zr):Prop:=jDe B w∧jy5 B w
def jkL [Globs] (h:∀g,Globs.held g=none) (B:Bd) (w:zr):jy5 B w:=fun g p hg=>by
 rw[h g]at hg;cases hg
def Old (B:Kd) (w:zr):Prop:=∀k,B.all k->k<w.heap.size
structure Bel (B:Bd) (w w':zr):Prop where
 os:w'.os=w.os
 tape:w'.tape=w.tape
 output:w'.output=w.output
 size:w.heap.size<=w'.heap.size
 block:∀k,B k->w'.heap[k]?=w.heap[k]?
def Bel.refl (B:Bd) (w:zr):Bel B w w:=⟨rfl,rfl,rfl,zp _,fun _ _=>rfl⟩
def Bel.trans {B:Bd} {a b c:zr} (h:Bel B a b) (k:Bel B b c):Bel B a c :=⟨k.os.trans h.os,k.tape.trans h.tape,k.output.trans h.output,xb h.size k.size,fun i hi=>(k.block i hi).trans (h.block i hi)⟩
def Bel.cell {B:Bd} {w w':zr} (h:Bel B w w') {p:gH} (hp:B p.block):w'.cell? p=w.cell? p:=xj (w:=w) (h.block p.block hp)
def Bel.mono {B B':Bd} {w w':zr} (h:Bel B w w') (hB:∀k,B' k->B k):Bel B' w w':=⟨h.os,h.tape,h.output,h.size,fun k hk=>h.block k (hB k hk)⟩
def jwI {B:Bd} {w w':zr} (h:yn w.heap.size w w') (hB:∀k,B k->k<w.heap.size):Bel B w w':=⟨h.os,h.tape,h.output,h.size,fun k hk=>h.block k (hB k hk)⟩
def jc2 {B:Kd} {w w':zr} (h:yn w.heap.size w w') (hB:Old B w):Bel B w w':=jwI h fun k hk=>hB k (.inl hk)
def jtD {B:Kd} {w w':zr} (h:yn w.heap.size w w') (hB:Old B w):Bel B.fr w w':=jwI h fun k hk=>hB k (.inl (B.sub k hk))
def Bel.old {B:Kd} {w w':zr} (h:Bel B w w') (hB:Old B w):Old B w':=fun k hk=>zG (hB k hk) h.size
def Bel.below {n:Nat} {w w':zr} (h:Bel (fun k=>k<n) w w'):yn n w w':=⟨h.os,h.tape,h.output,h.size,h.block⟩
def jbK (B:Bd) (v:zs):Prop:=∀a n cap,v=.slice (some a) n cap->0<n->B a.block
def jby.bel [Globs] {B:Bd} {w w':zr} (h:jby B w) (hb:Bel B w w'):jby B w':=⟨fun g c hg =>
 ⟨(
  h.1 g c hg).1,fun j x hj=>(hb.cell (p:=⟨g,j,none⟩) (h.1 g c hg).1).trans ((h.1 g c hg).2.1 j x hj),by
  obtain⟨cs,t,f,h1,h2⟩:=(h.1 g c hg).2.2;exact⟨cs,t,f,(hb.block g (h.1 g c hg).1).trans h1,h2⟩⟩,fun g p hg =>
 let ⟨h1,v,h2,h3⟩:=h.2 g p hg
 ⟨h1,v,(hb.cell (p:=⟨g,0,none⟩) h1).trans h2,h3⟩⟩
def jby.sub [Globs] {B B':Bd} {w:zr} (h:jby B w) (hs:∀g,B g->B' g):jby B' w :=⟨fun g c hg=>⟨hs g (h.1 g c hg).1,(h.1 g c hg).2⟩,fun g p hg=>⟨hs g (h.2 g p hg).1,(h.2 g p hg).2⟩⟩
def NC.at (B:Bd) (w:zr) (v:zs):NC->Prop| .d x=>v=x.val| .r c=>jaH w v c∧jbK B v
def IsX (B:Bd) (w:zr) (v:zs) (X:XC):Prop :=∃a cap,v=.slice a X.n cap∧(X.n<=cap∧(a=none->cap=0))∧(0<X.n->∃b off,a=some ⟨b,off,none⟩∧B b∧∀i j,i<X.n->j<X.e->∃u,w.cell? ⟨b,off+(i*X.e+j),none⟩=some u∧(X.cell i j).at B w u)
def NC.own (B:Kd) (w:zr) (g ty:Nat) (v:zs):NC->Prop| .d x=>v=x.val| .r c=>w.ownsRow 0 ty c.e v c.n (c.flat.map D.val)∧∀k,v.ownBlock=some k->B.mu k=some g
def O.ok (I:Env) (B:Kd) (w:zr) (h:Nat):O->Prop
 | .box ty cs=>∃k,I h=.pointer (some ⟨k,0,none⟩)∧¬B.all k∧w.heap[k]?=some (.cells (cs.map (C.val I)).toArray ty (0,0))
 | .row ty c=>w.ownsRow 0 ty c.e (I h) c.n (c.flat.map D.val)∧∀k,(I h).ownBlock=some k->¬B.all k
 | .ext c=>jaH w (I h) c∧jbK B (I h)
 | .view _ c fl=>jaH w (I h) c∧(fl=true->∀a n cap,I h=.slice a n cap->cap=n)
 | .dead=>True
 | .nan k=>∃n,I h=.float k n∧(k.decode n).isNaN=true
 | .ebox cs=>∃k o,I h=.pointer (some ⟨k,o,none⟩)∧B.kp k∧∀j c,cs[j]?=some c->w.cell? ⟨k,o+j,none⟩=some (c.val I)
 | .arr ty e x=>∃b,I h=.pointer (some ⟨b,0,none⟩)∧¬B.all b∧w.heap[b]?=some (.cells ((arD e x).map D.val).toArray ty (0,0))
 | .xext X=>IsX B w (I h) X
 | .fext c=>jaH w (I h) c∧jbK B.fr (I h)
 | .xrow ty X=>∃us,w.ownsRow 0 ty X.e (I h) X.n us∧(∀i j,i<X.n->j<X.e->∃u,us[i*X.e+j]?=some u∧(X.cell i j).at B.fr w u)∧∀k,(I h).ownBlock=some k->¬B.all k
 | .mrow ty ts X ho=>∃us,w.ownsRow 0 ty X.e (I h) X.n us ∧ (∀i j,i<X.n->j<X.e->ho≠some (i,j)->∃u,us[i*X.e+j]?=some u∧(X.cell i j).own B w (base (I h)).block (ts.getD j 0) u) ∧ (∀i j i' j' u v k,i<X.n->j<X.e->i'<X.n->j'<X.e->(i,j)≠(i',j')->ho≠some (i,j)->ho≠some (i',j')->us[i*X.e+j]?=some u->us[i' * X.e+j']?=some v->u.ownBlock=some k->v.ownBlock≠some k) ∧ ∀k,(I h).ownBlock=some k->¬B.all k
 | .trow ty ts X m=>∃us,w.ownsRow 0 ty X.e (I h) X.n us ∧ (∀i j,i<X.n->j<X.e->∃u,us[i*X.e+j]?=some u∧(i*X.e+j<m->(X.cell i j).own B w (base (I h)).block (ts.getD j 0) u)∧(m<=i*X.e+j->(X.cell i j).at B.kp w u)) ∧ (∀i j i' j' u v k,i<X.n->j<X.e->i'<X.n->j'<X.e->(i,j)≠(i',j')->i*X.e+j<m->i' * X.e+j'<m->us[i*X.e+j]?=some u->us[i' * X.e+j']?=some v->u.ownBlock=some k->v.ownBlock≠some k) ∧ ∀k,(I h).ownBlock=some k->¬B.all k
 | .sub r i e j ty c=>w.ownsRow 0 ty c.e (I h) c.n (c.flat.map D.val)∧j<e∧(∃a n cap,I r=.slice a n cap∧i<n)∧w.cell? ⟨(base (I r)).block,(base (I r)).off+(i*e+j),none⟩=some (I h)∧∀k,(I h).ownBlock=some k->B.mu k=some (base (I r)).block
 | .err=>∃t p,I h=.iface t p
 | .atom=>(I h).oneCell'=true
def O.blk (v:zs):O->Option Nat| .box _ _=>some (base v).block| .row _ _=>v.ownBlock| .arr _ _ _=>some (base v).block| .xrow _ _=>v.ownBlock| .mrow _ _ _ _=>v.ownBlock| .trow _ _ _ _=>v.ownBlock|_=>none
def O.isM_blk {o:O} {v:zs} (h:o.isM=true):o.blk v=v.ownBlock:=by cases o<;>first|rfl|cases h
def O.lt (n:Nat):O->Prop| .box _ cs=>∀x∈cs,C.lt n x| .view r _ _=>r<n| .sub r _ _ _ _ _=>r<n| .ebox cs=>∀x∈cs,C.lt n x|_=>True
structure HRel [Globs] (I:Env) (B:Kd) (hp:Hp) (nx:Nat) (w:zr):Prop where
 ok:∀h o,find hp h=some o->h<nx∧o.lt nx∧o.ok I B w h
 apart:∀h o h' o' k,find hp h=some o->find hp h'=some o'->h≠h'->o.blk (I h)=some k->o'.blk (I h')≠some k
 glob:jby B w
section
variable [Globs]
def jaH.below {B:Bd} {w w':zr} {v:zs} {c:Cont} (h:jaH w v c) (hb:Bel B w w') (ho:jbK B v):jaH w' v c:=by
 obtain⟨a,cap,rfl,hc,hcells⟩:=h;refine⟨a,cap,rfl,hc,fun hn=>?_⟩;obtain⟨b,off,rfl,hx⟩:=hcells hn;refine⟨b,off,rfl,fun j x hj=>?_⟩;have hlt:=ho _ _ _ rfl hn;exact(hb.cell (p:=⟨b,off+j,none⟩) hlt).trans (hx j x hj)
def jaH.lt {w:zr} {v:zs} {c:Cont} (h:jaH w v c) (he:0<c.e):jbK (fun k=>k<w.heap.size) v:=by
 obtain⟨a,cap,rfl,hc,hcells⟩:=h;intro a' n cap' hv hn;cases hv;obtain⟨b,off,hab,hx⟩:=hcells hn;cases hab;have h0:=c.flat_get (i:=0) (j:=0) hn he;exact xe w ⟨b,off+(0*c.e+0),none⟩ (hx _ _ h0)
def NC.at_bel {B:Bd} {w w':zr} {v:zs} {x:NC} (h:x.at B w v) (hb:Bel B w w'):x.at B w' v:=by
 cases x with
 |d x=>exact h
 |r c=>exact⟨h.1.below hb h.2,h.2⟩
def IsX.bel {B:Bd} {w w':zr} {v:zs} {X:XC} (h:IsX B w v X) (hb:Bel B w w'):IsX B w' v X:=by
 obtain⟨a,cap,rfl,hc,hcells⟩:=h;refine⟨a,cap,rfl,hc,fun hn=>?_⟩;obtain⟨b,off,rfl,hB,hx⟩:=hcells hn;refine⟨b,off,rfl,hB,fun i j hi hj=>?_⟩;obtain⟨u,hu,hux⟩:=hx i j hi hj;exact⟨u,(hb.cell (p:=⟨b,off+(i*X.e+j),none⟩) hB).trans hu,NC.at_bel hux hb⟩
def O.ok_below {I:Env} {B:Kd} {h:Nat} {w w':zr} (hb:yn w.heap.size w w') (hB:Old B w):∀{o:O},o.ok I B w h->o.ok I B w' h
 | .box ty cs,⟨k,h1,h2,h3⟩=>⟨k,h1,h2,(hb.block k (zM.1 h3).1).trans h3⟩
 | .row ty c,⟨hr,hk⟩=>by
  refine⟨⟨hr.1,?_⟩,hk⟩;rcases hr.2 with hn|⟨g,cap,cur,h1,h2,h3,h4⟩
  ·exact .inl hn
  ·exact .inr ⟨g,cap,cur,h1,h2,(hb.block g (zM.1 h3).1).trans h3,h4⟩
 | .ext c,⟨h1,h2⟩=>⟨h1.below (jc2 hb hB) h2,h2⟩
 | .view r c _,⟨h1,h2⟩=>by
  refine⟨?_,h2⟩;obtain⟨a,cap,hv,hc,hcells⟩:=h1;refine⟨a,cap,hv,hc,fun hn=>?_⟩;obtain⟨b,off,hab,hx⟩:=hcells hn;refine⟨b,off,hab,fun j x hj=>?_⟩;have:=hx j x hj;exact(hb.cell (p:=⟨b,off+j,none⟩) (xe w _ this)).trans this
 | .dead,_=>trivial
 | .nan _,h=>h
 | .err,h=>h
 | .atom,h=>h
 | .ebox cs,⟨k,o,h1,h2,h3⟩=>⟨k,o,h1,h2,fun j c hj=>((jc2 hb hB).cell (p:=⟨k,o+j,none⟩) h2).trans (h3 j c hj)⟩
 | .arr ty e x,⟨b,h1,h2,h3⟩=>⟨b,h1,h2,(hb.block b (zM.1 h3).1).trans h3⟩
 | .xext _,h=>IsX.bel h (jc2 hb hB)
 | .fext c,⟨h1,h2⟩=>⟨h1.below (jtD hb hB) h2,h2⟩
 | .xrow ty X,⟨us,hr,hi,hk⟩=>by
  refine⟨us,⟨hr.1,?_⟩,fun i j h1 h2=>?_,hk⟩
  ·rcases hr.2 with hn|⟨g,cap,cur,h1,h2,h3,h4⟩
   ·exact .inl hn
   ·exact .inr ⟨g,cap,cur,h1,h2,(hb.block g (zM.1 h3).1).trans h3,h4⟩
  ·obtain⟨u,hu,hux⟩:=hi i j h1 h2;exact⟨u,hu,NC.at_bel hux (jtD hb hB)⟩
 | .mrow ty ts X ho,⟨us,hr,hi,hd,hk⟩=>by
  have own:∀{ty e n:Nat} {v:zs} {cs:List zs},w.ownsRow 0 ty e v n cs->w'.ownsRow 0 ty e v n cs:=fun hr=>by
   refine⟨hr.1,?_⟩;rcases hr.2 with hn|⟨g,cap,cur,h1,h2,h3,h4⟩
   ·exact .inl hn
   ·exact .inr ⟨g,cap,cur,h1,h2,(hb.block g (zM.1 h3).1).trans h3,h4⟩
  refine⟨us,own hr,fun i j h1 h2 h3=>?_,hd,hk⟩;obtain⟨u,hu,hux⟩:=hi i j h1 h2 h3;refine⟨u,hu,?_⟩;cases hc:X.cell i j with
  |d x=>rw[hc]at hux;exact hux
  |r c=>rw[hc]at hux;exact⟨own hux.1,hux.2⟩
 | .trow ty ts X m,⟨us,hr,hi,hd,hk⟩=>by
  have own:∀{ty e n:Nat} {v:zs} {cs:List zs},w.ownsRow 0 ty e v n cs->w'.ownsRow 0 ty e v n cs:=fun hr=>by
   refine⟨hr.1,?_⟩;rcases hr.2 with hn|⟨g,cap,cur,h1,h2,h3,h4⟩
   ·exact .inl hn
   ·exact .inr ⟨g,cap,cur,h1,h2,(hb.block g (zM.1 h3).1).trans h3,h4⟩
  refine⟨us,own hr,fun i j h1 h2=>?_,hd,hk⟩;obtain⟨u,hu,hux,hua⟩:=hi i j h1 h2;refine⟨u,hu,fun h3=>?_,fun h3=>NC.at_bel (hua h3) (jc2 hb hB)⟩;have hux:=hux h3;cases hc:X.cell i j with
  |d x=>rw[hc]at hux;exact hux
  |r c=>rw[hc]at hux;exact⟨own hux.1,hux.2⟩
 | .sub r i e j ty c,⟨h1,h2,h3,h4,h5⟩=>by
  refine⟨⟨h1.1,?_⟩,h2,h3,(xj (w:=w) (hb.block _ (xe w _ h4))).trans h4,h5⟩;rcases h1.2 with hn|⟨g,cap,cur,q1,q2,q3,q4⟩
  ·exact .inl hn
  ·exact .inr ⟨g,cap,cur,q1,q2,(hb.block g (zM.1 q3).1).trans q3,q4⟩
def HRel.below {I:Env} {B:Kd} {nx:Nat} {hp:Hp} {w w':zr} (h:HRel I B hp nx w) (hb:yn w.heap.size w w') (hB:Old B w):HRel I B hp nx w' :=⟨fun k o hf=>let ⟨a,b,c⟩:=h.ok k o hf; ⟨a,b,O.ok_below hb hB c⟩,h.apart,h.glob.bel (jc2 hb hB)⟩
def O.lt_mono {n m:Nat} (h:n<=m):∀{o:O},o.lt n->o.lt m| .box _ _,hx=>fun a ha=>C.lt_mono h (hx a ha)| .view _ _ _,hx=>zG hx h| .row _ _,_=>trivial| .ext _,_=>trivial| .dead,_=>trivial| .nan _,_=>trivial| .err,_=>trivial| .atom,_=>trivial| .ebox _,hx=>fun a ha=>C.lt_mono h (hx a ha)| .arr _ _ _,_=>trivial| .xext _,_=>trivial| .fext _,_=>trivial| .xrow _ _,_=>trivial| .mrow _ _ _ _,_=>trivial| .trow _ _ _ _,_=>trivial| .sub _ _ _ _ _ _,hx=>zG hx h
def O.ok_agree {I I':Env} {B:Kd} {nx h:Nat} {w:zr} (ha:jah nx I I') (hh:h<nx):∀{o:O},o.lt nx->o.ok I B w h->o.ok I' B w h
 | .box ty cs,hl,⟨k,h1,h2,h3⟩=>⟨k,(ha h hh).trans h1,h2,by
   rw[h3];congr 3;exact qx fun a ha'=>(C.val_agree ha (hl a ha')).symm⟩
 | .row ty c,_,hr=>by unfold O.ok at *;rw[ha h hh];exact hr
 | .ext c,_,hr=>by unfold O.ok at *;rw[ha h hh];exact hr
 | .view r c _,hl,hr=>by
  have hl':r<nx:=hl;unfold O.ok at *;rw[ha h hh];simp only;exact hr
 | .dead,_,_=>trivial
 | .nan _,_,hr=>by unfold O.ok at *;rw[ha h hh];exact hr
 | .err,_,hr=>by unfold O.ok at *;rw[ha h hh];exact hr
 | .atom,_,hr=>by unfold O.ok at *;rw[ha h hh];exact hr
 | .ebox cs,hl,⟨k,o,h1,h2,h3⟩=>⟨k,o,(ha h hh).trans h1,h2,fun j c hj=>by rw[C.val_agree ha (hl c (yh hj))];exact h3 j c hj⟩
 | .arr _ _ _,_,hr=>by unfold O.ok at *;rw[ha h hh];exact hr
 | .xext _,_,hr=>by unfold O.ok at *;rw[ha h hh];exact hr
 | .fext _,_,hr=>by unfold O.ok at *;rw[ha h hh];exact hr
 | .xrow _ _,_,hr=>by unfold O.ok at *;rw[ha h hh];exact hr
 | .mrow _ _ _ _,_,hr=>by unfold O.ok at *;rw[ha h hh];exact hr
 | .trow _ _ _ _,_,hr=>by unfold O.ok at *;rw[ha h hh];exact hr
 | .sub r i e j ty c,hl,hr=>by
  have hl':r<nx:=hl;unfold O.ok at *;simp only;rw[ha h hh,ha r hl'];exact hr
def HRel.agree {I I':Env} {B:Kd} {nx:Nat} {hp:Hp} {w:zr} (h:HRel I B hp nx w) (ha:jah nx I I'):HRel I' B hp nx w where
 ok k o hf:=let ⟨a,b,c⟩:=h.ok k o hf; ⟨a,b,O.ok_agree ha a b c⟩
 apart k o k' o' b hf hf' hne hb:=by
  rw[ha k (h.ok k o hf).1]at hb;rw[ha k' (h.ok k' o' hf').1];exact h.apart k o k' o' b hf hf' hne hb
 glob:=h.glob
def HRel.mono_nx {I:Env} {B:Kd} {nx nx':Nat} {hp:Hp} {w:zr} (h:HRel I B hp nx w) (hn:nx<=nx'):HRel I B hp nx' w :=⟨fun k o hf=>let ⟨a,b,c⟩:=h.ok k o hf; ⟨zG a hn,O.lt_mono hn b,c⟩,h.apart,h.glob⟩
def O.blk_lt {I:Env} {B:Kd} {h k:Nat} {w:zr}:∀{o:O},o.ok I B w h->o.blk (I h)=some k->k<w.heap.size∧¬B.all k
 | .box ty cs,⟨g,h1,h2,h3⟩,hb=>by
  simp only[O.blk,h1,base,zj]at hb;subst hb;exact⟨(zM.1 h3).1,h2⟩
 | .row ty c,hr,hb=>by
  have:=hH hr.1 k hb;exact⟨this.2,hr.2 k hb⟩
 | .arr ty _ _,⟨g,h1,h2,h3⟩,hb=>by
  simp only[O.blk,h1,base,zj]at hb;subst hb;exact⟨(zM.1 h3).1,h2⟩
 | .xrow ty X,⟨us,hr,_,hk⟩,hb=>⟨(hH hr k hb).2,hk k hb⟩
 | .mrow ty ts X ho,⟨us,hr,_,_,hk⟩,hb=>⟨(hH hr k hb).2,hk k hb⟩
 | .trow ty ts X m,⟨us,hr,_,_,hk⟩,hb=>⟨(hH hr k hb).2,hk k hb⟩
def HRel.add {I I':Env} {B:Kd} {nx:Nat} {hp:Hp} {w w':zr} (h:HRel I B hp nx w) (hb:yn w.heap.size w w') (hB:Old B w)
  (ha:jah nx I I') {o:O} (hl:o.lt (nx+1)) (ho:o.ok I' B w' nx) (hn:∀k,o.blk (I' nx)=some k->w.heap.size<=k) :
  HRel I' B ((nx,o)::hp) (nx+1) w':=by
 have h1:=((h.below hb hB).agree ha).mono_nx (xu nx);have hold:∀k o',find hp k=some o'->k≠nx:=fun k o' hf e=>by have:=(h.ok k o' hf).1;omega
 refine⟨?_,?_,h1.glob⟩
 ·intro k o' hf;simp only[find]at hf;split at hf
  ·rename_i e;subst e;cases hf;exact⟨by omega,hl,ho⟩
  ·exact h1.ok k o' hf
 ·intro k o₁ k' o₂ b hf hf' hne hbk hbk';simp only[find]at hf hf'
  have hlt:∀k o',find hp k=some o'->∀b,o'.blk (I' k)=some b->b<w.heap.size:=fun k o' hk b hbb=>by
   have hk1:=h.ok k o' hk;rw[ha k hk1.1]at hbb;exact(O.blk_lt hk1.2.2 hbb).1
  split at hf
  ·rename_i e;subst e;cases hf;rw[if_neg hne]at hf';have:=hn b hbk;have:=hlt k' o₂ hf' b hbk';omega
  ·split at hf'
   ·rename_i e;subst e;cases hf';have:=hn b hbk';have:=hlt k o₁ hf b hbk;omega
   ·exact h1.apart k o₁ k' o₂ b hf hf' hne hbk hbk'
structure Kd.Le (B B':Kd):Prop where
 kp:∀k,B.kp k->B'.kp k
 fr:∀k,B.fr k->B'.fr k
def Kd.LeM (B B':Kd):Prop:=∀k g,B.mu k=some g->B'.mu k=some g
def NC.own_mono {B B':Kd} {w:zr} {g ty:Nat} {v:zs} {x:NC} (hs:B.LeM B') (h:x.own B w g ty v):x.own B' w g ty v:=by
 cases x with
 |d x=>exact h
 |r c=>exact⟨h.1,fun k hk=>hs k g (h.2 k hk)⟩
def jaW {B B':Bd} {v:zs} (hs:∀k,B k->B' k) (h:jbK B v):jbK B' v:=fun a n cap e hn=>hs _ (h a n cap e hn)
def NC.at_mono {B B':Bd} {w:zr} {v:zs} {x:NC} (hs:∀k,B k->B' k) (h:x.at B w v):x.at B' w v:=by
 cases x with
 |d x=>exact h
 |r c=>exact⟨h.1,jaW hs h.2⟩
def IsX.mono {B B':Bd} {w:zr} {v:zs} {X:XC} (hs:∀k,B k->B' k) (h:IsX B w v X):IsX B' w v X:=by
 obtain⟨a,cap,h1,h2,h3⟩:=h;refine⟨a,cap,h1,h2,fun hn=>?_⟩;obtain⟨b,off,h4,h5,h6⟩:=h3 hn;refine⟨b,off,h4,hs b h5,fun i j hi hj=>?_⟩;obtain⟨u,hu,hux⟩:=h6 i j hi hj;exact⟨u,hu,NC.at_mono hs hux⟩
def O.ok_moreB {I:Env} {B B2:Kd} {w:zr} {h:Nat} (hs:B.Le B2) (hm:B.LeM B2):∀{o:O},o.ok I B w h->(∀k,o.blk (I h)=some k->¬B2.all k)->o.ok I B2 w h
 | .box _ _,⟨k,h1,h2,h3⟩,hn=>⟨k,h1,hn k (by simp[O.blk,h1,base]),h3⟩
 | .row _ _,⟨hr,_⟩,hn=>⟨hr,fun k hk=>hn k hk⟩
 | .ext _,⟨h1,h2⟩,_=>⟨h1,jaW hs.kp h2⟩
 | .view _ _ _,h,_=>h
 | .dead,_,_=>trivial
 | .nan _,h,_=>h
 | .err,h,_=>h
 | .atom,h,_=>h
 | .ebox _,⟨k,o,h1,h2,h3⟩,_=>⟨k,o,h1,hs.kp _ h2,h3⟩
 | .arr _ _ _,⟨k,h1,h2,h3⟩,hn=>⟨k,h1,hn k (by simp[O.blk,h1,base]),h3⟩
 | .xext _,h,_=>IsX.mono hs.kp h
 | .fext _,⟨h1,h2⟩,_=>⟨h1,jaW hs.fr h2⟩
 | .xrow _ _,⟨us,h1,h2,_⟩,hn=>⟨us,h1,fun i j hi hj=>let ⟨u,hu,hx⟩:=h2 i j hi hj; ⟨u,hu,NC.at_mono hs.fr hx⟩,fun k hk=>hn k hk⟩
 | .mrow _ _ _ _,⟨us,h1,h2,h3,_⟩,hn=>⟨us,h1,fun i j hi hj ho=>let ⟨u,hu,hx⟩:=h2 i j hi hj ho; ⟨u,hu,NC.own_mono hm hx⟩,h3,fun k hk=>hn k hk⟩
 | .trow _ _ _ _,⟨us,h1,h2,h3,_⟩,hn=>⟨us,h1,fun i j hi hj=>let ⟨u,hu,hx,ha⟩:=h2 i j hi hj; ⟨u,hu,fun hq=>NC.own_mono hm (hx hq),fun hq=>NC.at_mono hs.kp (ha hq)⟩,h3,fun k hk=>hn k hk⟩
 | .sub _ _ _ _ _ _,⟨h1,h2,h3,h4,h5⟩,_=>⟨h1,h2,h3,h4,fun k hk=>hm k _ (h5 k hk)⟩
def HRel.moreB {I:Env} {B B2:Kd} {nx:Nat} {hp:Hp} {w:zr} (hh:HRel I B hp nx w) (hs:B.Le B2) (hm:B.LeM B2) (hn:∀h o k,find hp h=some o->o.blk (I h)=some k->¬B2.all k):HRel I B2 hp nx w :=⟨fun h o hf=>⟨(hh.ok h o hf).1,(hh.ok h o hf).2.1,O.ok_moreB hs hm (hh.ok h o hf).2.2 (fun k hk=>hn h o k hf hk)⟩,hh.apart,hh.glob.sub hs.kp⟩
def HRel.sub {I:Env} {B:Kd} {nx:Nat} {hp hp':Hp} {w:zr} (h:HRel I B hp nx w) (hs:∀k o,find hp' k=some o->find hp k=some o):HRel I B hp' nx w :=⟨fun k o hf=>h.ok k o (hs k o hf),fun k o k' o' b hf hf'=>h.apart k o k' o' b (hs k o hf) (hs k' o' hf'),h.glob⟩
end
abbrev zS:List NK:=[.s,.i .i64,.ints .i64,.ints .i64,.ints .i64,.i .i64,.recs 5,.i .i64]
abbrev zT:=Int × Int × Int × Int × Int × Int × Int × Int × Int × Int × Int × Int × Int × Int × Int × Int × Int × Int × Int × Int × Int × Int × Int × Int × Int × Int × Int × Int × Int × Int × Int × Int
abbrev zN (r:List Int) (x:Int):=Int.toNat (zb r x.toNat (0:Int))
abbrev zO:List Nat:=zh 32 0
abbrev zY:=ByteArray
abbrev zI:List Int:=zh 32 0
abbrev zD:List D:=zh 32 (D.f .f32 0)
abbrev zE:List Nat:=[(0:Nat),(0:Nat),(3:Nat),(3:Nat),(3:Nat),(0:Nat),(148:Nat),(0:Nat)]
end Go.Sx
end

section
open Go.RowKit
namespace Go.Sx
def V.int?:V->Option (IntKind × Int)| .w (.c (.d (.i k n)))=>some (k,n)|_=>none
def V.bool?:V->Option Bool| .w (.c (.d (.b x)))=>some x|_=>none
def V.str?:V->Option ByteArray| .w (.c (.d (.s x)))=>some x|_=>none
def V.flt?:V->Option (qd × Nat)| .w (.c (.d (.f k x)))=>some (k,x)|_=>none
def V.agg?:V->Option (List C)| .w (.a l)=>some l|_=>none
def V.cell?:V->Option C| .w (.c x)=>some x|_=>none
def V.obj?:V->Option Nat| .w (.c (.o h))=>some h|_=>none
def V.nils?:V->Bool| .w (.c (.d (.v (.slice none 0 0))))=>true|_=>false
def vi (k:IntKind) (n:Int):V:=.w (.c (.d (.i k n)))
def vb (b:Bool):V:=.w (.c (.d (.b b)))
def vs (s:ByteArray):V:=.w (.c (.d (.s s)))
def vf (k:qd) (n:Nat):V:=.w (.c (.d (.f k n)))
def vu:V:=.w (.c (.d (.v zJ)))
def vblk (k:qd) (e:Nat) (r:List Nat):V:=.w (.b e (.f k r))
def jbG:qd->qd->Bool| .f32,.f32=>true| .f64,.f64=>true|_,_=>false
def V.nan? (hp:Hp):V->Option qd| .w (.c (.o h))=>(match find hp h with|some (.nan k)=>some k|_=>none)|_=>none
def jkM:zs->C| .int k n=>.d (.i k n)| .bool b=>.d (.b b)| .string s=>.d (.s s)| .float k n=>.d (.f k n)| .complex k x y=>.d (.z k (x,y))|v=>.d (.v v)
def jjj (I:Env) (v:zs):(jkM v).val I=v:=by cases v<;>rfl
def jkN (n:Nat) (v:zs):(jkM v).lt n:=by cases v<;>exact trivial
def jmE (k:qd):List zs->Option (List Nat)|[]=>some []| .float k' n::r=>if k'=k then(jmE k r).map (n :: ·)else none|_=>none
def jo8:List zs->Option (List Int)|[]=>some []| .int .i64 n::r=>(jo8 r).map (n :: ·)|_=>none
def bigV (cs:List zs):Option AR:=match qN 8 cs.length with|true=>(match jmE .f32 cs with|some r=>some (.f .f32 r)|none=>match qN 16 cs.length with|true=>(jo8 cs).map .i|false=>none)|false=>none
def ofValue:zs->W| .agg cs=>(match bigV cs.toList with|some x=>.b cs.size x|none=>.a (cs.toList.map jkM))|v=>.c (jkM v)
def jtE {k:qd}:∀{cs:List zs} {r:List Nat},jmE k cs=some r->cs=r.map fun n=>yW k n
 |[],r,h=>by simp only[jmE,zj]at h;subst h;rfl
 |c::cs,r,h=>by
  cases c with
  |float k' n =>
   simp only[jmE]at h;split at h
   ·rename_i e;subst e;obtain⟨l,hl,rfl⟩:=z4.1 h;rw[jtE hl];rfl
   ·cases h
  |_=>simp only[jmE]at h;cases h
def jtF:∀{cs:List zs} {r:List Int},jo8 cs=some r->cs=r.map fun n=>x9 .i64 n
 |[],r,h=>by simp only[jo8,zj]at h;subst h;rfl
 |c::cs,r,h=>by
  unfold jo8 at h;split at h
  ·rename_i e;cases e
  ·rename_i e;cases e;obtain⟨l,hl,rfl⟩:=z4.1 h;rw[jtF hl];rfl
  ·cases h
def jjk {α:Type} (d:α) (l:List α) (f:α->zs):((zm l.length).map fun i=>f (l.getD i d))=l.map f:=by
 apply xA;intro i;simp only[zR]
 by_cases hi:i<l.length
 ·rw[jF hi];simp[zb,zH hi]
 ·rw[z7 (by simpa using hi),z7 (by simpa using hi)];rfl
def jCu {cs:List zs} {x:AR} (h:bigV cs=some x):(arD cs.length x).map D.val=cs:=by
 unfold bigV at h;split at h
 ·split at h
  ·rename_i r hr;cases h;have h1:=jtE hr;have hl:cs.length=r.length:=by rw[h1];simp
   rw[hl,arD,xV];exact(jjk 0 r fun n=>yW .f32 n).trans h1.symm
  ·split at h
   ·obtain⟨r,hr,rfl⟩:=z4.1 h;have h1:=jtF hr;have hl:cs.length=r.length:=by rw[h1];simp
    rw[hl,arD,xV];exact(jjk 0 r fun n=>x9 .i64 n).trans h1.symm
   ·cases h
 ·cases h
def jnn (I:Env) (v:zs):(ofValue v).val I=v:=by
 cases v with
 |agg cs =>
  simp only[ofValue];split
  ·rename_i x hb;simp only[W.val]
   congr 1
   apply Array.toList_inj.1;simp only;have hsz:cs.size=cs.toList.length:=rfl;rw[hsz];exact jCu hb
  ·simp only[W.val,xV,xS,jjj,List.map_id']
 |_=>simp only[ofValue,W.val,jjj]
def jo9 (n:Nat) (v:zs):(ofValue v).lt n:=by
 cases v with
 |agg cs =>
  simp only[ofValue];split
  ·exact trivial
  ·intro x hx;obtain⟨y,_,rfl⟩:=qn.1 hx;exact jkN n y
 |_=>simp only[ofValue,W.lt];exact jkN n _
def jkO (op:fH) (k:IntKind) (a:Int) (k':IntKind) (b:Int):Option (Prop × V) :=
 match op with
 | .shl=>some (0<=b,vi k (k.wrap (a*2^(min b.toNat k.bits))))
 | .shr=>some (0<=b,vi k (a.fdiv (2^(min b.toNat k.bits))))
 |_ =>
  if k=k' then match op with| .add=>some (True,vi k (k.wrap (a+b)))| .sub=>some (True,vi k (k.wrap (a-b)))| .mul=>some (True,vi k (k.wrap (a*b)))| .quo=>some (b≠0,vi k (k.wrap (a.tdiv b)))| .rem=>some (b≠0,vi k (a.tmod b))| .eql=>some (True,vb (a==b))| .neq=>some (True,vb (a != b))| .lss=>some (True,vb (a<b))| .leq=>some (True,vb (a<=b))| .gtr=>some (True,vb (a>b))| .geq=>some (True,vb (a>=b))| .and=>some (True,vi k (k.wrap (jW k.bits a &&& jW k.bits b).toNat))| .or=>some (True,vi k (k.wrap (jW k.bits a ||| jW k.bits b).toNat))| .xor=>some (True,vi k (k.wrap (jW k.bits a ^^^ jW k.bits b).toNat))|_=>none
  else none
def jpa (op:fH) (k:qd) (a:Nat) (k':qd) (b:Nat):Option (Prop × V) :=
 if k=k' then match op with| .eql=>some (True,vb (k.format.order a b==some .eq))| .neq=>some (True,vb (k.format.order a b != some .eq))| .lss=>some (True,vb (k.format.order a b==some .lt))| .leq=>some (True,vb (k.format.order a b==some .lt||k.format.order a b==some .eq))| .gtr=>some (True,vb (k.format.order a b==some .gt))| .geq=>some (True,vb (k.format.order a b==some .gt||k.format.order a b==some .eq))| .add=>some ((k.format.add a b).isSome=true,vf k ((k.format.add a b).getD 0))| .mul=>some ((k.format.mul a b).isSome=true,vf k ((k.format.mul a b).getD 0))|_=>none
 else none
def jmF (op:fH) (a b:Bool):Option (Prop × V) :=match op with| .eql=>some (True,vb (a==b))| .neq=>some (True,vb (!(a==b)))|_=>none
def jpb (op:fH) (a b:ByteArray):Option (Prop × V) :=match op with| .eql=>some (True,vb (a==b))| .neq=>some (True,vb (a != b))|_=>none
def jqC (P:zP) (t:qI):Bool:=match P.underlying t with|some .bool=>true|_=>false
def jbz (P:zP) (t:qI):Option Bool :=match P.underlying t with|some (.struct _)=>some true|some (.array _ _)=>some true|some _=>some false|none=>none
def szT (P:zP) (t:qI):Option Nat:=(P.info? t).map (·.size)
def jaA (P:zP) (t:qI):Option (List C):=((P.info? t).bind (·.zero)).map fun v=>v.cells.toList.map jkM
def isK:zZ->Bool| .const _=>true|_=>false
def ivC:C->Int| .d (.i _ n)=>n|_=>0
def bvC:C->Bool| .d (.b x)=>x|_=>false
def svC:C->ByteArray| .d (.s x)=>x|_=>xY
def ikC (k:IntKind):C->Bool| .d (.i k' _)=>decide (k'=k)|_=>false
def bkC:C->Bool| .d (.b _)=>true|_=>false
def skC:C->Bool| .d (.s _)=>true|_=>false
def ivs (cs:List C):List Int:=cs.map ivC
def bvs (cs:List C):List Bool:=cs.map bvC
def svs (cs:List C):List ByteArray:=cs.map svC
def iks (k:IntKind) (cs:List C):List Bool:=cs.map (ikC k)
def bks (cs:List C):List Bool:=cs.map bkC
def sks (cs:List C):List Bool:=cs.map skC
def selC (z:C) (cs:List C) (j:Nat):Option (Prop × C) :=match z with| .d (.i k _)=>some ((iks k cs).getD j false=true,.d (.i k ((ivs cs).getD j 0)))| .d (.b _)=>some ((bks cs).getD j false=true,.d (.b ((bvs cs).getD j false)))| .d (.s _)=>some ((sks cs).getD j false=true,.d (.s ((svs cs).getD j xY)))|_=>none
def jpc (cs:List C):List C->Nat->Option (Prop × List C)|[],_=>some (True,[])|z::r,j=>match selC z cs j with|some (p,c)=>(match r with|[]=>some (p,[c])|r=>match jpc cs r (j+1)with|some (q,l)=>some (p∧q,c::l)|none=>none)|none=>none
def selW (P:zP) (t:qI) (cs:List C) (j:Nat):Option (Prop × V) :=match jbz P t,szT P t,jaA P t with|some false,some 1,some [z]=>(match selC z cs j with|some (p,c)=>some (p,.w (.c c))|none=>none)|some true,some sz,some z=>(match zF z.length sz,qN 1 sz with|true,true=>(match jpc cs z j with|some (p,l)=>some (p,.w (.a l))|none=>none)|_,_=>none)|_,_,_=>none
def jmG (P:zP) (t:qI) (cs:List C) (e j:Nat):Option (Prop × V) :=match e with|0=>(match selW P t cs j with|some x=>some x|none=>none)|_+1=>none
def jpd (P:zP) (t:qI) (o:O) (i e j:Nat):Option (Prop × V) :=
 match jbz P t,szT P t with
 |some ag,some sz =>
  match o with
  | .box _ cs =>
   match jmG P t cs e j with|some x=>some x|none=>match ag with|true=>if i*e+j+sz<=cs.length then some (True,.w (.a ((cs.drop (i*e+j)).take sz)))else none|false=>(cs[i*e+j]?).map fun c=>(True,.w (.c c))
  | .ebox cs =>
   match jmG P t cs e j with|some x=>some x|none=>match ag with|true=>if i*e+j+sz<=cs.length then some (True,.w (.a ((cs.drop (i*e+j)).take sz)))else none|false=>(cs[i*e+j]?).map fun c=>(True,.w (.c c))
  | .arr _ E x =>
   match ag with|true=>(match zF sz E,zF (i*e+j) 0 with|true,true=>some (True,.w (.b E x))|_,_=>none)|false=>some (i*e+j<E,.w (.c (.d (x.el (i*e+j)))))
  | .xext (.st sh l) =>
   match ag with|true=>none|false=>match zF e sh.length,sh[j]? with|true,some (.i k)=>some (i<l.length,vi k (((l.getD i []).getD j (.d (.v zJ))).toI))|true,some .b=>some (i<l.length,vb (((l.getD i []).getD j (.d (.v zJ))).toB))|true,some (.f k)=>some (i<l.length,vf k (((l.getD i []).getD j (.d (.v zJ))).toF))|true,some .s=>some (i<l.length,vs (((l.getD i []).getD j (.d (.v zJ))).toS))|_,_=>none
  | .xext _=>none
  | .xrow _ (.st sh l) =>
   match ag with|true=>none|false=>match zF e sh.length,sh[j]? with|true,some (.i k)=>some (i<l.length,vi k (((l.getD i []).getD j (.d (.v zJ))).toI))|true,some .b=>some (i<l.length,vb (((l.getD i []).getD j (.d (.v zJ))).toB))|true,some (.f k)=>some (i<l.length,vf k (((l.getD i []).getD j (.d (.v zJ))).toF))|true,some .s=>some (i<l.length,vs (((l.getD i []).getD j (.d (.v zJ))).toS))|_,_=>none
  | .xrow _ _=>none
  | .mrow _ _ (.st sh l) none =>
   match ag with|true=>none|false=>match zF e sh.length,sh[j]? with|true,some (.i k)=>some (i<l.length,vi k (((l.getD i []).getD j (.d (.v zJ))).toI))|true,some .b=>some (i<l.length,vb (((l.getD i []).getD j (.d (.v zJ))).toB))|true,some (.f k)=>some (i<l.length,vf k (((l.getD i []).getD j (.d (.v zJ))).toF))|true,some .s=>some (i<l.length,vs (((l.getD i []).getD j (.d (.v zJ))).toS))|_,_=>none
  | .mrow _ _ _ _=>none
  | .trow _ _ _ _=>none
  |o =>
   match o.cont with
   |some (.frs k E l) =>
    match ag with|true=>(match zF e E,zF j 0,zF sz E with|true,true,true=>some (i<l.length,vblk k E (l.getD i []))|_,_,_=>none)|false=>match zF e E with|true=>some (i<l.length∧j<E,vf k ((l.getD i []).getD j 0))|false=>none
   |some (.floats k l) =>
    match zF e 1,zF j 0 with|true,true=>(match ag with|true=>some (i+sz<=l.length,vblk k sz ((l.drop i).take sz))|false=>some (i<l.length,vf k (l.getD i 0)))|_,_=>none
   |some c =>
    match ag with|true=>if e=c.e∧j+sz<=e then some (i<c.n,.w (.a ((zm sz).map fun m=>C.d (c.cell i (j+m)))))else none|false=>if e=c.e∧j<e then some (i<c.n,.w (.c (.d (c.cell i j))))else none
   |none=>none
 |_,_=>none
def jcN (P:zP) (t:qI) (cs:List C) (off:Nat):Option V :=match jbz P t,szT P t with|some true,some sz=>if off+sz<=cs.length then some (.w (.a ((cs.drop off).take sz)))else none|some false,some _=>(cs[off]?).map fun c=>.w (.c c)|_,_=>none
def W.cells:W->List C| .c x=>[x]| .a l=>l| .b e x=>(arD e x).map C.d
def jdx (place:Nat->Option (Nat × Nat)) (cells:List C):List (Nat × W)->Option (List C)
 |[]=>some cells
 |(i,v)::rest =>
  match place i with
  |none=>none
  |some (off,size) =>
   if v.cells.length=size∧off+v.cells.length<=cells.length then jdx place (v.cells.zipIdx.foldl (fun cs (c,j)=>cs.set (off+j) c) cells) rest
   else none
def jdQ (P:zP) (fs:List Field):List (Option (Nat × Nat)):=fs.map fun f=>(szT P f.type).map fun s=>(f.offset,s)
def C.one (hp:Hp):C->Bool| .d x=>x.one| .o h=>(match find hp h with|some .dead=>false|some _=>true|none=>false)|_=>true
def W.one (hp:Hp):W->Bool| .c x=>x.one hp| .a _=>true| .b _ _=>true
def jcB (rd:zZ->Option V) (hp:Hp):List (Nat × zZ)->Option (List (Nat × W))
 |[]=>some []
 |(i,x)::r =>
  match rd x,jcB rd hp r with|some (.w v),some l=>if v.one hp=true then some ((i,v)::l)else none|_,_=>none
def jpe (P:zP) (t:qI) (parts:List (Nat × W)):Option (List C) :=
 match jaA P t,P.underlying t with
 |some z,some (.struct fs)=>match(jdQ P fs.toList).mapM id with
  |some l=>jdx (fun i=>l[i]?) z parts
  |none=>none
 |some z,some (.array _ elem)=>match szT P elem with|some size=>jdx (fun i=>some (i*size,size)) z parts|none=>none
 |_,_=>none
def jim (rd:zZ->Option V) (hp:Hp):List zZ->Option (List Nat)
 |[]=>some []
 |x::r =>
  match rd x,jim rd hp r with|some (.w (.c (.p h 0 _ 0))),some l=>(match find hp h with|some (.box _ _)=>some (h::l)|some (.ebox _)=>some (h::l)|_=>none)|_,_=>none
def jin (rd:zZ->Option V):List zZ->Option (List (IntKind × Int))
 |[]=>some []
 |x::r =>
  match rd x,jin rd r with|some v,some l=>(v.int?).map (·:: l)|_,_=>none
def jqD (k:IntKind) (a:Int):List (IntKind × Int)->Option V|[]=>some (vi k a)|(k',b)::r=>if k=k' then jqD k (if b<a then b else a) r else none
def jqE (k:IntKind) (a:Int):List (IntKind × Int)->Option V|[]=>some (vi k a)|(k',b)::r=>if k=k' then jqE k (if b>a then b else a) r else none
def f2i (s:qd) (b:Nat):Int:=((s.decode b).toInt .zero).getD 0
def jbR (s:qd) (k:IntKind) (b:Nat):Bool:=match(s.decode b).toInt .zero with
 |some n=>decide (k.min<=n∧n<=k.max)
 |none=>false
def jmH (b:Nat):Bool:=(qM .f32 b).isNaN
def jeg (b:Nat):Nat:=jw .f64 (qM .f32 b)
def jxD (P:zP) (src dst:qI) (v:V):Option (Prop × V) :=
 match P.underlying src,P.underlying dst,v.int?,v.flt? with
 |some (.int _),some (.int k),some (_,n),_=>some (True,vi k (k.wrap n))
 |some (.int _),some (.float k),some (_,n),_=>some (True,vf k (k.nearest n))
 |some (.float _),some (.int k),_,some (s,b) =>
  some (jbR s k b=true,vi k (f2i s b))
 |_,_,_,_=>none
def jf4 {α:Type} (f:α->Option Bool):List α->Option Bool|[]=>some true|[a]=>f a|a::r=>match f a,jf4 f r with|some b,some c=>some (b&&c)|_,_=>none
def eqV (P:zP):Nat->qI->V->V->Option Bool
 |0,_,_,_=>none
 |d+1,t,u,v =>
  match P.underlying t,u,v with
  |some (.int _),.w (.c (.d (.i k a))),.w (.c (.d (.i k' b)))=>if k=k' then some (a==b)else none
  |some .bool,.w (.c (.d (.b a))),.w (.c (.d (.b b)))=>some (a==b)
  |some .string,.w (.c (.d (.s a))),.w (.c (.d (.s b)))=>some (a==b)
  |some (.struct fs),.w (.a xs),.w (.a ys)=>match P.stoodInHeld t with
   |false=>jf4 (fun f=>match f.name == "_",jcN P f.type xs f.offset,jcN P f.type ys f.offset with
    |false,some a,some b=>eqV P d f.type a b
    |_,_,_=>none) fs.toList
   |true=>none
  |some (.array n elem),.w (.a xs),.w (.a ys)=>match szT P elem with|some sz=>(jf4 (fun i=>match jcN P elem xs (i*sz),jcN P elem ys (i*sz)with|some a,some b=>eqV P d elem a b|_,_=>none) (zm n))|none=>none
  |_,_,_=>none
def jio (P:zP) (op:Op) (rd:zZ->Option V) (hp:Hp):Option (Prop × V) :=
 match op with
 | .move x=>(rd x).map fun v=>(True,v)
 | .assign x=>(rd x).map fun v=>(True,v)
 | .pick c a b =>
  match(rd c).bind V.bool? with
  |some true=>(rd a).map fun v=>(True,v)
  |some false=>(rd b).map fun v=>(True,v)
  |none=>none
 | .binOp op t x y _ =>
  match rd x,rd y with
  |some u,some v =>
   match u.int?,v.int? with
   |some (k,a),some (k',b)=>jkO op k a k' b
   |_,_ =>
    match u.bool?,v.bool? with
    |some a,some b=>if jqC P t=true then jmF op a b else none
    |_,_ =>
     match u.str?,v.str? with
     |some a,some b=>jpb op a b
     |_,_ =>
      match u.flt?,v.flt? with|some (k,a),some (k',b)=>jpa op k a k' b|_,_=>match u.agg?,v.agg?,P.eqGuardType P.depth t with|some xs,some ys,false=>(match op with| .eql=>(eqV P 16 t (.w (.a xs)) (.w (.a ys))).map fun b=>(True,vb b)| .neq=>(eqV P 16 t (.w (.a xs)) (.w (.a ys))).map fun b=>(True,vb (!b))|_=>none)|_,_,_=>none
  |_,_=>none
 | .unOp op _ x =>
  match op,rd x with| .not,some v=>(v.bool?).map fun b=>(True,vb (!b))| .neg,some v=>(v.int?).map fun(k,n)=>(True,vi k (k.wrap (0-n)))|_,_=>none
 | .convert src dst x=>(rd x).bind (jxD P src dst)
 | .extract t i =>
  match rd t with|some (.t l)=>(l[i]?).map fun u=>(True,.w u)|_=>none
 | .field t x f =>
  match P.underlying t,(rd x).bind V.agg? with|some (.struct fs),some cs=>(match fs.toList[f]? with|some g=>(jcN P g.type cs g.offset).map fun v=>(True,v)|none=>none)|_,_=>none
 | .index t x i =>
  match(rd x).bind V.str?,P.underlying t,(rd i).bind V.int? with
  |some s,some .string,some (_,i)=>some (0<=i∧i<(s.size:Int),vi .u8 ((s.data.getD i.toNat 0).toNat:Int))
  |some _,_,_=>none
  |none,_,_ =>
  match P.underlying t,(rd x).bind V.agg?,(rd i).bind V.int? with|some (.array len elem),some cs,some (_,n)=>(match szT P elem with|some size=>(match isK i,selW P elem cs (n.toNat*size)with|false,some (p,v)=>some ((0<=n∧n<(len:Int))∧p,v)|_,_=>(jcN P elem cs (n.toNat*size)).map fun v=>(0<=n∧n<(len:Int),v))|none=>none)|_,_,_=>none
 | .nilCheck x =>
  match rd x with|some (.w (.c (.p h i e j)))=>some (True,.w (.c (.p h i e j)))|_=>none
 | .fieldAddr s x f =>
  match P.underlying s,rd x with|some (.struct fs),some (.w (.c (.p h i e j)))=>(match fs.toList[f]? with|some g=>(match szT P g.type with|some (_+1)=>some (True,.w (.c (.p h i e (j+g.offset))))|_=>none)|none=>none)|_,_=>none
 | .indexAddr t x ix =>
  match P.underlying t,rd x,(rd ix).bind V.int? with
  |some (.array len elem),some (.w (.c (.p h i e j))),some (_,n)=>match szT P elem with|some size=>(match isK ix,e with|false,1=>some (0<=n∧n<(len:Int),.w (.c (.p h 0 0 (i*e+j+n.toNat*size))))|_,_=>some (0<=n∧n<(len:Int),.w (.c (.p h i e (j+n.toNat*size)))))|none=>none
  |some (.slice elem),some (.w (.c (.o h))),some (_,n)=>match(find hp h).bind O.cont,szT P elem with
   |some c,some size=>if size=c.e then some (0<=n∧n<(c.n:Int),.w (.c (.p h n.toNat c.e 0)))else none
   |_,_=>none
  |_,_,_=>none
 | .load t x =>
  match rd x with|some (.w (.c (.p h i e j)))=>(match find hp h with|some o=>jpd P t o i e j|none=>none)|_=>none
 | .build t parts =>
  match jcB rd hp parts.toList with|some l=>(jpe P t l).map fun cs=>(True,.w (.a cs))|none=>none
 | .makeFunc (.func f) first captured =>
  match first.toList,jim rd hp captured.toList with|[],some hs=>some (True,.w (.c (.fn f hs)))|_,_=>none
 | .call c =>
  match c.callee,c.args.toList,c.argTypes.toList with
  | .builtin .len,[x],[t] =>
   match P.underlying t,rd x with|some (.slice _),some (.w (.c (.o h)))=>((find hp h).bind O.cont).map fun c=>(True,vi .i64 (c.n:Int))|some (.slice _),some v=>if v.nils?=true then some (True,vi .i64 0)else none|some .string,some v=>(v.str?).map fun s=>(True,vi .i64 (s.size:Int))|some (.array n _),some _=>some (True,vi .i64 (n:Int))|_,_=>none
  | .builtin .min,args,_ =>
   match jin rd args with|some ((k,a)::r)=>(jqD k a r).map fun v=>(True,v)|_=>none
  | .builtin .max,args,_ =>
   match jin rd args with|some ((k,a)::r)=>(jqE k a r).map fun v=>(True,v)|_=>none
  |_,_,_=>none
 |_=>none
def jtG (op:fH):Option (Prop × V) :=match op with| .eql | .lss | .leq | .gtr | .geq=>some (True,vb false)| .neq=>some (True,vb true)|_=>none
def jqF (hp:Hp) (u v:V):Bool :=match u.nan? hp,v.nan? hp with|some k,some k'=>jbG k k'|some k,none=>(match v.flt? with|some (k',_)=>jbG k k'|none=>false)|none,some k=>(match u.flt? with|some (k',_)=>jbG k' k|none=>false)|none,none=>false
def jy6:zZ->Bool| .const .nilIface=>true| .const (.slice none 0 0)=>true|_=>false
def ja0 (rd:zZ->Option V):Option zZ->Option (Option Int)
 |none=>some none
 |some x=>match(rd x).bind V.int? with
  |some (_,n)=>some (some n)
  |none=>none
def jjl [Globs] (P:zP) (op:Op) (rd:zZ->Option V) (hp:Hp):Option (Prop × V) :=
 match op with
 | .binOp op t x y _ =>
  match rd x,rd y with|some u,some v=>(match jqF hp u v with|true=>jtG op|false=>none)|_,_=>none
 | .index t x i =>
  match rd x with|some (.w (.b E x))=>(match P.underlying t,(rd i).bind V.int? with|some (.array len elem),some (_,i)=>(match szT P elem,zF len E,jbz P elem with|some 1,true,some false=>some (0<=i∧i<(len:Int),.w (.c (.d (x.el i.toNat))))|_,_,_=>none)|_,_=>none)|_=>none
 | .indexAddr t x ix =>
  match P.underlying t,rd x,(rd ix).bind V.int? with
  |some (.slice elem),some (.w (.c (.o h))),some (_,n)=>match(find hp h).bind O.xc,szT P elem with
   |some X,some size=>match zF size X.e with|true=>some (0<=n∧n<(X.n:Int),.w (.c (.p h n.toNat X.e 0)))|false=>none
   |none,some size=>match(find hp h).bind O.hole with
    |some X=>match zF size X.e with|true=>some (0<=n∧n<(X.n:Int),.w (.c (.p h n.toNat X.e 0)))|false=>none
    |none=>none
   |_,_=>none
  |_,_,_=>none
 | .call c =>
  match c.callee,c.args.toList,c.argTypes.toList with
  | .builtin .len,[x],[t] =>
   match P.underlying t,rd x with
   |some (.slice _),some (.w (.c (.o h)))=>match(find hp h).bind O.xc with
    |some X=>some (True,vi .i64 (X.n:Int))
    |none=>none
   |_,_=>none
  |_,_,_=>none
 |_=>none
def jcj [Globs] (P:zP) (op:Op) (rd:zZ->Option V) (hp:Hp):Option (Prop × V) :=match jio P op rd hp with|some x=>some x|none=>jjl P op rd hp
section
variable {P:zP} (w:zr)
def jxE {op:fH} {t:qI} {k k':IntKind} {a b:Int} {ob:Prop} {v:V} (h:jkO op k a k' b=some (ob,v)) (ho:ob) (I:Env) :
  (binOp op t (.int k a) (.int k' b)).run P w=.ok (v.val I) w∧∀n,v.lt n:=by
 unfold jkO at h;cases op
 case shl =>
  simp only[zj,qp]at h;obtain⟨rfl,rfl⟩:=h;refine⟨?_,fun n=>trivial⟩;simp only[binOp,Op.shift];rw[if_neg (by omega)];simp[vi,V.val,W.val,C.val,D.val]
 case shr =>
  simp only[zj,qp]at h;obtain⟨rfl,rfl⟩:=h;refine⟨?_,fun n=>trivial⟩;simp only[binOp,Op.shift];rw[if_neg (by omega)];simp[vi,V.val,W.val,C.val,D.val]
 case andNot=>simp at h
 all_goals
  dsimp only at h;split at h
  ·rename_i hk;subst hk;simp only[zj,qp]at h;obtain⟨rfl,rfl⟩:=h;refine⟨?_,fun n=>trivial⟩
   first
    |(simp[binOp,kN,Op.intCmp,vi,vb,V.val,W.val,C.val,D.val];done)
    |(simp[binOp,Op.intDiv,ho,vi,V.val,W.val,C.val,D.val];done)
    |(simp[binOp,Op.intBits,vi,V.val,W.val,C.val,D.val];done)
  ·cases h
def jxF {op:fH} {t:qI} {k k':qd} {a b:Nat} {ob:Prop} {v:V} (h:jpa op k a k' b=some (ob,v)) (ho:ob) (I:Env) :
  (binOp op t (.float k a) (.float k' b)).run P w=.ok (v.val I) w∧∀n,v.lt n:=by
 unfold jpa at h;split at h
 ·rename_i hk;subst hk;cases op<;>simp only[zj,qp,reduceCtorEq]at h<;>obtain⟨rfl,rfl⟩:=h<;>refine⟨?_,fun n=>trivial⟩
  case add =>
   obtain⟨q,hq⟩:=yZ.1 ho;simp[binOp,gp,hq,vf,V.val,W.val,C.val,D.val]
  case mul =>
   obtain⟨q,hq⟩:=yZ.1 ho;simp[binOp,gp,hq,vf,V.val,W.val,C.val,D.val]
  all_goals simp[binOp,kO,vb,V.val,W.val,C.val,D.val]
 ·cases h
def jvW {op:fH} {t:qI} {a b:Bool} {ob:Prop} {v:V} (h:jmF op a b=some (ob,v)) (ht:jqC P t=true) (I:Env) :
  (binOp op t (.bool a) (.bool b)).run P w=.ok (v.val I) w∧∀n,v.lt n:=by
 have hu:P.underlying t=some .bool:=by
  unfold jqC at ht;split at ht
  ·assumption
  ·cases ht
 unfold jmF at h
 cases op<;>simp only[zj,qp,reduceCtorEq]at h<;>obtain⟨_,rfl⟩:=h<;>refine⟨?_,fun n=>trivial⟩ <;>
  (simp only[binOp];simp[Op.equal,Op.maxDepth,fO w 9999 t a b hu,vb,V.val,W.val,C.val,D.val])
def jxG {op:fH} {t:qI} {a b:ByteArray} {ob:Prop} {v:V} (h:jpb op a b=some (ob,v)) (I:Env) :
  (binOp op t (.string a) (.string b)).run P w=.ok (v.val I) w∧∀n,v.lt n:=by
 unfold jpb at h
 cases op<;>simp only[zj,qp,reduceCtorEq]at h<;>obtain⟨_,rfl⟩:=h<;>refine⟨?_,fun n=>trivial⟩ <;>
  simp[binOp,Op.stringOp,vb,V.val,W.val,C.val,D.val,bne,kj]
def jgd {t:qI} {b:Bool} (h:jbz P t=some b):(isAgg t).run P w=.ok b w:=by
 unfold jbz at h;split at h<;>simp_all [isAgg,zX]
def jaR {t:qI} {n:Nat} (h:szT P t=some n):(sizeOf t).run P w=.ok n w:=by
 unfold szT at h;cases hi:P.info? t with
 |none=>simp[hi]at h
 |some i=>simp[hi]at h;simp[sizeOf,yX,hi,h]
def jcm {t:qI} {a:gH} {cs:List zs} (h:jbz P t=some true) (hs:szT P t=some cs.length)
  (hc:∀j v,cs[j]?=some v->w.cell? (a.add j)=some v):(jX t a).run P w=.ok (.agg cs.toArray) w:=by
 simp only[jX,zq,jgd w h,zn,if_true,jaR w hs,run_loadCells_list w a cs hc,zt]
def jaS {t:qI} {a:gH} {v:zs} (h:jbz P t=some false) (hc:w.cell? a=some v):(jX t a).run P w=.ok v w:=by
 simp only[jX,zq,jgd w h,zn,z3,if_false,run_load,hc]
def jaT (b o n:Nat):(⟨b,o,none⟩:gH).add n=⟨b,o+n,none⟩:=by
 unfold fP;split
 ·rename_i h;subst h;rfl
 ·rfl
end
end Go.Sx
end

section
open Go.RowKit
namespace Go.Sx
def jd4 {w:zr} {ty:Nat} {v:zs} {c:Cont} (h:w.ownsRow 0 ty c.e v c.n (c.flat.map D.val)):jaH w v c:=by
 rcases h.2 with ⟨h1,hn⟩|⟨g,cap,cur,h1,h2,h3,h4,h5,h6,h7⟩
 ·exact⟨none,0,by rw[hn];exact h1,⟨by omega,fun _=>rfl⟩,fun h=>by omega⟩
 ·refine⟨some ⟨g,0,none⟩,cap,h1,⟨h4,fun h=>by cases h⟩,fun _=>⟨g,0,rfl,fun j x hj=>?_⟩⟩;rw[qa,xP w g j cur ty (0,0) h3];have h2:(cur.toList.take (c.n*c.e))[j]?=some x.val:=by rw[h7,zR,hj];rfl
  rw[qg]at h2;split at h2
  ·simpa using h2
  ·cases h2
def jtH {B:Kd} {w:zr} {g ty:Nat} {v:zs} {x:NC} (h:x.own B w g ty v):x.at B.all w v:=by
 cases x with
 |d x=>exact h
 |r c=>exact⟨jd4 h.1,fun a n cap hv _=>.inr (by rw[h.2 a.block (by rw[hv];rfl)];simp)⟩
def jd5 [Globs] {I:Env} {B:Kd} {w:zr} {h:Nat} {o:O} {X:XC} (hok:o.ok I B w h) (hx:o.xc=some X):∃a cap,I h=.slice a X.n cap∧(X.n<=cap∧(a=none->cap=0)) ∧
  (0<X.n->∃b off,a=some ⟨b,off,none⟩∧∀i j,i<X.n->j<X.e->∃u,w.cell? ⟨b,off+(i*X.e+j),none⟩=some u∧(X.cell i j).at B.all w u):=by
 cases o with
 |xext X' =>
  simp only[O.xc,zj]at hx;subst hx;obtain⟨a,cap,h1,h2,h3⟩:=hok;exact⟨a,cap,h1,h2,fun hn=>let ⟨b,off,h4,_,h6⟩:=h3 hn; ⟨b,off,h4,fun i j hi hj=>let ⟨u,hu,hx⟩:=h6 i j hi hj; ⟨u,hu,NC.at_mono (fun _ h=>.inl h) hx⟩⟩⟩
 |xrow ty X' =>
  simp only[O.xc,zj]at hx;subst hx;obtain⟨us,hr,hi,_⟩:=hok;rcases hr.2 with ⟨h1,hn⟩|⟨g,cap,cur,h1,h2,h3,h4,h5,h6,h7⟩
  ·exact⟨none,0,by rw[hn];exact h1,⟨by omega,fun _=>rfl⟩,fun h=>by omega⟩
  ·refine⟨some ⟨g,0,none⟩,cap,h1,⟨h4,fun h=>by cases h⟩,fun _=>⟨g,0,rfl,fun i j h8 h9=>?_⟩⟩;obtain⟨u,hu,hux⟩:=hi i j h8 h9;refine⟨u,?_,NC.at_mono (fun k h=>.inl (B.sub k h)) hux⟩;rw[qa,xP w g _ cur ty (0,0) h3];have h2:(cur.toList.take (X'.n*X'.e))[i*X'.e+j]?=some u:=by rw[h7,hu]
   rw[qg]at h2;split at h2
   ·simpa using h2
   ·cases h2
 |mrow ty ts X' ho =>
  cases ho with
  |some _=>simp[O.xc]at hx
  |none =>
  simp only[O.xc,zj]at hx;subst hx;obtain⟨us,hr,hi,_⟩:=hok;rcases hr.2 with ⟨h1,hn⟩|⟨g,cap,cur,h1,h2,h3,h4,h5,h6,h7⟩
  ·exact⟨none,0,by rw[hn];exact h1,⟨by omega,fun _=>rfl⟩,fun h=>by omega⟩
  ·refine⟨some ⟨g,0,none⟩,cap,h1,⟨h4,fun h=>by cases h⟩,fun _=>⟨g,0,rfl,fun i j h8 h9=>?_⟩⟩;obtain⟨u,hu,hux⟩:=hi i j h8 h9 (by simp);refine⟨u,?_,jtH hux⟩;rw[qa,xP w g _ cur ty (0,0) h3];have h2:(cur.toList.take (X'.n*X'.e))[i*X'.e+j]?=some u:=by rw[h7,hu]
   rw[qg]at h2;split at h2
   ·simpa using h2
   ·cases h2
 |trow ty ts X' m =>
  simp only[O.xc,zj]at hx;subst hx;obtain⟨us,hr,hi,_⟩:=hok;rcases hr.2 with ⟨h1,hn⟩|⟨g,cap,cur,h1,h2,h3,h4,h5,h6,h7⟩
  ·exact⟨none,0,by rw[hn];exact h1,⟨by omega,fun _=>rfl⟩,fun h=>by omega⟩
  ·refine⟨some ⟨g,0,none⟩,cap,h1,⟨h4,fun h=>by cases h⟩,fun _=>⟨g,0,rfl,fun i j h8 h9=>?_⟩⟩;obtain⟨u,hu,hux,hua⟩:=hi i j h8 h9;refine⟨u,?_,?_⟩
   ·rw[qa,xP w g _ cur ty (0,0) h3];have h2:(cur.toList.take (X'.n*X'.e))[i*X'.e+j]?=some u:=by rw[h7,hu]
    rw[qg]at h2;split at h2
    ·simpa using h2
    ·cases h2
   ·by_cases hq:i*X'.e+j<m
    ·exact jtH (hux hq)
    ·exact NC.at_mono (fun _ h=>.inl h) (hua (by omega))
 |_=>simp[O.xc]at hx
def jy7 [Globs] {I:Env} {B:Kd} {w:zr} {h:Nat} {o:O} {X:XC} (hok:o.ok I B w h) (hx:o.hole=some X):∃a cap,I h=.slice a X.n cap∧(0<X.n->∃b off,a=some ⟨b,off,none⟩):=by
 cases o with
 |mrow ty ts X' ho =>
  cases ho with
  |none=>simp[O.hole]at hx
  |some _ =>
  simp only[O.hole,zj]at hx;subst hx;obtain⟨us,hr,hi,_⟩:=hok;rcases hr.2 with ⟨h1,hn⟩|⟨g,cap,cur,h1,h2,h3,h4,h5,h6,h7⟩
  ·exact⟨none,0,by rw[hn];exact h1,fun h=>by omega⟩
  ·exact⟨some ⟨g,0,none⟩,cap,h1,fun _=>⟨g,0,rfl⟩⟩
 |_=>simp[O.hole]at hx
def jaB (I:Env) (nx:Nat) (rd:zZ->Option V) (a:Act):Prop:=∀x u,rd x=some u->u.lt nx∧a.eval x=u.val I
section
variable [Globs] {P:zP} {I:Env} {B:Kd} {nx:Nat} {hp:Hp} {w:zr} {rd:zZ->Option V} {a:Act}
def V.int?_eq {v:V} {k:IntKind} {n:Int} (h:v.int?=some (k,n)):v=vi k n:=by
 unfold V.int? at h;split at h<;>simp_all [vi]
def V.bool?_eq {v:V} {b:Bool} (h:v.bool?=some b):v=vb b:=by
 unfold V.bool? at h;split at h<;>simp_all [vb]
def V.str?_eq {v:V} {b:ByteArray} (h:v.str?=some b):v=vs b:=by
 unfold V.str? at h;split at h<;>simp_all [vs]
def V.flt?_eq {v:V} {k:qd} {n:Nat} (h:v.flt?=some (k,n)):v=vf k n:=by
 unfold V.flt? at h;split at h<;>simp_all [vf]
def V.agg?_eq {v:V} {l:List C} (h:v.agg?=some l):v=.w (.a l):=by
 unfold V.agg? at h;split at h<;>simp_all
@[simp] theorem vi_val (k:IntKind) (n:Int):(vi k n).val I=.int k n:=rfl
@[simp] theorem vb_val (b:Bool):(vb b).val I=.bool b:=rfl
@[simp] theorem vs_val (b:ByteArray):(vs b).val I=.string b:=rfl
@[simp] theorem vf_val (k:qd) (n:Nat):(vf k n).val I=.float k n:=rfl
@[simp] theorem cell_val (x:C):(V.w (.c x)).val I=x.val I:=rfl
@[simp] theorem agg_val (l:List C):(V.w (.a l)).val I=.agg (l.map (C.val I)).toArray:=rfl
def jd6 {t:qI} {cs:List C} {off:Nat} {v:V} (h:jcN P t cs off=some v) (hl:∀x∈cs,C.lt nx x) :
  (part t (cs.map (C.val I)).toArray off).run P w=.ok (v.val I) w∧v.lt nx:=by
 unfold jcN at h;split at h
 ·rename_i sz ht hs;split at h
  ·rename_i hle;cases h;refine⟨?_,fun x hx=>hl x (jt (yD hx))⟩;simp only[part,zq,jgd w ht,zn,if_true,jaR w hs,zt,agg_val]
   congr 2
   apply xf;simp[List.map_take,List.map_drop,List.take_drop]
  ·cases h
 ·rename_i sz ht hs;cases hc:cs[off]? with
  |none=>simp[hc]at h
  |some c =>
   simp[hc]at h;subst h;refine⟨?_,hl c (yh hc)⟩;simp only[part,zq,jgd w ht,zn,z3,if_false];simp[hc]
 ·cases h
def jkP {α:Type} {f:α->Option Bool} {a:α} {r:List α} {b:Bool} (h:jf4 f (a::r)=some b):∃x y,f a=some x∧jf4 f r=some y∧b=(x&&y):=by
 cases r with
 |nil=>exact⟨b,true,h,rfl,by simp⟩
 |cons c r =>
  simp only[jf4]at h;split at h
  ·rename_i x y hx hy;cases h;exact⟨x,y,hx,hy,rfl⟩
  ·cases h
def jmI (e:Nat):∀(d:Nat) (t:qI) (u v:V) (b:Bool),eqV P d t u v=some b->u.lt nx->v.lt nx->(Op.equalIn (d+e) t (u.val I) (v.val I)).run P w=.ok b w
 |0,_,_,_,_,h,_,_=>by cases h
 |d+1,t,u,v,b,h,hu,hv=>by
  have hde:d+1+e=(d+e)+1:=by omega
  rw[hde];unfold eqV at h;split at h
  ·rename_i k0 k a k' a' ht;split at h
   ·rename_i hk;cases h;subst hk;exact run_equalIn_int w (d+e) t k k0 a a' ht
   ·cases h
  ·rename_i a a' ht;cases h;exact fO w (d+e) t a a' ht
  ·rename_i a a' ht;cases h;rw[kj];exact run_equalIn_string w (d+e) t a a' ht
  ·rename_i fs xs ys ht;split at h
   ·rename_i hs;have hf:P.fieldsOf t=fs:=by simp[Program.fieldsOf,ht]
    rw[agg_val,agg_val,run_equalIn_struct w (d+e) t _ _ (by rw[hf];exact ht) hs,hf]
    generalize fs.toList=l at h
    induction l generalizing b with
    |nil=>cases h;rfl
    |cons f r ih =>
     obtain⟨x,y,hx,hy,rfl⟩:=jkP h;have ih:=ih y hy;split at hx
     ·rename_i a c hn ha hc;have hpa:=jd6 (I:=I) (w:=w) ha hu;have hpc:=jd6 (I:=I) (w:=w) hc hv;have hrec:=jmI e d f.type a c x hx hpa.2 hpc.2;unfold Op.eqFields;have hne:f.name ≠ "_" := by simpa using hn
      rw[if_pos hne];simp only[zq,hpa.1,hpc.1,zn,hrec];cases x
      ·simp
      ·simpa using ih
     ·cases hx
   ·cases h
  ·rename_i n elem xs ys ht;split at h
   ·rename_i sz hsz;simp only[agg_val,Op.equalIn,zq,zX ht,zn,jaR w hsz];simp only[fk,kJ];have hl:List.range' 0 ((n-0+1-1)/1) 1=zm n:=by simp[List.range_eq_range']
    rw[hl]
    generalize zm n=l at h
    induction l generalizing b with
    |nil=>cases h;simp
    |cons i r ih =>
     obtain⟨x,y,hx,hy,rfl⟩:=jkP h;have ih:=ih y hy;split at hx
     ·rename_i a c ha hc;have hpa:=jd6 (I:=I) (w:=w) ha hu;have hpc:=jd6 (I:=I) (w:=w) hc hv;have hrec:=jmI e d elem a c x hx hpa.2 hpc.2;simp only[List.forIn_cons,zq,hpa.1,hpc.1,zn,hrec];cases x
      ·simp
      ·simpa using ih
     ·cases hx
   ·cases h
  ·cases h
def jg3 {t:qI} {E:Nat} {x:AR} {ad:gH} (hag:jbz P t=some true) (hsz:szT P t=some E)
  (hc:∀m,m<E->w.cell? (ad.add m)=some (x.el m).val):(jX t ad).run P w=.ok ((W.b E x).val I) w:=by
 refine jcm w hag (by simpa using hsz) ?_;intro m u hm;simp only[arD,xV,zR,z4]at hm;obtain⟨y,hy,rfl⟩:=hm;obtain⟨hlt2,hy3⟩:=zC.1 hy;simp at hlt2 hy3;subst hy3;exact hc _ hlt2
def jg4 {t:qI} {k:qd} {E:Nat} {r:List Nat} {ad:gH} (hag:jbz P t=some true) (hsz:szT P t=some E)
  (hc:∀m,m<E->w.cell? (ad.add m)=some (.float k (r.getD m 0))):(jX t ad).run P w=.ok ((vblk k E r).val I) w :=
 jg3 (I:=I) (x:=.f k r) hag hsz hc
def jkQ {α:Type} {f:α->Bool} {cs:List α} {j:Nat} (h:(cs.map f).getD j false=true):∃x,cs[j]?=some x∧f x=true:=by
 rw[qJ,zR]at h;cases hx:cs[j]? with
 |none=>rw[hx]at h;cases h
 |some x=>rw[hx]at h;exact⟨x,rfl,h⟩
def jkR {α U:Type} {f:α->U} {cs:List α} {j:Nat} {x:α} {d:U} (h:cs[j]?=some x):(cs.map f).getD j d=f x:=by
 rw[qJ,zR,h];rfl
def jkS {z c:C} {cs:List C} {j:Nat} {p:Prop} (h:selC z cs j=some (p,c)) (hp:p):cs[j]?=some c:=by
 unfold selC at h;split at h
 ·rename_i k _;cases h;obtain⟨x,hx,hk⟩:=jkQ hp;unfold ivs;rw[hx,jkR hx];unfold ikC at hk;split at hk
  ·rename_i k' n;have:=of_decide_eq_true hk;subst this;rfl
  ·cases hk
 ·cases h;obtain⟨x,hx,hk⟩:=jkQ hp;unfold bvs;rw[hx,jkR hx];unfold bkC at hk;split at hk
  ·rfl
  ·cases hk
 ·cases h;obtain⟨x,hx,hk⟩:=jkQ hp;unfold svs;rw[hx,jkR hx];unfold skC at hk;split at hk
  ·rfl
  ·cases hk
 ·cases h
def jpf {cs:List C}:∀{z l:List C} {j:Nat} {p:Prop},jpc cs z j=some (p,l)->p->l.length=z.length∧∀m,m<z.length->cs[j+m]?=l[m]?
 |[],l,j,p,h,hp=>by
  simp only[jpc,zj,qp]at h;obtain⟨_,rfl⟩:=h;exact⟨rfl,fun m hm=>absurd hm (Nat.not_lt_zero _)⟩
 |z::r,l,j,p,h,hp=>by
  simp only[jpc]at h;split at h
  ·rename_i p1 c hc;split at h
   ·cases h;refine⟨rfl,fun m hm=>?_⟩;have:m=0:=by simp only[zB,List.length_nil]at hm;omega
    subst this;rw[xH,jkS hc hp];rfl
   ·split at h
    ·rename_i q l' hl;cases h;have ih:=jpf hl hp.2;refine⟨by simp only[zB,ih.1],fun m hm=>?_⟩;cases m with
     |zero=>rw[xH,jkS hc hp.1];rfl
     |succ m =>
      have:=ih.2 m (by simpa using hm);rw[Nat.add_right_comm,xL]at this;rw[this];rfl
    ·cases h
  ·cases h
def jrV {t:qI} {cs:List C} {j:Nat} {p:Prop} {v:V} (h:selW P t cs j=some (p,v)) (hp:p):jcN P t cs j=some v:=by
 unfold selW at h;unfold jcN;split at h
 ·rename_i z ha hs hz;split at h
  ·rename_i q c hc;cases h;rw[ha,hs];simp only[jkS hc hp];rfl
  ·cases h
 ·rename_i sz z ha hs hz;split at h
  ·rename_i e1 e2;have e1:=zi e1;have e2:=zQ e2;split at h
   ·rename_i q l hl;cases h;obtain⟨h1,h2⟩:=jpf hl hp;rw[ha,hs]
    have hle:j+sz<=cs.length:=by
     have h3:=h2 (sz-1) (by omega)
     have h4:l[sz-1]?≠none:=fun e=>by
      have:=gI.1 e;omega
     rw[<-h3]at h4;have h5:¬cs.length<=j+(sz-1):=fun e=>h4 (gI.2 e);omega
    have hl:(cs.drop j).take sz=l:=by
     apply xA;intro m
     by_cases hm:m<sz
     ·rw[List.getElem?_take_of_lt hm,yA,h2 m (by omega)]
     ·rw[z7 (by rw[xn];omega),z7 (by omega)]
    simp only[hle,if_true,hl]
   ·cases h
  ·cases h
 ·cases h
def jxH {t:qI} {cs:List C} {i e j:Nat} {p:Prop} {v:V} (h:jmG P t cs e j=some (p,v)) (hp:p):jcN P t cs (i*e+j)=some v:=by
 unfold jmG at h;split at h
 ·split at h
  ·rename_i x hx;cases h;rw[Nat.mul_zero,qa];exact jrV hx hp
  ·cases h
 ·cases h
def jrW {t:qI} {h i e j:Nat} {o:O} {ob:Prop} {v:V} (hh:HRel I B hp nx w) (hf:find hp h=some o)
  (hv:jpd P t o i e j=some (ob,v)) (ho:ob) :
  (jX t ⟨(base (I h)).block,(base (I h)).off+(i*e+j),none⟩).run P w=.ok (v.val I) w∧v.lt nx:=by
 obtain⟨hlt,hol,hok⟩:=hh.ok h o hf
 have key:∀c:Cont,o.cont=some c->jaH w (I h) c∨(∃g cap cur ty,I h=.slice (some ⟨g,0,none⟩) c.n cap∧w.heap[g]?=some (.cells cur ty (0,0))∧cur.toList.take (c.n*c.e)=c.flat.map D.val)∨c.n=0:=by
  intro c hc;cases o with
  |ext c'=>simp[O.cont]at hc;subst hc;exact .inl hok.1
  |view r c' _=>simp[O.cont]at hc;subst hc;exact .inl hok.1
  |sub _ _ _ _ _ c'=>simp[O.cont]at hc;subst hc;exact .inl (jd4 hok.1)
  |fext c'=>simp[O.cont]at hc;subst hc;exact .inl hok.1
  |row ty c' =>
   simp[O.cont]at hc;subst hc;rcases hok.1.2 with ⟨_,hn⟩|⟨g,cap,cur,h1,h2,h3,h4,h5,h6,h7⟩
   ·exact .inr (.inr hn)
   ·exact .inr (.inl ⟨g,cap,cur,ty,h1,h3,h7⟩)
  |_=>simp[O.cont]at hc
 have cellsA:∀c:Cont,o.cont=some c->∀i,i<c.n->∀m,m<c.e->w.cell? ⟨(base (I h)).block,(base (I h)).off+(i*c.e+m),none⟩=some (c.cell i m).val:=by
  intro c hc i hi m hm;have hg:=c.flat_get hi hm;rcases key c hc with ⟨a',cap,hs,_,hx⟩|⟨g,cap,cur,ty,hs,hheap,htk⟩|hn
  ·obtain⟨b,off,rfl,hx'⟩:=hx (by omega);rw[hs];exact hx' _ _ hg
  ·rw[hs];simp only[base,qa];rw[xP w g _ cur ty (0,0) hheap];have h2:(cur.toList.take (c.n*c.e))[i*c.e+m]?=some (c.cell i m).val:=by rw[htk,zR,hg];rfl
   rw[qg]at h2;split at h2
   ·simpa using h2
   ·cases h2
  ·omega
 have cells:=fun c hc=>cellsA c hc i
 have boxy:∀(cs:List C) (ag:Bool) (sz:Nat),jbz P t=some ag->szT P t=some sz->(∀x∈cs,C.lt nx x) -> (∀m c,cs[m]?=some c->w.cell? ⟨(base (I h)).block,(base (I h)).off+m,none⟩=some (c.val I)) -> (match ag with|true=>if i*e+j+sz<=cs.length then some (True,V.w (.a ((cs.drop (i*e+j)).take sz)))else none|false=>(cs[i*e+j]?).map fun c=>(True,V.w (.c c)))=some (True,v) ->
   (jX t ⟨(base (I h)).block,(base (I h)).off+(i*e+j),none⟩).run P w=.ok (v.val I) w∧v.lt nx:=by
  intro cs ag sz hag hsz hol hcell hv;split at hv
  ·split at hv
   ·rename_i hle;cases hv;refine⟨?_,fun x hx=>hol x (jt (yD hx))⟩;have hlen:(((cs.drop (i*e+j)).take sz).map (C.val I)).length=sz:=by simp;omega
    refine jcm w hag (by rw[hlen];exact hsz) ?_;intro m u hm;rw[jaT,xL];rw[zR,qg]at hm;split at hm
    ·rw[yA]at hm;obtain⟨c,hc,rfl⟩:=z4.1 hm;exact hcell _ _ hc
    ·cases hm
   ·cases hv
  ·cases hc:cs[i*e+j]? with
   |none=>simp[hc]at hv
   |some c =>
    simp[hc]at hv;obtain⟨_,rfl⟩:=hv;exact⟨jaS w hag (hcell _ _ hc),hol c (yh hc)⟩
 have boxSel:∀{cs:List C} {ag:Bool} {sz:Nat},jbz P t=some ag->szT P t=some sz -> (match jmG P t cs e j with|some x=>some x|none=>match ag with|true=>if i*e+j+sz<=cs.length then some (True,V.w (.a ((cs.drop (i*e+j)).take sz)))else none|false=>(cs[i*e+j]?).map fun c=>(True,V.w (.c c)))=some (ob,v)->ob ->
   (match ag with
     |true=>if i*e+j+sz<=cs.length then some (True,V.w (.a ((cs.drop (i*e+j)).take sz)))else none
     |false=>(cs[i*e+j]?).map fun c=>(True,V.w (.c c)))=some (True,v):=by
  intro cs ag sz hag hsz hv ho;split at hv
  ·rename_i x hx;cases hv;have hpw:=jxH (i:=i) hx ho;unfold jcN at hpw;rw[hag,hsz]at hpw;cases ag with
   |true =>
    dsimp only at hpw ⊢;split at hpw
    ·rename_i hle;cases hpw;rw[if_pos hle]
    ·cases hpw
   |false =>
    dsimp only at hpw ⊢;cases hc:cs[i*e+j]? with
    |none=>rw[hc]at hpw;cases hpw
    |some c=>rw[hc]at hpw;cases hpw;rfl
  ·cases ag with
   |true =>
    dsimp only at hv ⊢;split at hv
    ·rename_i hle;cases hv;rw[if_pos hle]
    ·cases hv
   |false =>
    dsimp only at hv ⊢;cases hc:cs[i*e+j]? with
    |none=>rw[hc]at hv;cases hv
    |some c=>rw[hc]at hv;cases hv;rfl
 unfold jpd at hv;split at hv
 ·rename_i ag sz hag hsz;split at hv
  ·-- a box
   rename_i ty cs;obtain⟨k,h1,_,h3⟩:=hok;refine boxy cs ag sz hag hsz hol ?_ (boxSel hag hsz hv ho);intro m c hc;rw[h1];simp only[base,qa];rw[xP w k _ _ ty (0,0) h3];simp[hc]
  ·-- a box that came in
   rename_i cs;obtain⟨k,o,h1,_,h3⟩:=hok;refine boxy cs ag sz hag hsz hol ?_ (boxSel hag hsz hv ho);intro m c hc;rw[h1];exact h3 m c hc
  ·-- an array of floats
   rename_i ty E x;obtain⟨g,h1,_,h3⟩:=hok
   have hcell:∀m,m<E->w.cell? ⟨(base (I h)).block,(base (I h)).off+m,none⟩=some (x.el m).val:=by
    intro m hm;rw[h1];simp only[base,qa];rw[xP w g _ _ ty (0,0) h3];simp[arD,hm]
   split at hv
   ·split at hv
    ·rename_i e1 e2;cases hv;have e1:=zi e1;have e2:=zi e2;subst e1;rw[e2];refine⟨jg3 (I:=I) hag hsz fun m hm=>?_,trivial⟩;rw[jaT,xH];exact hcell m hm
    ·cases hv
   ·cases hv;exact⟨jaS w hag (hcell _ ho),trivial⟩
  ·-- a content with lists within
   rename_i sh l;obtain⟨a',cap,hs,_,hx⟩:=jd5 hok rfl;split at hv
   ·cases hv
   ·rename_i hagf
    have gen:∀(x:D) (kk:NK),zF e sh.length=true->sh[j]?=some kk->i<l.length->(kk.norm ((l.getD i []).getD j (.d (.v zJ))))=.d x ->
      (jX t ⟨(base (I h)).block,(base (I h)).off+(i*e+j),none⟩).run P w=.ok x.val w:=by
     intro x kk he hj hi hn;have he:=zi he;subst he;have hjl:j<sh.length:=(zC.1 hj).1;obtain⟨b,off,rfl,hcell⟩:=hx (show 0<(XC.st sh l).n from ji (xE _) hi);obtain⟨u,hu,hux⟩:=hcell i j hi hjl;rw[hs]
     have hk:(XC.cell (.st sh l) i j)=.d x:=by
      simp only[XC.cell,qJ,hj,z9];simpa [qJ]using hn
     rw[hk]at hux;have hux:u=x.val:=hux;subst hux;exact jaS w hag hu
    split at hv
    ·rename_i e1 e2;cases hv;exact⟨gen _ _ e1 e2 ho rfl,trivial⟩
    ·rename_i e1 e2;cases hv;exact⟨gen _ _ e1 e2 ho rfl,trivial⟩
    ·rename_i e1 e2;cases hv;exact⟨gen _ _ e1 e2 ho rfl,trivial⟩
    ·rename_i e1 e2;cases hv;exact⟨gen _ _ e1 e2 ho rfl,trivial⟩
    ·cases hv
  ·cases hv
  ·-- an own one
   rename_i ty sh l;obtain⟨a',cap,hs,_,hx⟩:=jd5 hok rfl;split at hv
   ·cases hv
   ·rename_i hagf
    have gen:∀(x:D) (kk:NK),zF e sh.length=true->sh[j]?=some kk->i<l.length->(kk.norm ((l.getD i []).getD j (.d (.v zJ))))=.d x ->
      (jX t ⟨(base (I h)).block,(base (I h)).off+(i*e+j),none⟩).run P w=.ok x.val w:=by
     intro x kk he hj hi hn;have he:=zi he;subst he;have hjl:j<sh.length:=(zC.1 hj).1;obtain⟨b,off,rfl,hcell⟩:=hx (show 0<(XC.st sh l).n from ji (xE _) hi);obtain⟨u,hu,hux⟩:=hcell i j hi hjl;rw[hs]
     have hk:(XC.cell (.st sh l) i j)=.d x:=by
      simp only[XC.cell,qJ,hj,z9];simpa [qJ]using hn
     rw[hk]at hux;have hux:u=x.val:=hux;subst hux;exact jaS w hag hu
    split at hv
    ·rename_i e1 e2;cases hv;exact⟨gen _ _ e1 e2 ho rfl,trivial⟩
    ·rename_i e1 e2;cases hv;exact⟨gen _ _ e1 e2 ho rfl,trivial⟩
    ·rename_i e1 e2;cases hv;exact⟨gen _ _ e1 e2 ho rfl,trivial⟩
    ·rename_i e1 e2;cases hv;exact⟨gen _ _ e1 e2 ho rfl,trivial⟩
    ·cases hv
  ·cases hv
  ·-- an own one with rows of its own
   rename_i ty ts sh l;obtain⟨a',cap,hs,_,hx⟩:=jd5 hok rfl;split at hv
   ·cases hv
   ·rename_i hagf
    have gen:∀(x:D) (kk:NK),zF e sh.length=true->sh[j]?=some kk->i<l.length->(kk.norm ((l.getD i []).getD j (.d (.v zJ))))=.d x ->
      (jX t ⟨(base (I h)).block,(base (I h)).off+(i*e+j),none⟩).run P w=.ok x.val w:=by
     intro x kk he hj hi hn;have he:=zi he;subst he;have hjl:j<sh.length:=(zC.1 hj).1;obtain⟨b,off,rfl,hcell⟩:=hx (show 0<(XC.st sh l).n from ji (xE _) hi);obtain⟨u,hu,hux⟩:=hcell i j hi hjl;rw[hs]
     have hk:(XC.cell (.st sh l) i j)=.d x:=by
      simp only[XC.cell,qJ,hj,z9];simpa [qJ]using hn
     rw[hk]at hux;have hux:u=x.val:=hux;subst hux;exact jaS w hag hu
    split at hv
    ·rename_i e1 e2;cases hv;exact⟨gen _ _ e1 e2 ho rfl,trivial⟩
    ·rename_i e1 e2;cases hv;exact⟨gen _ _ e1 e2 ho rfl,trivial⟩
    ·rename_i e1 e2;cases hv;exact⟨gen _ _ e1 e2 ho rfl,trivial⟩
    ·rename_i e1 e2;cases hv;exact⟨gen _ _ e1 e2 ho rfl,trivial⟩
    ·cases hv
  ·cases hv
  ·cases hv
  ·-- a row
   split at hv
   ·-- of arrays of floats
    rename_i k E l hc;split at hv
    ·split at hv
     ·rename_i e1 e2 e3;cases hv;have e1:=zi e1;have e2:=zi e2;have e3:=zi e3;subst e1 e2 e3;refine⟨jg4 hag hsz fun m hm=>?_,trivial⟩;rw[jaT,xL,xH];exact cells _ hc ho m hm
     ·cases hv
    ·split at hv
     ·rename_i e1;cases hv;have e1:=zi e1;subst e1;exact⟨jaS w hag (cells _ hc ho.1 j ho.2),trivial⟩
     ·cases hv
   ·-- of floats
    rename_i k l hc;split at hv
    ·rename_i e1 e2;have e1:=zi e1;have e2:=zi e2;subst e1 e2;split at hv
     ·cases hv;refine⟨jg4 hag hsz fun m hm=>?_,trivial⟩;have:=cellsA _ hc (i+m) (show i+m<l.length by omega) 0 (by simp[Cont.e]);simp only[Cont.e,jg,xH,Cont.cell]at this;rw[jaT,jg,xH,xL,this];simp only[D.val,qJ,qg,yA,if_pos hm]
     ·cases hv;exact⟨jaS w hag (cells _ hc ho 0 (by simp[Cont.e])),trivial⟩
    ·cases hv
   ·rename_i c _ _ hc;split at hv
    ·split at hv
     ·rename_i he;obtain⟨rfl,hle⟩:=he;cases hv;refine⟨?_,fun x hx=>by obtain⟨_,_,rfl⟩:=qn.1 hx;trivial⟩;refine jcm w hag (by simpa using hsz) ?_;intro m u hm;simp only[zR,z4]at hm;obtain⟨x,⟨y,hy,rfl⟩,rfl⟩:=hm;have hy2:=zC.1 hy;obtain⟨hlt2,hy3⟩:=hy2;simp at hlt2 hy3;subst hy3;rw[jaT,xL,xL];exact cells c hc ho (j+m) (by omega)
     ·cases hv
    ·split at hv
     ·rename_i he;obtain⟨rfl,hle⟩:=he;cases hv;exact⟨jaS w hag (cells c hc ho j hle),trivial⟩
     ·cases hv
   ·cases hv
 ·cases hv
def jtI (I:Env) (off:Nat):∀(vs:List C) (n:Nat) (cs:List C),
  (((vs.zipIdx n).foldl (fun cs (c,j)=>cs.set (off+j) c) cs).map (C.val I)).toArray =
   (((vs.map (C.val I)).zipIdx n).foldl (fun(cs:Array zs) (c,j)=>cs.setIfInBounds (off+j) c) (cs.map (C.val I)).toArray)
 |[],_,_=>rfl
 |v::vs,n,cs=>by
  simp only[hZ,gx,zL];rw[jtI I off vs (n+1) (cs.set (off+n) v)]
  congr 1
  apply xf;simp[List.map_set]
def jy8 {a:Option gH} {n c:Nat}:(zx a n c).oneCell'=true:=rfl
def C.one_val {c:C} (hh:HRel I B hp nx w) (h:c.one hp=true):(c.val I).oneCell'=true:=by
 cases c with
 |d x=>exact D.one_val h
 |p=>rfl
 |fn=>rfl
 |g=>rfl
 |o k =>
  simp only[C.one]at h;simp only[C.val];cases hf:find hp k with
  |none=>simp[hf]at h
  |some o =>
   have hok:=(hh.ok k o hf).2.2;cases o with
   |dead=>simp[hf]at h
   |err=>obtain⟨t,p,h1⟩:=hok;rw[h1];rfl
   |atom=>exact hok
   |box ty cs=>obtain⟨g,h1,_⟩:=hok;rw[h1];rfl
   |row ty c =>
    rcases hok.1.2 with ⟨h1,_⟩|⟨g,cap,cur,h1,_⟩<;>rw[h1]<;>rfl
   |ext c=>obtain⟨⟨_,_,h1,_⟩,_⟩:=hok;rw[h1];rfl
   |view r c _=>obtain⟨⟨_,_,h1,_⟩,_⟩:=hok;rw[h1];rfl
   |nan k=>obtain⟨_,h1,_⟩:=hok;rw[h1];rfl
   |ebox cs=>obtain⟨_,_,h1,_⟩:=hok;rw[h1];rfl
   |arr _ _ _=>obtain⟨_,h1,_⟩:=hok;rw[h1];rfl
   |xext X=>obtain⟨_,_,h1,_⟩:=hok;rw[h1];rfl
   |sub _ _ _ _ _ c=>obtain⟨_,_,h1,_⟩:=jd4 hok.1;rw[h1];rfl
   |mrow ty ts X ho =>
    obtain⟨us,hr,_⟩:=hok;rcases hr.2 with ⟨h1,_⟩|⟨g,cap,cur,h1,_⟩<;>rw[h1]<;>rfl
   |trow ty ts X m =>
    obtain⟨us,hr,_⟩:=hok;rcases hr.2 with ⟨h1,_⟩|⟨g,cap,cur,h1,_⟩<;>rw[h1]<;>rfl
   |fext c=>obtain⟨⟨_,_,h1,_⟩,_⟩:=hok;rw[h1];rfl
   |xrow ty X=>obtain⟨a,cap,h1,_⟩:=jd5 (X:=X) hok rfl;rw[h1];rfl
def jtJ {v:zs} (h:v.oneCell'=true):v.cells=#[v]:=by cases v<;>first|rfl|simp[Value.oneCell']at h
def W.cells_val {x:W} (hh:HRel I B hp nx w) (h:x.one hp=true):(x.val I).cells=(x.cells.map (C.val I)).toArray:=by
 cases x with
 |c c=>simp only[W.val,W.cells,zL,List.map_nil];exact jtJ (C.one_val hh h)
 |a l=>rfl
 |b e x=>simp only[W.val,W.cells,xV];rfl
def W.cells_lt {x:W} {n:Nat} (h:x.lt n):∀c∈x.cells,C.lt n c:=by
 cases x with
 |c c=>intro d hd;simp only[W.cells,z6]at hd;subst hd;exact h
 |a l=>exact h
 |b e x=>intro c hc;obtain⟨_,_,rfl⟩:=qn.1 hc;trivial
def jno {n:Nat} (off:Nat):∀(vs:List C) (m:Nat) (cs:List C),(∀c∈vs,C.lt n c)->(∀c∈cs,C.lt n c) -> (∀c∈(vs.zipIdx m).foldl (fun cs (c,j)=>cs.set (off+j) c) cs,C.lt n c)∧((vs.zipIdx m).foldl (fun cs (c,j)=>cs.set (off+j) c) cs).length=cs.length
 |[],_,cs,_,h=>⟨h,rfl⟩
 |v::vs,m,cs,hv,h=>by
  simp only[hZ,gx]
  have:=jno off vs (m+1) (cs.set (off+m) v) (fun c hc=>hv c (zu _ hc)) (fun c hc=>by
   rcases List.mem_or_eq_of_mem_set hc with h1|h1
   ·exact h c h1
   ·subst h1;exact hv _ zw)
  exact⟨this.1,by rw[this.2];simp⟩
def jd7 (place:Nat->Option (Nat × Nat)) (hh:HRel I B hp nx w):∀(parts:List (Nat × W)) (cells out:List C),jdx place cells parts=some out -> (∀x∈parts,x.2.one hp=true∧x.2.lt nx)->(∀c∈cells,C.lt nx c) -> fJ place (cells.map (C.val I)).toArray (parts.map fun x=>(x.1,x.2.val I))=some (out.map (C.val I)).toArray∧(∀c∈out,C.lt nx c)∧out.length=cells.length
 |[],cells,out,h,_,hc=>by
  simp only[jdx,zj]at h;subst h;exact⟨rfl,hc,rfl⟩
 |(i,v)::rest,cells,out,h,hp',hc=>by
  simp only[jdx]at h;have hv:=hp' (i,v) zw;have hcv:=W.cells_val (x:=v) hh hv.1;cases hpl:place i with
  |none=>simp[hpl]at h
  |some p =>
   obtain⟨off,size⟩:=p;simp only[hpl]at h;split at h
   ·rename_i hle;have hf:=jno (n:=nx) off v.cells 0 cells (W.cells_lt hv.2) hc;have ih:=jd7 place hh rest _ out h (fun x hx=>hp' x (zu _ hx)) hf.1;refine⟨?_,ih.2.1,by rw[ih.2.2,hf.2]⟩;simp only[zL,fJ,hpl];have hs:(v.val I).cells.size=v.cells.length:=by rw[hcv];simp
    rw[hs,if_neg (by simp[hle.1];omega)];rw[<-ih.1]
    congr 1
    rw[hcv,jtI,<-Array.foldl_toList]
    congr 1
    simp
   ·cases h
def jdG (hr:jaB I nx rd a):∀(ps:List (Nat × zZ)) (l:List (Nat × W)),jcB rd hp ps=some l -> ps.map (fun x=>(x.1,a.eval x.2))=l.map (fun x=>(x.1,x.2.val I))∧∀x∈l,x.2.one hp=true∧x.2.lt nx
 |[],l,h=>by simp only[jcB,zj]at h;subst h;exact⟨rfl,fun _ h=>by cases h⟩
 |(i,x)::r,l,h=>by
  simp only[jcB]at h;split at h
  ·rename_i v l' hx hl;split at h
   ·rename_i hone;cases h;have ih:=jdG hr r l' hl;have h1:=hr x _ hx;refine⟨by simp only[zL,ih.1,h1.2,V.val],fun y hy=>?_⟩;rcases qr.1 hy with rfl|hy
    ·exact⟨hone,h1.1⟩
    ·exact ih.2 y hy
   ·cases h
  ·cases h
def jaX {t:qI} {z:List C} (h:jaA P t=some z):∃v,(yH t).run P w=.ok v w∧v.cells=(z.map (C.val I)).toArray∧∀n,∀c∈z,C.lt n c:=by
 unfold jaA at h;cases hi:P.info? t with
 |none=>simp[hi]at h
 |some i =>
  cases hz:i.zero with
  |none=>simp[hi,hz]at h
  |some v =>
   simp[hi,hz]at h;subst h;refine⟨v,by simp[yH,yX,hi,hz],?_,fun n c hc=>?_⟩
   ·apply xf;simp[xS,jjj]
   ·obtain⟨y,_,rfl⟩:=qn.1 hc;exact jkN n y
def jpg:∀(fs:List Field) (l:List (Nat × Nat)),(jdQ P fs).mapM id=some l -> (fs.mapM (m:=Sem) fun f=>do pure (f.offset,<-sizeOf f.type)).run P w=.ok l w
 |[],l,h=>by simp[jdQ]at h;subst h;simp
 |f::fs,l,h=>by
  simp only[jdQ,zL,fm,id]at h;cases hs:szT P f.type with
  |none=>simp[hs]at h
  |some s =>
   cases hm:(jdQ P fs).mapM id with
   |none=>simp only[jdQ]at hm;simp[hs,hm]at h
   |some l' =>
    have ih:=jpg fs l' hm;simp only[jdQ]at hm;simp[hs,hm]at h;subst h;simp only[fm,zq,jaR w hs,zn,zt,ih]
def jy9 {t:qI} {parts:List (Nat × W)} {out:List C} (hh:HRel I B hp nx w) (h:jpe P t parts=some out) (hp':∀x∈parts,x.2.one hp=true∧x.2.lt nx) :
  (kc t (parts.map fun x=>(x.1,x.2.val I)).toArray).run P w=.ok (.agg (out.map (C.val I)).toArray) w∧∀c∈out,C.lt nx c:=by
 unfold jpe at h;split at h
 ·rename_i z fs hz hu;obtain⟨v,hv,hvc,hlt⟩:=jaX (P:=P) (w:=w) (I:=I) hz;split at h
  ·rename_i l hl;have hf:=jd7 (I:=I) _ hh parts z out h hp' (hlt nx);refine⟨?_,hf.2.1⟩;have hpl:=jpg (P:=P) (w:=w) fs.toList l hl;simp only[kc,zq,hv,zn,zX hu,hvc,Array.mapM_eq_mapM_toList,Sem.run_map,hpl];simp only[List.getElem?_toArray,hf.1,zt]
  ·cases h
 ·rename_i z n elem hz hu;obtain⟨v,hv,hvc,hlt⟩:=jaX (P:=P) (w:=w) (I:=I) hz;split at h
  ·rename_i size hs;have hf:=jd7 (I:=I) _ hh parts z out h hp' (hlt nx);refine⟨?_,hf.2.1⟩;simp only[kc,zq,hv,zn,zt,zX hu,hvc,jaR w hs,hf.1]
  ·cases h
 ·cases h
def jhN (hh:HRel I B hp nx w) (hr:jaB I nx rd a):∀(xs:List zZ) (l:List Nat),jim rd hp xs=some l->xs.map a.eval=l.map I∧∀h∈l,h<nx
 |[],l,h=>by simp only[jim,zj]at h;subst h;exact⟨rfl,fun _ h=>by cases h⟩
 |x::r,l,h=>by
  simp only[jim]at h;split at h
  ·rename_i k e l' hx hl;split at h
   ·rename_i ty cs hf;cases h;have ih:=jhN hh hr r l' hl;have h1:=(hr x _ hx).2;obtain⟨hlt,_,g,hk,_⟩:=hh.ok k _ hf;refine⟨?_,fun y hy=>?_⟩
    ·simp only[zL,ih.1,h1];simp only[cell_val,C.val,hk,base,yd,xH]
    ·rcases qr.1 hy with rfl|hy
     ·exact hlt
     ·exact ih.2 y hy
   ·rename_i cs hf;cases h;have ih:=jhN hh hr r l' hl;have h1:=(hr x _ hx).2;obtain⟨hlt,_,g,o,hk,_⟩:=hh.ok k _ hf;refine⟨?_,fun y hy=>?_⟩
    ·simp only[zL,ih.1,h1];simp only[cell_val,C.val,hk,base,yd,xH]
    ·rcases qr.1 hy with rfl|hy
     ·exact hlt
     ·exact ih.2 y hy
   ·cases h
  ·cases h
def jjm (hr:jaB I nx rd a):∀(xs:List zZ) (l:List (IntKind × Int)),jin rd xs=some l->xs.map a.eval=l.map fun x=>.int x.1 x.2
 |[],l,h=>by simp only[jin,zj]at h;subst h;rfl
 |x::r,l,h=>by
  simp only[jin]at h;split at h
  ·rename_i v l' hx hl;cases hv:v.int? with
   |none=>simp[hv]at h
   |some p =>
    obtain⟨k,n⟩:=p;simp[hv]at h;subst h;have h1:=(hr x _ hx).2;rw[V.int?_eq hv]at h1;simp only[zL,jjm hr r l' hl,h1,vi_val]
  ·cases h
def jtK:∀(l:List (IntKind × Int)) (k:IntKind) (n:Int) (v:V),jqD k n l=some v -> ((l.map fun x=>x9 x.1 x.2).foldlM kE (.int k n)).run P w=.ok (v.val I) w∧∀m,v.lt m
 |[],k,n,v,h=>by simp only[jqD,zj]at h;subst h;exact⟨rfl,fun _=>trivial⟩
 |(k',b)::r,k,n,v,h=>by
  simp only[jqD]at h;split at h
  ·rename_i hk;subst hk;have ih:=jtK r k _ v h;refine⟨?_,ih.2⟩;simp only[zL,fY,kE,zq,zt,zn];exact ih.1
  ·cases h
def jtL:∀(l:List (IntKind × Int)) (k:IntKind) (n:Int) (v:V),jqE k n l=some v -> ((l.map fun x=>x9 x.1 x.2).foldlM kF (.int k n)).run P w=.ok (v.val I) w∧∀m,v.lt m
 |[],k,n,v,h=>by simp only[jqE,zj]at h;subst h;exact⟨rfl,fun _=>trivial⟩
 |(k',b)::r,k,n,v,h=>by
  simp only[jqE]at h;split at h
  ·rename_i hk;subst hk;have ih:=jtL r k _ v h;refine⟨?_,ih.2⟩;simp only[zL,fY,kF,zq,zt,zn];exact ih.1
  ·cases h
def jza {src dst:qI} {v:V} {ob:Prop} {u:V} (h:jxD P src dst v=some (ob,u)) (ho:ob) :
  (convert src dst (v.val I)).run P w=.ok (u.val I) w∧∀n,u.lt n:=by
 unfold jxD at h;split at h
 ·rename_i hs hd hv;cases h;rw[V.int?_eq hv];refine⟨?_,fun _=>trivial⟩;simp[convert,zX hs,zX hd,Conv.intToInt]
 ·rename_i hs hd hv;cases h;rw[V.int?_eq hv];refine⟨?_,fun _=>trivial⟩;simp[convert,zX hs,zX hd,Conv.intToFloat]
 ·rename_i s b hs hd hv;cases h;rw[V.flt?_eq hv];refine⟨?_,fun _=>trivial⟩;simp only[vf_val,convert,zq,zX hs,zX hd,zn,Conv.floatToInt];unfold jbR at ho;split at ho
  ·rename_i n hi;have ho:=of_decide_eq_true ho;simp[hi,ho,f2i]
  ·cases ho
 ·cases h
def jxI {o:qu} {ob:Prop} {v:V} (hh:HRel I B hp nx w) (hr:jaB I nx rd a) (h:jio P o.op rd hp=some (ob,v)) (ho:ob) :
  (xg a.eval o).run P w=.ok (.value (v.val I)) w∧v.lt nx:=by
 unfold jio at h;unfold xg;split at h<;>rename_i hop<;>simp only[hop]
 ·-- move
  rename_i x;cases hx:rd x with
  |none=>simp[hx]at h
  |some u=>simp[hx]at h;obtain⟨_,rfl⟩:=h;have:=hr _ _ hx;simp[this]
 ·rename_i x;cases hx:rd x with
  |none=>simp[hx]at h
  |some u=>simp[hx]at h;obtain⟨_,rfl⟩:=h;have:=hr _ _ hx;simp[this]
 ·-- pick
  rename_i c x y;cases hc:rd c with
  |none=>simp[hc]at h
  |some cv =>
   cases hb:cv.bool? with
   |none=>simp[hc,hb]at h
   |some b =>
    have h1:=hr _ _ hc;rw[V.bool?_eq hb]at h1;cases b
    ·simp only[hc,hb,zV]at h;cases hx:rd y with
     |none=>simp[hx]at h
     |some u=>simp[hx]at h;obtain⟨_,rfl⟩:=h;have:=hr _ _ hx;simp[h1.2,asBool,this]
    ·simp only[hc,hb,zV]at h;cases hx:rd x with
     |none=>simp[hx]at h
     |some u=>simp[hx]at h;obtain⟨_,rfl⟩:=h;have:=hr _ _ hx;simp[h1.2,asBool,this]
 ·-- binOp
  rename_i op t x y yt;split at h
  ·rename_i u u' hx hy;have h1:=hr _ _ hx;have h2:=hr _ _ hy;split at h
   ·rename_i k n k' n' hu hu';rw[V.int?_eq hu]at h1;rw[V.int?_eq hu']at h2;have:=jxE (P:=P) w (t:=t) h ho I;refine⟨?_,this.2 _⟩;simp only[h1.2,h2.2,vi_val,zq]
    have hg:(jx op t x y (x9 k n) (x9 k' n')).run P w=.ok () w:=by
     cases op<;>simp[jx]
    simp[hg,this.1]
   ·split at h
    ·rename_i b b' hu hu';rw[V.bool?_eq hu]at h1;rw[V.bool?_eq hu']at h2;split at h
     ·rename_i ht;have:=jvW (P:=P) w (t:=t) h ht I;refine⟨?_,this.2 _⟩;simp only[h1.2,h2.2,vb_val,zq]
      have hg:(jx op t x y (kq b) (kq b')).run P w=.ok () w:=by
       cases op<;>simp[jx]
      simp[hg,this.1]
     ·cases h
    ·split at h
     ·rename_i b b' hu hu';rw[V.str?_eq hu]at h1;rw[V.str?_eq hu']at h2;have:=jxG (P:=P) w (t:=t) h I;refine⟨?_,this.2 _⟩;simp only[h1.2,h2.2,vs_val,zq]
      have hg:(jx op t x y (kG b) (kG b')).run P w=.ok () w:=by
       cases op<;>simp[jx]
      simp[hg,this.1]
     ·split at h
      ·rename_i k n k' n' hu hu';rw[V.flt?_eq hu]at h1;rw[V.flt?_eq hu']at h2;have:=jxF (P:=P) w (t:=t) h ho I;refine⟨?_,this.2 _⟩;simp only[h1.2,h2.2,vf_val,zq]
       have hg:(jx op t x y (yW k n) (yW k' n')).run P w=.ok () w:=by
        cases op<;>simp[jx]
       simp[hg,this.1]
      ·split at h
       ·rename_i xs ys hxs hys hgt;rw[V.agg?_eq hxs]at h1;rw[V.agg?_eq hys]at h2
        have hg:(jx op t x y ((V.w (.a xs)).val I) ((V.w (.a ys)).val I)).run P w=.ok () w:=by
         rw[agg_val,agg_val];exact run_eqGuard_agg w op t x y _ _ hgt
        split at h
        ·cases he:eqV P 16 t (.w (.a xs)) (.w (.a ys))with
         |none=>simp[he]at h
         |some b =>
          simp[he]at h;obtain⟨_,rfl⟩:=h;refine⟨?_,trivial⟩;have:=jmI (I:=I) (w:=w) 9984 16 t _ _ b he h1.1 h2.1;simp only[h1.2,h2.2,zq,hg,zn];rw[agg_val,agg_val]at this ⊢;simp only[run_eql_struct,this,zn];rfl
        ·cases he:eqV P 16 t (.w (.a xs)) (.w (.a ys))with
         |none=>simp[he]at h
         |some b =>
          simp[he]at h;obtain⟨_,rfl⟩:=h;refine⟨?_,trivial⟩;have:=jmI (I:=I) (w:=w) 9984 16 t _ _ b he h1.1 h2.1;simp only[h1.2,h2.2,zq,hg,zn];rw[agg_val,agg_val]at this ⊢;simp only[run_neq_struct,this,zn];rfl
        ·cases h
       ·cases h
  ·cases h
 ·-- unOp
  rename_i op t x;split at h
  ·rename_i u hx;have h1:=hr _ _ hx;cases hb:u.bool? with
   |none=>simp[hb]at h
   |some b =>
    simp[hb]at h;obtain⟨_,rfl⟩:=h;rw[V.bool?_eq hb]at h1;simp[h1.2,Op.unary];trivial
  ·rename_i u hx;have h1:=hr _ _ hx;cases hb:u.int? with
   |none=>simp[hb]at h
   |some p =>
    obtain⟨k,n⟩:=p;simp[hb]at h;obtain⟨_,rfl⟩:=h;rw[V.int?_eq hb]at h1;simp[h1.2,Op.unary,kN];trivial
  ·cases h
 ·-- convert
  rename_i src dst x;cases hx:rd x with
  |none=>simp[hx]at h
  |some u =>
   simp only[hx,zV]at h;have:=jza (w:=w) (I:=I) h ho;refine⟨?_,this.2 _⟩;simp[(hr _ _ hx).2,this.1]
 ·-- extract
  rename_i t i;split at h
  ·rename_i l hx;have h1:=hr _ _ hx;cases hi:l[i]? with
   |none=>simp[hi]at h
   |some u =>
    simp[hi]at h;obtain⟨_,rfl⟩:=h;refine⟨?_,h1.1 u (yh hi)⟩;simp[h1.2,V.val,Instr.extract,hi]
  ·cases h
 ·-- field
  rename_i t x f;split at h
  ·rename_i fs cs hu hx;cases hrx:rd x with
   |none=>simp[hrx]at hx
   |some u =>
    simp only[hrx,zV]at hx;have h1:=hr _ _ hrx;rw[V.agg?_eq hx]at h1;split at h
    ·rename_i g hg;cases hpw:jcN P g.type cs g.offset with
     |none=>simp[hpw]at h
     |some u2 =>
      simp[hpw]at h;obtain⟨_,rfl⟩:=h;have hp2:=jd6 (w:=w) (I:=I) hpw h1.1;refine⟨?_,hp2.2⟩;simp only[h1.2,agg_val,Instr.field,zq,zX hu,zn];rw[fh]at hg;simp[hg,asAgg,hp2.1]
    ·cases h
  ·cases h
 ·-- index
  rename_i t x i;split at h
  ·-- a string
   rename_i s0 k n hx hu hi;cases hrx:rd x with
   |none=>simp[hrx]at hx
   |some u =>
    cases hri:rd i with
    |none=>simp[hri]at hi
    |some ui =>
     simp only[hrx,zV]at hx;simp only[hri,zV]at hi;have h1:=hr _ _ hrx;have h2:=hr _ _ hri;rw[V.str?_eq hx]at h1;rw[V.int?_eq hi]at h2;cases h;refine⟨?_,trivial⟩;have hlt:n.toNat<s0.size:=by omega
     simp only[h1.2,h2.2,vs_val,vi_val,ke,jr,zq,zt,zX hu,zn];rw[if_pos ho.1];have hg:s0[n.toNat]?=some (s0[n.toNat]):=by simp[hlt]
     simp only[hg,zt,zn]
     have hd:s0.data.getD n.toNat 0=s0[n.toNat]:=by
      have:n.toNat<s0.data.size:=hlt;rw[Array.getD_eq_getD_getElem?,Array.getElem?_eq_getElem this];rfl
     rw[hd]
  ·cases h
  split at h
  ·rename_i len elem cs k n hu hx hi;cases hrx:rd x with
   |none=>simp[hrx]at hx
   |some u =>
    cases hri:rd i with
    |none=>simp[hri]at hi
    |some ui =>
     simp only[hrx,zV]at hx;simp only[hri,zV]at hi;have h1:=hr _ _ hrx;have h2:=hr _ _ hri;rw[V.agg?_eq hx]at h1;rw[V.int?_eq hi]at h2;split at h
     ·rename_i size hs
      obtain⟨hpw,ho⟩:jcN P elem cs (n.toNat*size)=some v∧(0<=n∧n<(len:Int)):=by
       split at h
       ·rename_i p v' _ hsel;cases h;exact⟨jrV hsel ho.2,ho.1⟩
       ·cases hpw:jcN P elem cs (n.toNat*size)with
        |none=>simp[hpw]at h
        |some u2 =>
         simp only[hpw,qk,zj,qp]at h;obtain⟨rfl,rfl⟩:=h;exact⟨rfl,ho⟩
      ·have hp2:=jd6 (w:=w) (I:=I) hpw h1.1;refine⟨?_,hp2.2⟩;simp only[h1.2,h2.2,agg_val,vi_val,ke,jr,zq,zt,zX hu,zn,ho,and_self,if_true,jaR w hs];simp[hp2.1]
     ·cases h
  ·cases h
 ·-- nilCheck
  rename_i x;split at h
  ·rename_i k i e j hx;cases h;have h1:=hr _ _ hx;refine⟨?_,h1.1⟩;simp[h1.2,C.val]
  ·cases h
 ·-- fieldAddr
  rename_i s x f;split at h
  ·rename_i fs k i e j hu hx;have h1:=hr _ _ hx;split at h
   ·rename_i g hg;split at h
    ·rename_i n hs;cases h;refine⟨?_,h1.1⟩;rw[fh]at hg;simp only[h1.2,cell_val,C.val,Instr.fieldAt,zq,zX hu,zn,hg,xh,zt,fieldPlace,jaR w hs];simp[jaT,xL]
    ·cases h
   ·cases h
  ·cases h
 ·-- indexAddr
  rename_i t x ix;split at h
  ·rename_i len elem k i e j kk n hu hx hix;cases hri:rd ix with
   |none=>simp[hri]at hix
   |some ui =>
    simp only[hri,zV]at hix;have h1:=hr _ _ hx;have h2:=hr _ _ hri;rw[V.int?_eq hix]at h2;split at h
    ·rename_i size hs;split at h
     ·cases h;refine⟨?_,h1.1⟩;simp only[h1.2,h2.2,cell_val,vi_val,C.val,gq,jr,zq,zt,zX hu,zn,xh];simp[ho,jaR w hs,jaT,xL]
     ·cases h;refine⟨?_,h1.1⟩;simp only[h1.2,h2.2,cell_val,vi_val,C.val,gq,jr,zq,zt,zX hu,zn,xh];simp[ho,jaR w hs,jaT,xL]
    ·cases h
  ·rename_i elem k kk n hu hx hix;cases hri:rd ix with
   |none=>simp[hri]at hix
   |some ui =>
    simp only[hri,zV]at hix;have h1:=hr _ _ hx;have h2:=hr _ _ hri;rw[V.int?_eq hix]at h2;split at h
    ·rename_i c size hc hs;split at h
     ·rename_i hsz;cases h;refine⟨?_,h1.1⟩;cases hf:find hp k with
      |none=>simp[hf]at hc
      |some o' =>
       simp only[hf,zV]at hc
       have hrow:∃b off cap,I k=.slice (some ⟨b,off,none⟩) c.n cap:=by
        have hok:=(hh.ok k o' hf).2.2;have hn:0<c.n:=by omega
        cases o' with
        |ext c' =>
         simp[O.cont]at hc;subst hc;obtain⟨⟨a',cap,hs',_,hx'⟩,_⟩:=hok;obtain⟨b,off,rfl,_⟩:=hx' hn;exact⟨b,off,cap,hs'⟩
        |view r c' _ =>
         simp[O.cont]at hc;subst hc;obtain⟨⟨a',cap,hs',_,hx'⟩,_⟩:=hok;obtain⟨b,off,rfl,_⟩:=hx' hn;exact⟨b,off,cap,hs'⟩
        |sub _ _ _ _ _ c' =>
         simp[O.cont]at hc;subst hc;obtain⟨a',cap,hs',_,hx'⟩:=jd4 hok.1;obtain⟨b,off,rfl,_⟩:=hx' hn;exact⟨b,off,cap,hs'⟩
        |fext c' =>
         simp[O.cont]at hc;subst hc;obtain⟨⟨a',cap,hs',_,hx'⟩,_⟩:=hok;obtain⟨b,off,rfl,_⟩:=hx' hn;exact⟨b,off,cap,hs'⟩
        |row ty c' =>
         simp[O.cont]at hc;subst hc;rcases hok.1.2 with ⟨_,hn'⟩|⟨g,cap,cur,h3,_⟩
         ·omega
         ·exact⟨g,0,cap,h3⟩
        |_=>simp[O.cont]at hc
       obtain⟨b,off,cap,hrow⟩:=hrow;simp only[h1.2,h2.2,cell_val,vi_val,C.val,hrow,gq,jr,zq,zt,zX hu,zn,base];simp[ho,jaR w hs,jaT,hsz]
     ·cases h
    ·cases h
  ·cases h
 ·-- load
  rename_i t x;split at h
  ·rename_i k i e j hx;have h1:=hr _ _ hx;split at h
   ·rename_i o' hf;have:=jrW hh hf h ho;refine⟨?_,this.2⟩;simp[h1.2,C.val,jY,xh,this.1]
   ·cases h
  ·cases h
 ·-- build
  rename_i t parts;split at h
  ·rename_i l hl;cases hb:jpe P t l with
   |none=>simp[hb]at h
   |some cs =>
    simp[hb]at h;obtain⟨_,rfl⟩:=h;have hps:=jdG hr parts.toList l hl;have hbr:=jy9 hh hb hps.2;refine⟨?_,hbr.2⟩
    have he:(parts.map fun(i,x)=>(i,a.eval x))=(l.map fun x=>(x.1,x.2.val I)).toArray:=by
     rw[<-hps.1];apply xf;simp
    simp only[he,zq,hbr.1,zn,zt,agg_val]
  ·cases h
 ·-- makeFunc
  rename_i f first captured
  split at h
  ·rename_i hs hfirst hb;cases h;have:=jhN hh hr captured.toList hs hb;refine⟨?_,this.2⟩;have e1:first=#[]:=by apply xf;simpa using hfirst
   have e2:captured.map a.eval=(hs.map I).toArray:=by
    rw[<-this.1];apply xf;simp
   simp[Instr.makeFunc,e1,e2,C.val]
  ·cases h
 ·-- call
  rename_i c;split at h
  ·-- len
   rename_i x t hcal hargs hts;have e1:c.args=#[x]:=by apply xf;simpa using hargs
   have e2:c.argTypes=#[t]:=by apply xf;simpa using hts
   simp only[jy,hcal,e1,e2,zq,zt,zn,gc,builtin];split at h
   ·rename_i el k hu hx;have h1:=hr _ _ hx;cases hc:(find hp k).bind O.cont with
    |none=>simp[hc]at h
    |some c' =>
     simp[hc]at h;obtain⟨_,rfl⟩:=h;cases hf:find hp k with
     |none=>simp[hf]at hc
     |some o' =>
      simp only[hf,zV]at hc
      have hrow:∃a' cap,I k=.slice a' c'.n cap:=by
       have hok:=(hh.ok k o' hf).2.2;cases o' with
       |ext c2=>simp[O.cont]at hc;subst hc;obtain⟨⟨a',cap,hs',_⟩,_⟩:=hok;exact⟨a',cap,hs'⟩
       |view r c2 _=>simp[O.cont]at hc;subst hc;obtain⟨⟨a',cap,hs',_⟩,_⟩:=hok;exact⟨a',cap,hs'⟩
       |sub _ _ _ _ _ c2=>simp[O.cont]at hc;subst hc;obtain⟨a',cap,hs',_⟩:=jd4 hok.1;exact⟨a',cap,hs'⟩
       |fext c2=>simp[O.cont]at hc;subst hc;obtain⟨⟨a',cap,hs',_⟩,_⟩:=hok;exact⟨a',cap,hs'⟩
       |row ty c2 =>
        simp[O.cont]at hc;subst hc;rcases hok.1.2 with ⟨h3,hn'⟩|⟨g,cap,cur,h3,_⟩
        ·rw[hn'];exact⟨_,_,h3⟩
        ·exact⟨_,_,h3⟩
       |_=>simp[O.cont]at hc
      obtain⟨a',cap,hrow⟩:=hrow;refine⟨?_,trivial⟩;simp[h1.2,C.val,hrow,gC,zX hu,goInt]
   ·rename_i u _ hu hx;split at h
    ·rename_i hn;cases h;have h1:=hr _ _ hx;refine⟨?_,trivial⟩
     have hval:u.val I=.slice none 0 0:=by
      unfold V.nils? at hn;split at hn
      ·rfl
      ·cases hn
     simp[h1.2,hval,gC,zX hu,goInt]
    ·cases h
   ·rename_i u hu hx;have h1:=hr _ _ hx;cases hs:u.str? with
    |none=>simp[hs]at h
    |some s =>
     simp[hs]at h;obtain⟨_,rfl⟩:=h;rw[V.str?_eq hs]at h1;refine⟨?_,trivial⟩;simp[h1.2,gC,zX hu,goInt]
   ·rename_i n el u hu hx;cases h;refine⟨?_,trivial⟩;simp[gC,zX hu,goInt]
   ·cases h
  ·-- min
   rename_i hcal;split at h
   ·rename_i k n r hl;cases hm:jqD k n r with
    |none=>simp[hm]at h
    |some u =>
     simp[hm]at h;obtain⟨_,rfl⟩:=h;have e:=jjm hr _ _ hl;have hrun:=jtK (P:=P) (I:=I) (w:=w) r k n u hm;refine⟨?_,hrun.2 _⟩;have e1:(c.args.map a.eval).toList=x9 k n::r.map fun x=>x9 x.1 x.2:=by simpa using e
     simp only[jy,hcal,zq,zt,zn,gc,builtin,Builtin.min_,e1,hrun.1]
   ·cases h
  ·-- max
   rename_i hcal;split at h
   ·rename_i k n r hl;cases hm:jqE k n r with
    |none=>simp[hm]at h
    |some u =>
     simp[hm]at h;obtain⟨_,rfl⟩:=h;have e:=jjm hr _ _ hl;have hrun:=jtL (P:=P) (I:=I) (w:=w) r k n u hm;refine⟨?_,hrun.2 _⟩;have e1:(c.args.map a.eval).toList=x9 k n::r.map fun x=>x9 x.1 x.2:=by simpa using e
     simp only[jy,hcal,zq,zt,zn,gc,builtin,Builtin.max_,e1,hrun.1]
   ·cases h
  ·cases h
 ·cases h
def jjn (hh:HRel I B hp nx w) {v:V} {k:qd} (h:v.nan? hp=some k):∃n,v.val I=.float k n∧(k.decode n).isNaN=true:=by
 unfold V.nan? at h;split at h
 ·split at h
  ·rename_i hf;cases h;exact(hh.ok _ _ hf).2.2
  ·cases h
 ·cases h
def jbV {k k':qd} (h:jbG k k'=true):k=k':=by cases k<;>cases k' <;> simp[jbG]at h<;>rfl
def jkT {k:qd} {m n:Nat} (h:(k.decode m).isNaN=true∨(k.decode n).isNaN=true):k.format.order m n=none:=by
 unfold qo;unfold qM at h;rcases h with h|h
 ·cases hm:k.format.read m<;>simp[hm,jz]at h;simp[fZ]
 ·cases hn:k.format.read n<;>simp[hn,jz]at h;cases k.format.read m<;>simp[fZ]
def jtM (hh:HRel I B hp nx w) {u v:V} (h:jqF hp u v=true):∃k m n,u.val I=.float k m∧v.val I=.float k n∧k.format.order m n=none:=by
 unfold jqF at h;split at h
 ·rename_i k k' hu hv;obtain⟨m,h1,h2⟩:=jjn hh hu;obtain⟨n,h3,h4⟩:=jjn hh hv;have:=jbV h;subst this;exact⟨k,m,n,h1,h3,jkT (.inl h2)⟩
 ·rename_i k hu hv;obtain⟨m,h1,h2⟩:=jjn hh hu;split at h
  ·rename_i k' n hf;have:=jbV h;subst this;exact⟨k,m,n,h1,by rw[V.flt?_eq hf];rfl,jkT (.inl h2)⟩
  ·cases h
 ·rename_i k hu hv;obtain⟨m,h1,h2⟩:=jjn hh hv;split at h
  ·rename_i k' n hf;have:=jbV h;subst this;exact⟨k',n,m,by rw[V.flt?_eq hf];rfl,h1,jkT (.inr h2)⟩
  ·cases h
 ·cases h
def jph {len:Nat} {l m:Option Int} {k k':IntKind} (h0:0<=l.getD 0) (h1:l.getD 0<=m.getD (len:Int)) (h2:m.getD (len:Int)<=(len:Int)) :
  (yb false len len (l.map (x9 k ·)) (m.map (x9 k' ·)) none).run P w=.ok ((l.getD 0).toNat,(m.getD (len:Int)).toNat,len) w:=by
 cases l with
 |none =>
  cases m with
  |none=>simp[yb]
  |some m =>
   simp only[jA,z9]at h1 h2;simp[yb,gd,jr,h1,h2]
 |some l =>
  simp only[z9]at h0 h1;cases m with
  |none =>
   simp only[jA]at h1;simp[yb,gd,jr,h0,h1]
  |some m =>
   simp only[z9]at h1 h2;have a1:0<=m∧m<=(len:Int):=by omega
   have a2:0<=l∧l<=(m.toNat:Int):=by omega
   simp only[yb,gd,jr,qk,zq,zt,zn,if_pos a1,if_pos a2,Option.isSome_none,z3,if_false,z9]
def jc5 (hr:jaB I nx rd a) {x:Option zZ} {l:Option Int} (h:ja0 rd x=some l):∃k,x.map a.eval=l.map (x9 k ·):=by
 cases x with
 |none=>simp only[ja0,zj]at h;subst h;exact⟨.i64,rfl⟩
 |some x =>
  simp only[ja0]at h;split at h
  ·rename_i k n hx;cases h;cases hrx:rd x with
   |none=>simp[hrx]at hx
   |some u =>
    simp only[hrx,zV]at hx;have:=hr _ _ hrx;rw[V.int?_eq hx]at this;exact⟨k,by simp[this.2]⟩
  ·cases h
def jcc {h:Nat} {o:O} {c:Cont} (hok:o.ok I B w h) (hc:o.cont=some c):jaH w (I h) c:=by
 cases o with
 |ext c'=>simp[O.cont]at hc;subst hc;exact hok.1
 |view r c' _=>simp[O.cont]at hc;subst hc;exact hok.1
 |sub _ _ _ _ _ c'=>simp[O.cont]at hc;subst hc;exact jd4 hok.1
 |fext c'=>simp[O.cont]at hc;subst hc;exact hok.1
 |row ty c' =>
  simp[O.cont]at hc;subst hc;rcases hok.1.2 with ⟨h1,hn⟩|⟨g,cap,cur,h1,h2,h3,h4,h5,h6,h7⟩
  ·exact⟨none,0,by rw[hn];exact h1,⟨by omega,fun _=>rfl⟩,fun h=>by omega⟩
  ·refine⟨some ⟨g,0,none⟩,cap,h1,⟨h4,fun h=>by cases h⟩,fun _=>⟨g,0,rfl,fun j x hj=>?_⟩⟩;rw[qa,xP w g j cur ty (0,0) h3];have h2:(cur.toList.take (c'.n*c'.e))[j]?=some x.val:=by rw[h7,zR,hj];rfl
   rw[qg]at h2;split at h2
   ·simpa using h2
   ·cases h2
 |_=>simp[O.cont]at hc
def jzb {o:qu} {ob:Prop} {v:V} (hh:HRel I B hp nx w) (hr:jaB I nx rd a) (h:jjl P o.op rd hp=some (ob,v)) (ho:ob) :
  (xg a.eval o).run P w=.ok (.value (v.val I)) w∧v.lt nx:=by
 unfold jjl at h;unfold xg;split at h<;>rename_i hop<;>simp only[hop]
 ·-- binOp
  rename_i op t x y yt;split at h
  ·rename_i u u' hx hy;have h1:=hr _ _ hx;have h2:=hr _ _ hy;split at h
   ·rename_i hnp;obtain⟨k,m,n,e1,e2,e3⟩:=jtM hh hnp
    have hg:(jx op t x y (yW k m) (yW k n)).run P w=.ok () w:=by
     cases op<;>simp[jx]
    have hres:(binOp op t (.float k m) (.float k n)).run P w=.ok (v.val I) w∧v.lt nx:=by
     unfold jtG at h
     cases op<;>simp only[zj,qp,reduceCtorEq]at h<;>obtain⟨_,rfl⟩:=h<;>refine⟨?_,trivial⟩ <;>
      simp[binOp,kO,e3,vb,V.val,W.val,C.val,D.val]
    refine⟨?_,hres.2⟩;simp only[h1.2,h2.2,e1,e2,zq];simp[hg,hres.1]
   ·cases h
  ·cases h
 ·-- an array's element
  rename_i t x i;split at h
  ·rename_i len0 y hx;split at h
   ·rename_i len elem kk n hu hi;split at h
    ·rename_i hs hE hag;cases h;cases hri:rd i with
     |none=>simp[hri]at hi
     |some ui =>
      simp only[hri,zV]at hi;have h1:=hr _ _ hx;have h2:=hr _ _ hri;rw[V.int?_eq hi]at h2;have hE:=zi hE;subst hE;refine⟨?_,trivial⟩;have hlt:n.toNat<len:=by omega
      have e1:a.eval x=.agg ((arD len y).map D.val).toArray:=h1.2;have e2:a.eval i=.int kk n:=h2.2;have hg:((arD len y).map D.val)[n.toNat]?=some (y.el n.toNat).val:=by simp[arD,hlt]
      simp only[e1,e2,ke,jr,zq,zt,zX hu,zn,ho,and_self,if_true,jaR w hs];simp[part,jgd w hag,hg,jg,V.val,W.val,C.val]
    ·cases h
   ·cases h
  ·cases h
 ·-- indexAddr
  rename_i t x ix;split at h
  ·rename_i elem k kk n hu hx hix;cases hri:rd ix with
   |none=>simp[hri]at hix
   |some ui =>
    simp only[hri,zV]at hix;have h1:=hr _ _ hx;have h2:=hr _ _ hri;rw[V.int?_eq hix]at h2;split at h
    ·rename_i X size hf hs;obtain⟨ob2,hf,hxc⟩:=zK.1 hf;split at h
     ·rename_i hsz;have hsz:=zi hsz;cases h;refine⟨?_,h1.1⟩;obtain⟨a',cap,hs',_,hx'⟩:=jd5 (hh.ok k _ hf).2.2 hxc;obtain⟨b,off,rfl,_⟩:=hx' (by omega);simp only[h1.2,h2.2,cell_val,vi_val,C.val,hs',gq,jr,zq,zt,zX hu,zn,base];simp[ho,jaR w hs,fP,hsz]
     ·cases h
    ·rename_i size hf hs;split at h
     ·rename_i X hX;obtain⟨ob2,hf,hX⟩:=zK.1 hX;split at h
      ·rename_i hsz;have hsz:=zi hsz;cases h;refine⟨?_,h1.1⟩;obtain⟨a',cap,hs',hx'⟩:=jy7 (hh.ok k _ hf).2.2 hX;obtain⟨b,off,rfl⟩:=hx' (by omega);simp only[h1.2,h2.2,cell_val,vi_val,C.val,hs',gq,jr,zq,zt,zX hu,zn,base];simp[ho,jaR w hs,fP,hsz]
      ·cases h
     ·cases h
    ·cases h
  ·cases h
 ·-- len
  rename_i c;split at h
  ·rename_i x t hcal hargs hts;have e1:c.args=#[x]:=by apply xf;simpa using hargs
   have e2:c.argTypes=#[t]:=by apply xf;simpa using hts
   simp only[jy,hcal,e1,e2,zq,zt,zn,gc,builtin];split at h
   ·rename_i el k hu hx;have h1:=hr _ _ hx;split at h
    ·rename_i X hf;obtain⟨ob2,hf,hxc⟩:=zK.1 hf;cases h;obtain⟨a',cap,hs',_⟩:=jd5 (hh.ok k _ hf).2.2 hxc;refine⟨?_,trivial⟩;simp[h1.2,C.val,hs',gC,zX hu,goInt]
    ·cases h
   ·cases h
  ·cases h
 ·cases h
def jd8 {o:qu} {ob:Prop} {v:V} (hh:HRel I B hp nx w) (hr:jaB I nx rd a) (h:jcj P o.op rd hp=some (ob,v)) (ho:ob) :
  (xg a.eval o).run P w=.ok (.value (v.val I)) w∧v.lt nx:=by
 unfold jcj at h;split at h
 ·rename_i x hx;cases h;exact jxI hh hr hx ho
 ·exact jzb hh hr h ho
end
end Go.Sx
end

section
open Go.RowKit
namespace Go.Sx
def jge (k:IntKind):List (List D)->Option (List Int)|[]=>some []|[.i k' n]::r=>if k'=k then(jge k r).map (n :: ·)else none|_=>none
def jgf (k:qd):List (List D)->Option (List Nat)|[]=>some []|[.f k' n]::r=>if k'=k then(jgf k r).map (n :: ·)else none|_=>none
def jgg:List (List D)->Option (List ByteArray)|[]=>some []|[.s n]::r=>(jgg r).map (n :: ·)|_=>none
def jeD:List (List D)->Option (List Bool)|[]=>some []|[.b n]::r=>(jeD r).map (n :: ·)|_=>none
def jjo:List D->Option (List Int)|[]=>some []| .i .i64 n::r=>(jjo r).map (n :: ·)|_=>none
def jip (e:Nat):List (List D)->Option (List (List Int))
 |[]=>some []
 |x::r =>
  match jjo x,jip e r with|some y,some l=>if y.length=e then some (y::l)else none|_,_=>none
def jgh (e:Nat):List (List D)->Option (List (List D))|[]=>some []|x::r=>if x.length=e then(jgh e r).map (x :: ·)else none
def jfQ (k:qd):List D->Option (List Nat)|[]=>some []| .f k' n::r=>if k'=k then(jfQ k r).map (n :: ·)else none|_=>none
def jmJ (k:qd) (e:Nat):List (List D)->Option (List (List Nat))
 |[]=>some []
 |x::r =>
  match jfQ k x,jmJ k e r with|some y,some l=>if y.length=e then some (y::l)else none|_,_=>none
def jxJ:List D->Option qd| .f k _::_=>some k|_=>none
def isI64:D->Bool| .i .i64 _=>true|_=>false
def jeh (zero:List D) (ls:List (List D)):Option Cont :=match zero with|[.i k _]=>(jge k ls).map (.ints k)|[.f k _]=>(jgf k ls).map (.floats k)|[.s _]=>(jgg ls).map .strs|[.b _]=>(jeD ls).map .bools|_=>match jxJ zero with|some k=>(jmJ k zero.length ls).map (.frs k zero.length)|none=>if zero.all isI64=true then(jip zero.length ls).map (.recs zero.length)else(jgh zero.length ls).map (.lits zero.length)
def jkU (r:List Int):jjh r.length r=r.map (D.i .i64):=by
 apply x5
 ·simp
 ·intro i h1 h2;simp[jjh]at h1 ⊢;simp[h1]
def jg5 (r:List D):jji r.length r=r:=by
 apply x5
 ·simp
 ·intro i h1 h2;simp[jji]at h1 ⊢;simp[h1]
def jnp {k:IntKind}:∀{ls:List (List D)} {l:List Int},jge k ls=some l->l.flatMap (fun x=>[D.i k x])=ls.flatten∧l.length=ls.length
 |[],l,h=>by simp only[jge,zj]at h;subst h;exact⟨rfl,rfl⟩
 |x::r,l,h=>by
  unfold jge at h;split at h<;>first|(rename_i h';cases h';done)|skip
  ·rename_i k' n r' he;cases he;split at h
   ·rename_i hk;subst hk;cases hi:jge k' r with
    |none=>simp[hi]at h
    |some l' =>
     simp[hi]at h;subst h;have:=jnp hi;exact⟨by simp[<-this.1],by simp[this.2]⟩
   ·cases h
  ·cases h
def jnq {k:qd}:∀{ls:List (List D)} {l:List Nat},jgf k ls=some l->l.flatMap (fun x=>[D.f k x])=ls.flatten∧l.length=ls.length
 |[],l,h=>by simp only[jgf,zj]at h;subst h;exact⟨rfl,rfl⟩
 |x::r,l,h=>by
  unfold jgf at h;split at h<;>first|(rename_i h';cases h';done)|skip
  ·rename_i k' n r' he;cases he;split at h
   ·rename_i hk;subst hk;cases hi:jgf k' r with
    |none=>simp[hi]at h
    |some l' =>
     simp[hi]at h;subst h;have:=jnq hi;exact⟨by simp[<-this.1],by simp[this.2]⟩
   ·cases h
  ·cases h
def jnr:∀{ls:List (List D)} {l:List ByteArray},jgg ls=some l->l.flatMap (fun x=>[D.s x])=ls.flatten∧l.length=ls.length
 |[],l,h=>by simp only[jgg,zj]at h;subst h;exact⟨rfl,rfl⟩
 |x::r,l,h=>by
  unfold jgg at h;split at h<;>first|(rename_i h';cases h';done)|skip
  ·rename_i n r' he;cases he;cases hi:jgg r with
   |none=>simp[hi]at h
   |some l' =>
    simp[hi]at h;subst h;have:=jnr hi;exact⟨by simp[<-this.1],by simp[this.2]⟩
  ·cases h
def jkV:∀{ls:List (List D)} {l:List Bool},jeD ls=some l->l.flatMap (fun x=>[D.b x])=ls.flatten∧l.length=ls.length
 |[],l,h=>by simp only[jeD,zj]at h;subst h;exact⟨rfl,rfl⟩
 |x::r,l,h=>by
  unfold jeD at h;split at h<;>first|(rename_i h';cases h';done)|skip
  ·rename_i n r' he;cases he;cases hi:jeD r with
   |none=>simp[hi]at h
   |some l' =>
    simp[hi]at h;subst h;have:=jkV hi;exact⟨by simp[<-this.1],by simp[this.2]⟩
  ·cases h
def jiq:∀{x:List D} {y:List Int},jjo x=some y->x=y.map (D.i .i64)
 |[],y,h=>by simp only[jjo,zj]at h;subst h;rfl
 |d::r,y,h=>by
  unfold jjo at h;split at h<;>first|(rename_i h';cases h';done)|skip
  ·rename_i n r' he;cases he;cases hi:jjo r with
   |none=>simp[hi]at h
   |some l' =>
    simp[hi]at h;subst h;simp[jiq hi]
  ·cases h
def jns {e:Nat}:∀{ls:List (List D)} {l:List (List Int)},jip e ls=some l->l.flatMap (jjh e)=ls.flatten∧l.length=ls.length
 |[],l,h=>by simp only[jip,zj]at h;subst h;exact⟨rfl,rfl⟩
 |x::r,l,h=>by
  unfold jip at h;split at h
  ·rename_i y l' hy hl;split at h
   ·rename_i hlen;cases h;have:=jns hl;subst hlen;refine⟨?_,by simp[this.2]⟩;rw[xz,yI,this.1,jkU,jiq hy]
   ·cases h
  ·cases h
def jnt {e:Nat}:∀{ls:List (List D)} {l:List (List D)},jgh e ls=some l->l.flatMap (jji e)=ls.flatten∧l.length=ls.length
 |[],l,h=>by simp only[jgh,zj]at h;subst h;exact⟨rfl,rfl⟩
 |x::r,l,h=>by
  unfold jgh at h;split at h
  ·rename_i hlen;cases hi:jgh e r with
   |none=>simp[hi]at h
   |some l' =>
    simp[hi]at h;subst h;have:=jnt hi;subst hlen;refine⟨?_,by simp[this.2]⟩;rw[xz,yI,this.1,jg5]
  ·cases h
def jgi (k:qd) (r:List Nat):frD k r.length r=r.map (D.f k):=by
 apply xA;intro i;simp only[frD,zR]
 by_cases hi:i<r.length
 ·rw[jF hi];simp[zb,zH hi]
 ·rw[z7 (by simpa using hi),z7 (by simpa using hi)];rfl
def jgj {k:qd}:∀{x:List D} {y:List Nat},jfQ k x=some y->x=y.map (D.f k)
 |[],y,h=>by simp only[jfQ,zj]at h;subst h;rfl
 |d::r,y,h=>by
  cases d with
  |f k' n =>
   simp only[jfQ]at h;split at h
   ·rename_i e;subst e;obtain⟨l,hl,rfl⟩:=z4.1 h;rw[jgj hl];rfl
   ·cases h
  |_=>simp only[jfQ]at h;cases h
def jpi {k:qd} {e:Nat}:∀{ls:List (List D)} {l:List (List Nat)},jmJ k e ls=some l->l.flatMap (frD k e)=ls.flatten∧l.length=ls.length
 |[],l,h=>by simp only[jmJ,zj]at h;subst h;exact⟨rfl,rfl⟩
 |x::r,l,h=>by
  simp only[jmJ]at h;split at h
  ·rename_i y l' hx hl;split at h
   ·rename_i he;cases h;have ih:=jpi hl;refine⟨?_,by simp[ih.2]⟩;rw[xz,yI,ih.1,jgj hx,<-he,jgi]
   ·cases h
  ·cases h
def jdH {zero:List D} {ls:List (List D)} {c:Cont} (h:jeh zero ls=some c):c.flat=ls.flatten∧c.n=ls.length∧c.e=zero.length:=by
 unfold jeh at h;split at h
 ·rename_i k _;cases hi:jge k ls with
  |none=>simp[hi]at h
  |some l=>simp[hi]at h;subst h;have:=jnp hi;exact⟨this.1,this.2,rfl⟩
 ·rename_i k _;cases hi:jgf k ls with
  |none=>simp[hi]at h
  |some l=>simp[hi]at h;subst h;have:=jnq hi;exact⟨this.1,this.2,rfl⟩
 ·cases hi:jgg ls with
  |none=>simp[hi]at h
  |some l=>simp[hi]at h;subst h;have:=jnr hi;exact⟨this.1,this.2,rfl⟩
 ·cases hi:jeD ls with
  |none=>simp[hi]at h
  |some l=>simp[hi]at h;subst h;have:=jkV hi;exact⟨this.1,this.2,rfl⟩
 ·split at h
  ·rename_i k _;cases hi:jmJ k zero.length ls with
   |none=>simp[hi]at h
   |some l=>simp[hi]at h;subst h;have:=jpi hi;exact⟨this.1,this.2,rfl⟩
  split at h
  ·cases hi:jip zero.length ls with
   |none=>simp[hi]at h
   |some l=>simp[hi]at h;subst h;have:=jns hi;exact⟨this.1,this.2,rfl⟩
  ·cases hi:jgh zero.length ls with
   |none=>simp[hi]at h
   |some l=>simp[hi]at h;subst h;have:=jnt hi;exact⟨this.1,this.2,rfl⟩
def jf5 (zero:List D) (n:Nat):Option Cont :=match zero with|[.i k x]=>some (.ints k (zh n x))|[.f k x]=>some (.floats k (zh n x))|[.s x]=>some (.strs (zh n x))|[.b x]=>some (.bools (zh n x))|_=>match jxJ zero with|some k=>(jfQ k zero).map fun z=>.frs k zero.length (zh n z)|none=>match jjo zero with|some z=>some (.recs zero.length (zh n z))|none=>some (.lits zero.length (zh n zero))
def ja8 {α:Type} (g:α->List D) (x:α) (n:Nat):(zh n x).flatMap g=(zh n (g x)).flatten:=by
 induction n with
 |zero=>rfl
 |succ n ih=>simp[jb,ih]
def jkW {zero:List D} {n:Nat} {c:Cont} (h:jf5 zero n=some c):c.flat=(zh n zero).flatten∧c.n=n∧c.e=zero.length:=by
 unfold jf5 at h;split at h
 ·cases h;exact⟨by simp only[Cont.flat,ja8],by simp[Cont.n],rfl⟩
 ·cases h;exact⟨by simp only[Cont.flat,ja8],by simp[Cont.n],rfl⟩
 ·cases h;exact⟨by simp only[Cont.flat,ja8],by simp[Cont.n],rfl⟩
 ·cases h;exact⟨by simp only[Cont.flat,ja8],by simp[Cont.n],rfl⟩
 ·split at h
  ·rename_i k _;cases hz:jfQ k zero with
   |none=>simp[hz]at h
   |some z =>
    simp only[hz,qk,zj]at h;subst h;refine⟨?_,by simp[Cont.n],rfl⟩;have hl:zero.length=z.length:=by rw[jgj hz];simp
    rw[Cont.flat,ja8,hl,jgi,<-jgj hz]
  split at h
  ·rename_i z hz;cases h;refine⟨?_,by simp[Cont.n],rfl⟩;have hl:zero.length=z.length:=by rw[jiq hz];simp
   rw[Cont.flat,ja8,hl,jkU,<-jiq hz]
  ·cases h;refine⟨?_,by simp[Cont.n],rfl⟩;rw[Cont.flat,ja8,jg5]
def Cont.app:Cont->Cont->Option Cont| .ints k l,.ints k' l'=>if k=k' then some (.ints k (l++l'))else none| .recs e l,.recs e' l'=>if e=e' then some (.recs e (l++l'))else none| .floats k l,.floats k' l'=>if k=k' then some (.floats k (l++l'))else none| .strs l,.strs l'=>some (.strs (l++l'))| .bools l,.bools l'=>some (.bools (l++l'))| .lits e l,.lits e' l'=>if e=e' then some (.lits e (l++l'))else none| .frs k e l,.frs k' e' l'=>if k=k' then if e=e' then some (.frs k e (l++l'))else none else none|_,_=>none
def Cont.app_flat {a b c:Cont} (h:a.app b=some c):c.flat=a.flat++b.flat∧c.n=a.n+b.n∧c.e=a.e∧b.e=a.e:=by
 unfold Cont.app at h
 split at h<;>first
  |(split at h
    ·split at h
     ·rename_i hk hk';subst hk;subst hk';cases h;exact⟨by simp[Cont.flat],by simp[Cont.n],rfl,rfl⟩
     ·cases h
    ·cases h)
  |(split at h
    ·rename_i hk;subst hk;cases h;exact⟨by simp[Cont.flat],by simp[Cont.n],rfl,rfl⟩
    ·cases h)
  |(cases h;exact⟨by simp[Cont.flat],by simp[Cont.n],rfl,rfl⟩)
  |cases h
def wr (e:Nat) (r:List Int) (j:Nat) (xs:List Int):List Int :=(zm e).map fun t=>if j<=t∧t<j+xs.length then xs.getD (t-j) 0 else r.getD t 0
def Cont.upd (c:Cont) (i j:Nat) (ds:List D):Option Cont :=match c,ds with| .ints k l,[.i k' x]=>if k'=k∧j=0 then some (.ints k (l.set i x))else none| .floats k l,[.f k' x]=>if k'=k∧j=0 then some (.floats k (l.set i x))else none| .strs l,[.s x]=>if j=0 then some (.strs (l.set i x))else none| .bools l,[.b x]=>if j=0 then some (.bools (l.set i x))else none| .recs e l,ds=>(jjo ds).bind fun xs=>if j+xs.length<=e then some (.recs e (l.set i (wr e (l.getD i []) j xs)))else none|_,_=>none
def ja9 {α:Type} (l:List α) (i k:Nat) (x d:α) (hi:i<l.length):(l.set i x).getD k d=if k=i then x else l.getD k d:=by
 simp only[zb,List.getElem?_set]
 by_cases h:i=k
 ·subst h;simp[hi]
 ·simp[h,Ne.symm h]
def Cont.upd_cell {c c':Cont} {i j:Nat} {ds:List D} (h:c.upd i j ds=some c') (hi:i<c.n) :
  c'.n=c.n∧c'.e=c.e∧j+ds.length<=c.e ∧
   ∀k m,m<c.e->c'.cell k m=if k=i∧j<=m∧m<j+ds.length then ds.getD (m-j) (.v zJ)else c.cell k m:=by
 unfold Cont.upd at h;split at h
 ·split at h
  ·rename_i hk;obtain⟨rfl,rfl⟩:=hk;cases h;refine⟨by simp[Cont.n],rfl,by simp[Cont.e],fun k m hm=>?_⟩;simp only[Cont.e]at hm;obtain rfl:m=0:=by omega
   simp only[Cont.cell,Cont.n]at *;rw[ja9 _ _ _ _ _ hi]
   by_cases hki:k=i<;>simp[hki]
  ·cases h
 ·split at h
  ·rename_i hk;obtain⟨rfl,rfl⟩:=hk;cases h;refine⟨by simp[Cont.n],rfl,by simp[Cont.e],fun k m hm=>?_⟩;simp only[Cont.e]at hm;obtain rfl:m=0:=by omega
   simp only[Cont.cell,Cont.n]at *;rw[ja9 _ _ _ _ _ hi]
   by_cases hki:k=i<;>simp[hki]
  ·cases h
 ·split at h
  ·rename_i hk;subst hk;cases h;refine⟨by simp[Cont.n],rfl,by simp[Cont.e],fun k m hm=>?_⟩;simp only[Cont.e]at hm;obtain rfl:m=0:=by omega
   simp only[Cont.cell,Cont.n]at *;rw[ja9 _ _ _ _ _ hi]
   by_cases hki:k=i<;>simp[hki]
  ·cases h
 ·split at h
  ·rename_i hk;subst hk;cases h;refine⟨by simp[Cont.n],rfl,by simp[Cont.e],fun k m hm=>?_⟩;simp only[Cont.e]at hm;obtain rfl:m=0:=by omega
   simp only[Cont.cell,Cont.n]at *;rw[ja9 _ _ _ _ _ hi]
   by_cases hki:k=i<;>simp[hki]
  ·cases h
 ·rename_i e l;cases hx:jjo ds with
  |none=>simp[hx]at h
  |some xs =>
   simp only[hx,zV]at h;split at h
   ·rename_i hle;cases h;have hds:=jiq hx;subst hds;refine⟨by simp[Cont.n],rfl,by simpa [Cont.e]using hle,fun k m hm=>?_⟩;simp only[Cont.cell,Cont.n,Cont.e]at *;rw[ja9 _ _ _ _ _ hi]
    by_cases hki:k=i
    ·subst hki;simp only[if_true,true_and,qh,wr];rw[qJ,zR,jF hm];simp only[qk,z9];split
     ·rename_i hin;have:m-j<xs.length:=by omega
      simp[zb,this]
     ·rfl
    ·simp[hki]
   ·cases h
 ·cases h
def Cont.sub:Cont->Nat->Nat->Cont| .ints k l,lo,hi=>.ints k ((l.drop lo).take (hi-lo))| .recs e l,lo,hi=>.recs e ((l.drop lo).take (hi-lo))| .floats k l,lo,hi=>.floats k ((l.drop lo).take (hi-lo))| .strs l,lo,hi=>.strs ((l.drop lo).take (hi-lo))| .bools l,lo,hi=>.bools ((l.drop lo).take (hi-lo))| .lits e l,lo,hi=>.lits e ((l.drop lo).take (hi-lo))| .frs k e l,lo,hi=>.frs k e ((l.drop lo).take (hi-lo))
def Cont.sub_cell (c:Cont) {lo hi:Nat} (h:lo<=hi) (hh:hi<=c.n):(c.sub lo hi).n=hi-lo∧(c.sub lo hi).e=c.e∧∀k m,k<hi-lo->(c.sub lo hi).cell k m=c.cell (lo+k) m:=by
 cases c<;>simp only[Cont.sub,Cont.n,Cont.e,Cont.cell]at * <;>
  first
  |(refine⟨by simp;omega,trivial,fun k m hk=>?_⟩;simp[zb,hk])
  |(refine⟨by simp;omega,rfl,fun k m hk=>?_⟩;simp[zb,hk])
def jn9 (e:Nat) (r:List Nat):List Nat:=(zm e).map fun j=>r.getD j 0
def jvX (e:Nat) (r:List Nat):(jn9 e r).length=e:=by simp[jn9]
def jAJ {e:Nat} {r:List Nat} {j:Nat} (h:j<e):(jn9 e r).getD j 0=r.getD j 0:=by simp[jn9,zb,h]
def jeE (e:Nat) (r:List Nat) (j x:Nat):List Nat:=(jn9 e r).set j x
def jtN {e:Nat} {r:List Nat} {j x m:Nat} (hj:j<e) (hm:m<e):(jeE e r j x).getD m 0=if m=j then x else r.getD m 0:=by
 rw[jeE,ja9 _ _ _ _ _ (by rw[jvX];exact hj)];split
 ·rfl
 ·exact jAJ hm
end Go.Sx
end

section
open Go.RowKit
namespace Go.Sx
structure Res where
 ob:Prop
 v:V
 hp:Hp
 nx:Nat
inductive RT where
 |leaf (r:Res)
 |br (b:Bool) (x y:RT)
def RT.sel:RT->Res| .leaf r=>r| .br b x y=>match b with|true=>x.sel|false=>y.sel
def RT.leaf?:RT->Option Res| .leaf r=>some r|_=>none
abbrev Spec:=List V->Hp->Nat->Option RT
def jaj (hp:Hp):Hp:=hp.map fun x=>(x.1,match x.2 with | .view _ _ _=>.dead | .sub _ _ _ _ _ _=>.dead|o=>o)
def jay (hp:Hp) (h:Nat):find (jaj hp) h=(find hp h).map fun o=>match o with | .view _ _ _=>.dead | .sub _ _ _ _ _ _=>.dead|o=>o:=by
 induction hp with
 |nil=>rfl
 |cons x r ih =>
  obtain⟨k,o⟩:=x;simp only[jaj,zL,find]at *;split
  ·rfl
  ·exact ih
def dOf:C->Option D| .d x=>some x|_=>none
def jbh:List C->Option (List D)|[]=>some []|x::r=>match dOf x,jbh r with|some d,some l=>some (d::l)|_,_=>none
def jbS:∀{l:List C} {ds:List D},jbh l=some ds->l=ds.map C.d
 |[],ds,h=>by simp only[jbh,zj]at h;subst h;rfl
 |x::r,ds,h=>by
  simp only[jbh]at h;split at h
  ·rename_i d l hx hl;cases h;have:=jbS hl;cases x<;>simp[dOf]at hx;subst hx;simp[this]
  ·cases h
def jjp (e:Nat):Nat->List D->List (List D)|0,_=>[]|n+1,l=>l.take e::jjp e n (l.drop e)
def jjq (e:Nat):∀(n:Nat) (l:List D),l.length=n*e->(jjp e n l).flatten=l∧(jjp e n l).length=n
 |0,l,h=>by
  have:l=[]:=z5 (by simpa using h);subst this;exact⟨rfl,rfl⟩
 |n+1,l,h=>by
  have h2:(l.drop e).length=n*e:=by rw[xy,h,qE];omega
  have:=jjq e n (l.drop e) h2;simp only[jjp,yI,this.1,xQ,zB,this.2,and_self]
def jnu {α:Type} (z:List α) (n:Nat):(zh n z).flatten.length=n*z.length:=by simp
def jei {α:Type} (z:List α):∀(n i:Nat),i<n*z.length->(zh n z).flatten[i]?=z[i%z.length]?
 |0,i,h=>by simp at h
 |n+1,i,h=>by
  rw[jb,yI]
  by_cases hi:i<z.length
  ·rw[qf hi,Nat.mod_eq_of_lt hi]
  ·have hge:z.length<=i:=by omega
   rw[qj hge,jei z n (i-z.length) (by rw[qE]at h;omega)]
   congr 1
   exact(Nat.mod_eq_sub_mod hge).symm
def jf6 (z:Array zs) (n:Nat):(jT z (n*z.size)).toList=(zh n z.toList).flatten:=by
 apply xA;intro i
 by_cases hi:i<n*z.size
 ·have h0:0<z.size:=by
   rcases Nat.eq_zero_or_pos z.size with h|h
   ·rw[h]at hi;omega
   ·exact h
  have hm:=ya i h0;rw[jei z.toList n i (by simpa using hi)];simp[jT,hi,hm]
 ·rw[z7 (by simp[jT];omega),z7 (by simp;omega)]
def jfa (P:zP) (elem n:Nat) (parts:List (Nat × W)):Option Cont :=
 match jaA P elem,szT P elem with
 |some z,some (e+1) =>
  if z.length=e+1∧n*(e+1)<=4096 then match jdx (fun i=>some (i*(e+1),e+1)) (zh n z).flatten parts,jbh z with|some out,some zd=>(match jbh out with|some ds=>jeh zd (jjp (e+1) n ds)|none=>none)|_,_=>none
  else none
 |_,_=>none
def jbT (hp:Hp) (v:V):Option (Option Nat × Option Cont) :=
 match v with
 | .w (.c (.o h))=>match(find hp h).bind O.cont with
  |some c=>some (some h,some c)
  |none=>none
 | .w (.c (.d (.v (.slice none 0 0))))=>some (none,none)
 |_=>none
def jc3 (z:List D) (c:Option Cont):Option Cont :=match c with|some c=>some c|none=>jeh z []
def cutO (h:Nat) (o:O) (c:Cont):O :=match o with| .ext _=>.ext c| .fext _=>.fext c| .view r _ _=>.view r c false|_=>.view h c false
def jaU (P:zP) (t:qI):Option Nat:=(P.info? t).map (·.bytes)
def jjr (rd:zZ->Option V):List zZ->Option (List V)|[]=>some []|x::r=>match rd x,jjr rd r with|some v,some l=>some (v::l)|_,_=>none
def Cont.one:Cont->Bool| .lits e l=>(Cont.lits e l).flat.all D.one|_=>true
def jtO (hp:Hp) (v:Option V):Option Cont :=match v with|some (.w (.c (.o h)))=>(match find hp h with|some (.view _ c true)=>some c|_=>none)|_=>none
def jhO (P:zP) (t:qI) (c1:Cont) (x:Option V) (hp:Hp) (nx:Nat):Option Res :=
 match P.underlying t,x.bind (jbT hp)with
 |some (.slice elem),some (_,cx) =>
  match(jaA P elem).bind jbh,szT P elem,jaU P elem with
  |some z,some (e+1),some b=>match jc3 z cx with
   |some c2=>match c1.app c2 with
    |some c3=>if z.length=e+1∧c1.e=e+1 then some ⟨0<c1.n∧0<c2.n∧(c1.n+c2.n)*b<=140737488355328∧c1.n+c2.n<=9223372036854775807,.w (.c (.o nx)),(nx,.row elem c3)::hp,nx+1⟩
     else none
    |none=>none
   |none=>none
  |_,_,_=>none
 |_,_=>none
def joa (P:zP) (t t':qI) (s x:Option V) (hp:Hp) (nx:Nat):Option Res :=
 match P.underlying t,P.underlying t',s.bind (jbT hp),x.bind V.int? with
 |some (.slice elem),some (.int _),some (some h,some c1),some (_,m) =>
  match find hp h,(jaA P elem).bind jbh,szT P elem,jaU P elem with
  |some (.row ty _),some z,some (e+1),some b=>match jf5 z m.toNat with
   |some c2=>match c1.app c2 with
    |some c3=>if z.length=e+1∧c1.e=e+1∧c2.one=true∧ty=elem then some ⟨0<m∧(c1.n+c2.n)*b<=140737488355328∧c1.n+c2.n<=9223372036854775807,.w (.c (.o nx)),(nx,.row elem c3)::(h,.dead)::jaj hp,nx+1⟩
     else none
    |none=>none
   |none=>none
  |_,_,_,_=>none
 |_,_,_,_=>none
def jpj:List D->Option (List Int)|[]=>some []| .i .i64 n::r=>(jpj r).map (n :: ·)|_=>none
def arrF (P:zP) (t:qI):Option (Nat × AR) :=match jbz P t,szT P t,(jaA P t).bind jbh with|some true,some sz,some ds=>(match jxJ ds,qN 8 ds.length,zF sz ds.length with|some k,true,true=>(jfQ k ds).map fun r=>(sz,.f k r)|none,true,true=>(match qN 16 sz with|true=>(jpj ds).map fun r=>(sz,.i r)|false=>none)|_,_,_=>none)|_,_,_=>none
def XC.sub:XC->Nat->Nat->XC| .st sh l,lo,hi=>.st sh ((l.drop lo).take (hi-lo))| .ii k l,lo,hi=>.ii k ((l.drop lo).take (hi-lo))| .ff k l,lo,hi=>.ff k ((l.drop lo).take (hi-lo))| .bb k e l,lo,hi=>.bb k e ((l.drop lo).take (hi-lo))| .rr e l,lo,hi=>.rr e ((l.drop lo).take (hi-lo))
def jeF (b:Bool) (c:Cont):O:=match b with|true=>.fext c|false=>.ext c
def O.xk:O->Option (Bool × XC)| .xext x=>some (false,x)| .xrow _ x=>some (true,x)|_=>none
def ncH (b:Bool) (nx:Nat) (hp:Hp):NC->Hp| .d _=>hp| .r c=>(nx,jeF b c)::hp
def ncN (nx:Nat):NC->Nat| .d _=>nx| .r _=>nx+1
def ncs (b:Bool):List NC->Nat->Hp->List C × Hp × Nat|[],nx,hp=>([],hp,nx)|x::l,nx,hp=>match ncs b l (ncN nx x) (ncH b nx hp x)with|(cs,hp',nx')=>((match x with | .d y=>C.d y | .r _=>C.o nx)::cs,hp',nx')
def jeG (k:qd):List C->Option (List Nat)|[]=>some []| .d (.f k' n)::l=>(match jbG k k',jeG k l with|true,some r=>some (n::r)|_,_=>none)|_::_=>none
def AR.cont:AR->Cont| .f k r=>.floats k r| .i r=>.ints .i64 r
def jeH (e:Nat) (r:List Int):List Int:=(zm e).map fun j=>r.getD j 0
def AR.put (e:Nat):AR->Nat->D->Option AR| .f k r,m,.f k' v=>(match jbG k k' with|true=>some (.f k (jeE e r m v))|false=>none)| .i r,m,.i .i64 v=>some (.i ((jeH e r).set m v))|_,_,_=>none
def AR.kin:AR->AR->Bool| .f k _,.f k' _=>jbG k k'| .i _,.i _=>true|_,_=>false
def jgk:List C->Option (List Int)|[]=>some []| .d (.i .i64 n)::l=>(jgk l).map (n :: ·)|_::_=>none
def AR.cells:AR->List C->Option AR| .f k _,cs=>(jeG k cs).map (.f k ·)| .i _,cs=>(jgk cs).map .i
def jg6 (P:zP) (op:Op) (rd:zZ->Option V) (hp:Hp) (nx:Nat):Option Res :=
 match op with
 | .box elem x =>
  match rd x with|some (.w (.b e x))=>some ⟨True,.w (.c (.p nx 0 1 0)),(nx,.arr elem e x)::hp,nx+1⟩|_=>none
 | .alloc elem =>
  match arrF P elem with|some (e,x)=>some ⟨True,.w (.c (.p nx 0 1 0)),(nx,.arr elem e x)::hp,nx+1⟩|none=>none
 | .buildSlice t n parts =>
  match P.underlying t,parts.toList with|some (.slice elem),[(0,x)]=>(match rd x,szT P elem,jaA P elem with|some (.w (.b (e+1) (.f k r))),some sz,some z=>(match zF n 1,zF sz (e+1),zF z.length (e+1),qN (e+1) 4096 with|true,true,true,true=>some ⟨True,.w (.c (.o nx)),(nx,.row elem (.frs k (e+1) [r]))::hp,nx+1⟩|_,_,_,_=>none)|_,_,_=>none)|_,_=>none
 | .slice t x lo hi none =>
  match P.underlying t,rd x,ja0 rd lo,ja0 rd hi with
  |some (.array n elem),some (.w (.c (.p h i e 0))),some l,some m =>
   match find hp h,szT P elem with
   |some (.arr _ E x),some 1=>match zF i 0,zF e 1,zF n E,qN 1 n with
    |true,true,true,true =>
     some ⟨x.cont.n=n∧0<=l.getD 0∧l.getD 0<=m.getD (n:Int)∧m.getD (n:Int)<=(n:Int),.w (.c (.o nx)),(nx,.view h (Cont.sub x.cont (l.getD 0).toNat (m.getD (n:Int)).toNat) m.isNone)::hp,nx+1⟩
    |_,_,_,_=>none
   |some (.ext (.frs k E r)),some 1=>match zF n E,zF e E,qN 1 n with
    |true,true,true =>
     some ⟨i<r.length∧(r.getD i []).length=n∧0<=l.getD 0∧l.getD 0<=m.getD (n:Int)∧m.getD (n:Int)<=(n:Int),.w (.c (.o nx)),(nx,.ext (Cont.sub (.floats k (r.getD i [])) (l.getD 0).toNat (m.getD (n:Int)).toNat))::hp,nx+1⟩
    |_,_,_=>none
   |_,_=>none
  |some (.slice elem),some (.w (.c (.o h))),some l,some m =>
   match find hp h,szT P elem with
   |some (.xext X),some sz=>match zF sz X.e,qN 1 sz with
    |true,true =>
     some ⟨0<=l.getD 0∧l.getD 0<=m.getD (X.n:Int)∧m.getD (X.n:Int)<=(X.n:Int),.w (.c (.o nx)),(nx,.xext (X.sub (l.getD 0).toNat (m.getD (X.n:Int)).toNat))::hp,nx+1⟩
    |_,_=>none
   |_,_=>none
  |_,_,_,_=>none
 | .load t x =>
  match rd x with
  |some (.w (.c (.p h i e j)))=>match(find hp h).bind O.xk with
   |some (b,X)=>match zF e X.e,jbz P t with|true,some false=>(match xD j X.e,X.cell i j with|true,.r c=>some ⟨i<X.n,.w (.c (.o nx)),(nx,jeF b c)::hp,nx+1⟩|_,_=>none)|true,some true=>(match zF j 0,szT P t with|true,some sz=>(match zF sz X.e with|true=>(match ncs b ((zm X.e).map fun m=>X.cell i m) nx hp with|(cs,hp',nx')=>some ⟨i<X.n,.w (.a cs),hp',nx'⟩)|false=>none)|_,_=>none)|_,_=>none
   |none=>none
  |_=>none
 | .store t x y =>
  match rd x,rd y with
  |some (.w (.c (.p h i e j))),some (.w (.c (.d v0))) =>
   match jbz P t,szT P t,find hp h,v0 with|some false,some 1,some (.arr ty E x),v=>(match x.put E (i*e+j) v with|some x'=>some ⟨i*e+j<E,vu,(h,.arr ty E x')::jaj hp,nx⟩|none=>none)|some false,some 1,some (.row ty (.frs k' (E+1) l)),.f k v=>(match jbG k k',zF e (E+1)with|true,true=>some ⟨i<l.length∧j<E+1,vu,(h,.row ty (.frs k' (E+1) (l.set i (jeE (E+1) (l.getD i []) j v))))::jaj hp,nx⟩|_,_=>none)|_,_,_,_=>none
  |some (.w (.c (.p h i e 0))),some (.w (.b E' y)) =>
   match jbz P t,szT P t,find hp h,y with|some true,some sz,some (.arr ty E x),y=>(match x.kin y,zF sz E,zF E' E,zF i 0 with|true,true,true,true=>some ⟨True,vu,(h,.arr ty E y)::jaj hp,nx⟩|_,_,_,_=>none)|some true,some sz,some (.row ty (.frs k' (E+1) l)),.f k v=>(match jbG k k',zF sz (E+1),zF E' (E+1),zF e (E+1)with|true,true,true,true=>some ⟨i<l.length,vu,(h,.row ty (.frs k' (E+1) (l.set i v)))::jaj hp,nx⟩|_,_,_,_=>none)|_,_,_,_=>none
  |some (.w (.c (.p h i e 0))),some (.w (.a cs)) =>
   match jbz P t,szT P t,find hp h with|some true,some sz,some (.arr ty E x)=>(match x.cells cs with|some y=>(match zF sz E,zF cs.length E,zF i 0 with|true,true,true=>some ⟨True,vu,(h,.arr ty E y)::jaj hp,nx⟩|_,_,_=>none)|none=>none)|_,_,_=>none
  |_,_=>none
 |_=>none
def jbL:NK->NC->Bool| .i k,.d (.i k' _)=>decide (k=k')| .b,.d (.b _)=>true| .f k,.d (.f k' _)=>jbG k k'| .s,.d (.s _)=>true| .ints k,.r (.ints k' _)=>decide (k=k')| .recs e,.r (.recs e' _)=>zF e e'| .flts k,.r (.floats k' _)=>jbG k k'| .strs,.r (.strs _)=>true| .bools,.r (.bools _)=>true| .frs k e,.r (.frs k' e' _)=>(match jbG k k' with|true=>zF e e'|false=>false)|_,_=>false
def jpk:NK->Option NC| .ints k=>some (.r (.ints k []))| .recs (e+1)=>some (.r (.recs (e+1) []))| .flts k=>some (.r (.floats k []))| .strs=>some (.r (.strs []))| .bools=>some (.r (.bools []))| .frs k (e+1)=>some (.r (.frs k (e+1) []))|_=>none
def XC.sh:XC->List NK| .st sh _=>sh| .ii k _=>[.ints k]| .ff k _=>[.flts k]| .bb k e _=>[.frs k e]| .rr e _=>[.recs e]
def jir (hp:Hp) (k:NK) (c:C):Option (NC × Option Nat) :=match c with| .d (.v (.slice none 0 0))=>(match jpk k with|some x=>some (x,none)|none=>none)| .d x=>(match jbL k (.d x)with|true=>some (.d x,none)|false=>none)| .o h=>(match find hp h with|some (.row _ c)=>(match jbL k (.r c)with|true=>some (.r c,some h)|false=>none)|some (.fext c)=>(match jbL k (.r c)with|true=>some (.r c,none)|false=>none)|_=>none)|_=>none
def jbA (hp:Hp):List NK->List C->Option (List NC × List Nat)|[],[]=>some ([],[])|k::ks,c::cs=>(match jir hp k c,jbA hp ks cs with|some (x,h),some (l,hs)=>(some (x::l,match h with|some h=>h::hs|none=>hs))|_,_=>none)|_,_=>none
def frz (hp:Hp):List Nat->Hp
 |[]=>hp
 |h::r=>match(find (frz hp r) h).bind O.cont with
  |some c=>(h,.fext c)::frz hp r
  |none=>frz hp r
def XC.put (X:XC) (i:Nat) (r:List NC):XC :=match X with| .st sh l=>.st sh (l.set i r)| .ii k l=>.ii k (l.set i ((r.headD (.d (.v zJ))).toInts))| .ff k l=>.ff k (l.set i ((r.headD (.d (.v zJ))).toFlts))| .bb k e l=>.bb k e (l.set i ((r.headD (.d (.v zJ))).toFrs))| .rr e l=>.rr e (l.set i ((r.headD (.d (.v zJ))).toRecs))
def XC.mk (X:XC) (rs:List (List NC)):XC :=match X with| .st sh _=>.st sh rs| .ii k _=>.ii k (rs.map fun r=>(r.headD (.d (.v zJ))).toInts)| .ff k _=>.ff k (rs.map fun r=>(r.headD (.d (.v zJ))).toFlts)| .bb k e _=>.bb k e (rs.map fun r=>(r.headD (.d (.v zJ))).toFrs)| .rr e _=>.rr e (rs.map fun r=>(r.headD (.d (.v zJ))).toRecs)
def XC.rep (X:XC) (n:Nat) (r:List NC):XC :=match X with| .st sh _=>.st sh (zh n r)| .ii k _=>.ii k (zh n ((r.headD (.d (.v zJ))).toInts))| .ff k _=>.ff k (zh n ((r.headD (.d (.v zJ))).toFlts))| .bb k e _=>.bb k e (zh n ((r.headD (.d (.v zJ))).toFrs))| .rr e _=>.rr e (zh n ((r.headD (.d (.v zJ))).toRecs))
def XC.app:XC->XC->Option XC| .st sh l,.st sh' l'=>if sh=sh' then some (.st sh (l++l'))else none| .ii k l,.ii k' l'=>if k=k' then some (.ii k (l++l'))else none| .ff k l,.ff k' l'=>if k=k' then some (.ff k (l++l'))else none| .bb k e l,.bb k' e' l'=>if k=k'∧e=e' then some (.bb k e (l++l'))else none| .rr e l,.rr e' l'=>if e=e' then some (.rr e (l++l'))else none|_,_=>none
def jfx (sh:List NK) (r:List NC) (j:Nat) (x:NC):List NC:=(zm sh.length).map fun m=>cond (zF m j) x ((sh.getD m .b).norm (r.getD m (.d (.v zJ))))
def XC.row (X:XC) (i j:Nat) (x:NC):List NC :=match X with| .st sh l=>jfx sh (l.getD i []) j x|_=>[x]
def nkSl (P:zP) (e:qI) (sub:Option (List NK)):Option NK :=match P.underlying e with|some (.int k)=>some (.ints k)|some (.float k)=>some (.flts k)|some .string=>some .strs|some .bool=>some .bools|some (.array n el)=>(match P.underlying el with|some (.float k)=>(match szT P el with|some 1=>some (.frs k n)|_=>none)|_=>none)|some (.struct _)=>(match sub with|some l=>(match l.all fun x=>decide (x=.i .i64)with|true=>some (.recs l.length)|false=>none)|none=>none)|_=>none
def nkT (P:zP):Nat->qI->Option (List NK)|0,_=>none|n+1,t=>match P.underlying t with|some (.int k)=>some [.i k]|some (.float k)=>some [.f k]|some .string=>some [.s]|some .bool=>some [.b]|some (.slice e)=>(match nkSl P e (nkT P n e)with|some k=>some [k]|none=>none)|some (.array m e)=>(match nkT P n e with|some l=>some (zh m l).flatten|none=>none)|some (.struct fs)=>(fs.toList.foldr (fun f l=>match nkT P n f.type,l with|some a,some b=>some (a++b)|_,_=>none) (some []))|_=>none
def NK.isSl:NK->Bool| .i _=>false| .b=>false| .f _=>false| .s=>false|_=>true
def xcT (P:zP) (elem:qI):Option XC :=match nkT P 6 elem with|some sh=>(match P.underlying elem with|some (.struct _)=>(match sh.any NK.isSl with|true=>some (.st sh [])|false=>none)|some (.slice _)=>(match sh with|[.ints k]=>some (.ii k [])|[.flts k]=>some (.ff k [])|[.frs k e]=>some (.bb k e [])|[.recs e]=>some (.rr e [])|_=>none)|_=>none)|none=>none
def jf7 (hp:Hp) (sh:List NK):Nat->List (Nat × W)->Option (List (List NC) × List Nat)|_,[]=>some ([],[])|n,(i,u)::r=>match zF i n,jbA hp sh u.cells,jf7 hp sh (n+1) r with|true,some (x,hs),some (l,gs)=>some (x::l,hs++gs)|_,_,_=>none
def xOf (hp:Hp) (X0:XC) (v:V):Option (Option Nat × Nat × XC) :=match v with| .w (.c (.o h))=>(match find hp h with|some (.xrow ty X)=>some (some h,ty,X)|_=>none)| .w (.c (.d (.v (.slice none 0 0))))=>some (none,0,X0)|_=>none
def jg7 [Globs] (P:zP) (op:Op) (rd:zZ->Option V) (hp:Hp) (nx:Nat):Option Res :=
 match op with
 | .makeSlice t l c =>
  match P.underlying t,(rd l).bind V.int?,(rd c).bind V.int? with|some (.slice elem),some (_,n),some (_,m)=>(match xcT P elem,jaA P elem,jaU P elem,szT P elem with|some X0,some z,some b,some (e+1)=>(match jbA [] X0.sh z,zF z.length (e+1)with|some (r,_),true=>some ⟨0<=n∧n=m∧(b:Int)*n<=281474976710656∧n<=9223372036854775807,.w (.c (.o nx)),(nx,.xrow elem (X0.rep n.toNat r))::hp,nx+1⟩|_,_=>none)|_,_,_,_=>none)|_,_,_=>none
 | .buildSlice t n parts =>
  match Globs.nestT t,P.underlying t,jcB rd hp parts.toList with|true,some (.slice elem),some l=>(match xcT P elem,jaA P elem,szT P elem with|some X0,some z,some (e+1)=>(match jf7 hp X0.sh 0 l,zF l.length n,zF z.length (e+1),zF X0.sh.length (e+1),qN (n*(e+1)) 4096 with|some (rs,hs),true,true,true,true=>some ⟨True,.w (.c (.o nx)),(nx,.xrow elem (X0.mk rs))::frz hp hs,nx+1⟩|_,_,_,_,_=>none)|_,_,_=>none)|_,_,_=>none
 | .store t x y =>
  match rd x,rd y with
  |some (.w (.c (.p h i e j))),some (.w u) =>
   match find hp h,szT P t with|some (.xrow ty X),some sz=>(match u.one hp,u.cells.all (fun c=>c.one hp),zF e X.e,zF X.sh.length e,qN 1 e,zF sz u.cells.length with|true,true,true,true,true,true=>(match zF sz e with|true=>(match zF j 0,jbA hp X.sh u.cells with|true,some (r,hs)=>some ⟨i<X.n,vu,(h,.xrow ty (X.put i r))::frz (jaj hp) hs,nx⟩|_,_=>none)|false=>match u.cells,X.sh[j]? with|[c],some k=>(match jir hp k c with|some (x,g)=>some ⟨i<X.n,vu,(h,.xrow ty (X.put i (X.row i j x)))::frz (jaj hp) g.toList,nx⟩|none=>none)|_,_=>none)|_,_,_,_,_,_=>none)|_,_=>none
  |_,_=>none
 | .call c =>
  match c.callee,c.args.toList,c.argTypes.toList with
  | .builtin .append,[s,x],[t,t'] =>
   match zF t t',P.underlying t with
   |true,some (.slice elem)=>match xcT P elem,jaA P elem,szT P elem,jaU P elem with
    |some X0,some z,some (e+1),some b=>match(rd s).bind (xOf hp X0),(rd x).bind (xOf hp X0)with
     |some (hs,ty,X1),some (hx,ty',X2)=>match X1.app X2,(match hs with|some _=>zF ty elem|none=>true),(match hx with|some _=>zF ty' elem|none=>true),zF z.length (e+1),zF X1.sh.length (e+1)with
      |some X3,true,true,true,true=>some ⟨(X1.n+X2.n)*b<=140737488355328∧X1.n+X2.n<=9223372036854775807,.w (.c (.o nx)),(nx,.xrow elem X3)::(match hs with|some h=>(h,.dead)::jaj hp|none=>jaj hp),nx+1⟩
      |_,_,_,_,_=>none
     |_,_=>none
    |_,_,_,_=>none
   |_,_=>none
  |_,_,_=>none
 |_=>none
def tyT (P:zP):Nat->qI->Option (List Nat)|0,_=>none|n+1,t=>match P.underlying t with|some (.int _)=>some [0]|some (.float _)=>some [0]|some .string=>some [0]|some .bool=>some [0]|some (.slice e)=>some [e]|some (.array m e)=>(match tyT P n e with|some l=>some (zh m l).flatten|none=>none)|some (.struct fs)=>(fs.toList.foldr (fun f l=>match tyT P n f.type,l with|some a,some b=>some (a++b)|_,_=>none) (some []))|_=>none
def jcg (hp:Hp) (k:NK) (t:Nat) (c:C):Option (NC × Option Nat) :=match c with| .d (.v (.slice none 0 0))=>(match jpk k with|some x=>some (x,none)|none=>none)| .d x=>(match jbL k (.d x)with|true=>some (.d x,none)|false=>none)| .o h=>(match find hp h with|some (.row ty c)=>(match jbL k (.r c),zF ty t with|true,true=>some (.r c,some h)|_,_=>none)|_=>none)|_=>none
def jaO (hp:Hp):List NK->List Nat->List C->Option (List NC × List Nat)|[],_,[]=>some ([],[])|k::ks,ts,c::cs=>(match jcg hp k (ts.headD 0) c,jaO hp ks ts.tail cs with|some (x,h),some (l,hs)=>(some (x::l,match h with|some h=>h::hs|none=>hs))|_,_=>none)|_,_,_=>none
def jeI (hp:Hp) (sh:List NK) (ts:List Nat):Nat->List (Nat × W)->Option (List (List NC) × List Nat)|_,[]=>some ([],[])|n,(i,u)::r=>match zF i n,jaO hp sh ts u.cells,jeI hp sh ts (n+1) r with|true,some (x,hs),some (l,gs)=>some (x::l,hs++gs)|_,_,_=>none
def jfm:List Nat->Bool|[]=>true|h::r=>match r.contains h with|true=>false|false=>jfm r
def jdf (hp:Hp):List Nat->Hp|[]=>hp|h::r=>(h,.dead)::jdf hp r
def jcC (h i e:Nat) (ts:List Nat):Nat->List NC->Nat->Hp->List C × Hp × Nat|_,[],nx,hp=>([],hp,nx)|j,x::l,nx,hp=>match x with| .d y=>(match jcC h i e ts (j+1) l nx hp with|(cs,hp',nx')=>(.d y::cs,hp',nx'))| .r c=>match jcC h i e ts (j+1) l (nx+1) ((nx,.sub h i e j (ts.getD j 0) c)::hp)with|(cs,hp',nx')=>(.o nx::cs,hp',nx')
def jmK (r e j:Nat) (hp:Hp):Hp:=hp.map fun x=>(x.1,match x.2 with| .view _ _ _=>.dead| .sub r2 i2 e2 j2 t2 c2=>(match zF r2 r,zF e2 e,zF j2 j with|true,true,false=>.sub r2 i2 e2 j2 t2 c2|_,_,_=>.dead)|o=>o)
def mOf (hp:Hp) (X0:XC) (v:V):Option (Option Nat × Nat × List Nat × XC) :=match v with| .w (.c (.o h))=>(match find hp h with|some (.mrow ty ts X none)=>some (some h,ty,ts,X)|_=>none)| .w (.c (.d (.v (.slice none 0 0))))=>some (none,0,[],X0)|_=>none
def jcz (hp:Hp):Option Nat->Hp|some h=>(h,.dead)::hp|none=>hp
def jis [Globs] (P:zP) (t elem:qI) (us ux:Option V) (hp:Hp) (nx:Nat):Option Res :=
 match Globs.nestM t,xcT P elem,jaA P elem,szT P elem,jaU P elem,tyT P 6 elem with
 |true,some X0,some z,some (e+1),some b,some ts=>match us.bind (mOf hp X0),ux.bind (mOf hp X0)with
  |some (hs,ty,t1,X1),some (hx,ty',t2,X2)=>match X1.app X2,(match hs with|some _=>zF ty elem&&decide (t1=ts)|none=>true),(match hx with|some _=>zF ty' elem&&decide (t2=ts)|none=>true),zF z.length (e+1),zF X1.sh.length (e+1),(match hs,hx with|some a,some b=>!(zF a b)|_,_=>true)with
   |some X3,true,true,true,true,true=>some ⟨(X1.n+X2.n)*b<=140737488355328∧X1.n+X2.n<=9223372036854775807,.w (.c (.o nx)),(nx,.mrow elem ts X3 none)::jcz (jcz (jaj hp) hs) hx,nx+1⟩
   |_,_,_,_,_,_=>none
  |_,_=>none
 |_,_,_,_,_,_=>none
def jg8 [Globs] (P:zP) (op:Op) (rd:zZ->Option V) (hp:Hp) (nx:Nat):Option Res :=
 match op with
 | .makeSlice t l c =>
  match Globs.nestM t,P.underlying t,(rd l).bind V.int?,(rd c).bind V.int? with|true,some (.slice elem),some (_,n),some (_,m)=>(match xcT P elem,jaA P elem,jaU P elem,szT P elem,tyT P 6 elem with|some X0,some z,some b,some (e+1),some ts=>(match jaO [] X0.sh ts z,zF z.length (e+1)with|some (r,_),true=>some ⟨0<=n∧n=m∧(b:Int)*n<=281474976710656∧n<=9223372036854775807,.w (.c (.o nx)),(nx,.mrow elem ts (X0.rep n.toNat r) none)::hp,nx+1⟩|_,_=>none)|_,_,_,_,_=>none)|_,_,_,_=>none
 | .buildSlice t n parts =>
  match Globs.nestM t,Globs.nestT t,P.underlying t,jcB rd hp parts.toList with|true,true,some (.slice elem),some l=>(match xcT P elem,jaA P elem,szT P elem,tyT P 6 elem with|some X0,some z,some (e+1),some ts=>(match jeI hp X0.sh ts 0 l,zF l.length n,zF z.length (e+1),zF X0.sh.length (e+1),qN (n*(e+1)) 4096 with|some (rs,hs),true,true,true,true=>(match jfm hs with|true=>some ⟨True,.w (.c (.o nx)),(nx,.mrow elem ts (X0.mk rs) none)::jdf hp hs,nx+1⟩|false=>none)|_,_,_,_,_=>none)|_,_,_,_=>none)|_,_,_,_=>none
 | .load t x =>
  match rd x with|some (.w (.c (.p h i e j)))=>(match find hp h with|some (.mrow _ ts X none)=>(match zF e X.e,jbz P t with|true,some false=>(match xD j X.e,X.cell i j with|true,.r c=>some ⟨i<X.n,.w (.c (.o nx)),(nx,.sub h i X.e j (ts.getD j 0) c)::hp,nx+1⟩|_,_=>none)|true,some true=>(match zF j 0,szT P t with|true,some sz=>(match zF sz X.e with|true=>(match jcC h i X.e ts 0 ((zm X.e).map fun m=>X.cell i m) nx hp with|(cs,hp',nx')=>some ⟨i<X.n,.w (.a cs),hp',nx'⟩)|false=>none)|_,_=>none)|_,_=>none)|_=>none)|_=>none
 | .store t x y =>
  match rd x,rd y with
  |some (.w (.c (.p h i e j))),some (.w u) =>
   match find hp h,szT P t with|some (.mrow ty ts X ho),some sz=>(match u.one hp,u.cells.all (fun c=>c.one hp),zF e X.e,zF X.sh.length e,qN 1 e,zF sz u.cells.length with|true,true,true,true,true,true=>(match zF sz e,ho with|true,none=>(match zF j 0,jaO hp X.sh ts u.cells with|true,some (r,hs)=>(match jfm hs with|true=>some ⟨i<X.n,vu,(h,.mrow ty ts (X.put i r) none)::jdf (jaj hp) hs,nx⟩|false=>none)|_,_=>none)|_,_=>match u.cells,X.sh[j]? with|[c],some k=>(match jcg hp k (ts.getD j 0) c with|some (x,g)=>(match ho with|none=>some ⟨i<X.n,vu,(h,.mrow ty ts (X.put i (X.row i j x)) none)::jdf (jaj hp) g.toList,nx⟩|some (i0,j0)=>match zF j j0 with|true=>some ⟨i=i0∧i<X.n,vu,(h,.mrow ty ts (X.put i (X.row i j x)) none)::jdf (jaj hp) g.toList,nx⟩|false=>none)|none=>none)|_,_=>none)|_,_,_,_,_,_=>none)|some (.sub r i0 e0 j0 t0 c),some sz=>(match u.one hp,u.cells.all (fun c=>c.one hp),zF e c.e,qN 1 e,zF sz u.cells.length,jbh u.cells with|true,true,true,true,true,some ds=>(match c.upd i j ds,find hp r with|some c',some (.mrow ty ts X none)=>(match zF e0 X.e,X.sh[j0]? with|true,some k=>(match jbL k (.r c'),zF (ts.getD j0 0) t0 with|true,true=>some ⟨i<c.n,vu,(r,.mrow ty ts (X.put i0 (X.row i0 j0 (.r c'))) none)::(h,.sub r i0 e0 j0 t0 c')::jmK r e0 j0 hp,nx⟩|_,_=>none)|_,_=>none)|_,_=>none)|_,_,_,_,_,_=>none)|_,_=>none
  |_,_=>none
 | .call c =>
  match c.callee,c.args.toList,c.argTypes.toList with
  | .builtin .append,[s,x],[t,t'] =>
   match zF t t',P.underlying t with
   |true,some (.slice elem) =>
    match(rd s).bind V.obj? with
    |some hs0=>match find hp hs0 with
     |some (.sub r i e0 j t0 c1)=>match(rd x).bind (jbT hp),(jaA P elem).bind jbh,szT P elem,jaU P elem,find hp r with
      |some (_,cx),some z,some (e+1),some b,some (.mrow ty ts X none)=>match jc3 z cx with
       |some c2=>match c1.app c2,zF t0 elem,zF e0 X.e with
        |some c3,true,true=>if z.length=e+1∧c1.e=e+1∧c2.one=true then some ⟨(c1.n+c2.n)*b<=140737488355328∧c1.n+c2.n<=9223372036854775807,.w (.c (.o nx)),(nx,.row elem c3)::(r,.mrow ty ts X (some (i,j)))::jaj hp,nx+1⟩
         else none
        |_,_,_=>none
       |none=>none
      |_,_,_,_,_=>none
     |_=>jis P t elem (rd s) (rd x) hp nx
    |none=>jis P t elem (rd s) (rd x) hp nx
   |_,_=>none
  |_,_,_=>none
 |_=>none
def O.isSub:O->Bool| .sub _ _ _ _ _ _=>true|_=>false
def jzc (hp:Hp):Bool:=hp.any fun x=>x.2.isSub
def jtx (hp:Hp):O->O| .view _ _ _=>.dead| .sub r i e j t c=>(match find hp r with|some (.mrow _ _ _ none)=>.sub r i e j t c|_=>.dead)|o=>o
def jpl (hp:Hp):Hp:=hp.map fun x=>(x.1,jtx hp x.2)
def jg9 (P:zP) (op:Op) (rd:zZ->Option V) (hp:Hp) (nx:Nat):Option Res :=
 match op with
 | .load t x =>
  match rd x with|some (.w (.c (.p h i e j)))=>(match find hp h with|some (.trow _ _ X m)=>(match zF e X.e,jbz P t with|true,some false=>(match xD j X.e,X.cell i j with|true,.r c=>some ⟨i<X.n∧m<=i*X.e+j,.w (.c (.o nx)),(nx,.ext c)::hp,nx+1⟩|_,_=>none)|_,_=>none)|_=>none)|_=>none
 | .store t x y =>
  match rd x,rd y with
  |some (.w (.c (.p h i e j))),some (.w u) =>
   match find hp h,szT P t with
   |some (.trow ty ts X m),some sz=>match u.one hp,u.cells.all (fun c=>c.one hp),zF e X.e,zF sz u.cells.length with
    |true,true,true,true=>match u.cells,X.sh[j]? with
     |[c],some k=>match jcg hp k (ts.getD j 0) c with
      |some (x,g)=>some ⟨i<X.n∧m<=i*X.e+j∧∀i' j',j'<X.e->m<=i' * X.e+j'->i' * X.e+j'<i*X.e+j->(X.sh.getD j' .b).isSl=false,vu,(h,.trow ty ts (X.put i (X.row i j x)) (i*X.e+j+1))::jdf (jaj hp) g.toList,nx⟩
      |none=>none
     |_,_=>none
    |_,_,_,_=>none
   |some (.box ty cs),some sz=>match jzc hp,u.one hp,u.cells.all (fun c=>c.one hp),zF sz u.cells.length,qN 1 e,qN (i*e+j+u.cells.length) cs.length with|true,true,true,true,true,true=>some ⟨True,vu,(h,.box ty (cs.take (i*e+j)++u.cells++cs.drop (i*e+j+u.cells.length)))::jpl hp,nx⟩|_,_,_,_,_,_=>none
   |_,_=>none
  |_,_=>none
 |_=>none
def jpm (P:zP) (sp:Nat->Option (Bool × Spec)) (op:Op) (rd:zZ->Option V) (hp:Hp) (nx:Nat):Option Res :=
 match op with
 | .box elem x =>
  match rd x with|some (.w u)=>if u.one hp=true then some ⟨True,.w (.c (.p nx 0 1 0)),(nx,.box elem u.cells)::hp,nx+1⟩else none|_=>none
 | .alloc elem =>
  match jaA P elem with|some z=>some ⟨True,.w (.c (.p nx 0 1 0)),(nx,.box elem z)::hp,nx+1⟩|none=>none
 | .buildSlice t n parts =>
  match P.underlying t,jcB rd hp parts.toList with|some (.slice elem),some l=>(match jfa P elem n l with|some c=>some ⟨True,.w (.c (.o nx)),(nx,.row elem c)::hp,nx+1⟩|none=>none)|_,_=>none
 | .makeSlice t l c =>
  match P.underlying t,(rd l).bind V.int?,(rd c).bind V.int? with
  |some (.slice elem),some (_,n),some (_,m) =>
   match(jaA P elem).bind jbh,szT P elem,jaU P elem with
   |some z,some (e+1),some b=>if z.length=e+1 then match jf5 z n.toNat with|some c=>some ⟨0<=n∧n=m∧(b:Int)*n<=281474976710656∧n<=9223372036854775807,.w (.c (.o nx)),(nx,.row elem c)::hp,nx+1⟩|none=>none
    else none
   |_,_,_=>none
  |_,_,_=>none
 | .slice t x lo hi none =>
  match P.underlying t,rd x,ja0 rd lo,ja0 rd hi with
  |some (.array n elem),some (.w (.c (.p h 0 1 j))),some none,some none =>
   match find hp h,szT P elem,(jaA P elem).bind jbh with
   |some (.box _ cs),some (e+1),some z=>match jbh ((cs.drop j).take (n*(e+1)))with
    |some ds=>if z.length=e+1∧ds.length=n*(e+1)∧0<n then match jeh z (jjp (e+1) n ds)with|some c=>some ⟨True,.w (.c (.o nx)),(nx,.view h c true)::hp,nx+1⟩|none=>none
     else none
    |none=>none
   |_,_,_=>none
  |some (.slice elem),some (.w (.c (.o h))),some l,some m =>
   match find hp h,szT P elem with
   |some o,some (e+1)=>match o.cont with
    |some c=>if c.e=e+1 then let lo:=l.getD 0
      let hi:=m.getD (c.n:Int)
      some ⟨0<=lo∧lo<=hi∧hi<=(c.n:Int),.w (.c (.o nx)),(nx,cutO h o (c.sub lo.toNat hi.toNat))::hp,nx+1⟩
     else none
    |none=>none
   |_,_=>none
  |_,_,_,_=>none
 | .store t x y =>
  match rd x,rd y with
  |some (.w (.c (.p h i e j))),some (.w u) =>
   if u.one hp=true∧szT P t=some u.cells.length∧(u.cells.all fun c=>c.one hp)=true then
    match find hp h with
    |some (.box ty cs)=>if i*e+j+u.cells.length<=cs.length then some ⟨True,vu,(h,.box ty (cs.take (i*e+j)++u.cells++cs.drop (i*e+j+u.cells.length)))::jaj hp,nx⟩
      else none
    |some (.row ty c)=>match jbh u.cells with|some ds=>(match c.upd i j ds with|some c'=>if e=c.e∧0<e then some ⟨i<c.n,vu,(h,.row ty c')::jaj hp,nx⟩else none|none=>none)|none=>none
    |_=>none
   else none
  |_,_=>none
 | .call c =>
  match c.callee,c.args.toList,c.argTypes.toList with
  | .builtin .append,[s,x],[t,t'] =>
   if t=t' then
    match jtO hp (rd s)with
    |some c1=>jhO P t c1 (rd x) hp nx
    |none=>match P.underlying t,(rd s).bind (jbT hp),(rd x).bind (jbT hp)with
    |some (.slice elem),some (hs,cs),some (_,cx) =>
     match(jaA P elem).bind jbh,szT P elem,jaU P elem,find hp (hs.getD nx)with
     |some z,some (e+1),some b,os =>
      match(match hs,os with|none,_=>true|some _,some (.row ty _)=>ty==elem|_,_=>false),jc3 z cs,jc3 z cx with
      |true,some c1,some c2=>match c1.app c2 with
       |some c3=>if z.length=e+1∧c1.e=e+1∧c2.one=true then
         some ⟨(c1.n+c2.n)*b<=140737488355328∧c1.n+c2.n<=9223372036854775807,.w (.c (.o nx)),(nx,.row elem c3)::(match hs with|some h=>(h,.dead)::jaj hp|none=>jaj hp),nx+1⟩
        else none
       |none=>none
      |_,_,_=>none
     |_,_,_,_=>none
    |_,_,_=>none
   else joa P t t' (rd s) (rd x) hp nx
  | .value f,args,_ =>
   match rd f,jjr rd args with|some (.w (.c (.fn g hs))),some vs=>(match sp g with|some (_,S)=>(S (vs++hs.map fun h=>.w (.c (.o h))) hp nx).bind RT.leaf?|none=>none)|_,_=>none
  |_,_,_=>none
 |_=>none
def jxL (op:fH) (k:qd) (a b:Nat):Option (Option Nat) :=match op with| .add=>some (k.format.add a b)| .sub=>some (k.format.sub a b)| .mul=>some (k.format.mul a b)| .quo=>some (k.format.div a b)|_=>none
def jxM (P:zP) (sp:Nat->Option (Bool × Spec)) (op:Op) (rd:zZ->Option V) (hp:Hp) (nx:Nat):Option RT :=
 match op with
 | .binOp op _ x y _ =>
  match rd x,rd y with|some (.w (.c (.d (.f k a)))),some (.w (.c (.d (.f k' b))))=>(match jbG k k',jxL op k a b with|true,some r=>some (.br r.isSome (.leaf ⟨True,vf k (r.getD 0),hp,nx⟩) (.leaf ⟨True,.w (.c (.o nx)),(nx,.nan k)::hp,nx+1⟩))|_,_=>none)|_,_=>none
 | .convert src dst x =>
  match P.underlying src,P.underlying dst,rd x with
  |some (.float .f32),some (.float .f64),some (.w (.c (.d (.f .f32 b)))) =>
   some (.br (jmH b) (.leaf ⟨True,.w (.c (.o nx)),(nx,.nan .f64)::hp,nx+1⟩) (.leaf ⟨True,vf .f64 (jeg b),hp,nx⟩))
  |_,_,_=>none
 | .call c =>
  match c.callee with| .value f=>(match rd f,jjr rd c.args.toList with|some (.w (.c (.fn g hs))),some vs=>(match sp g with|some (_,S)=>S (vs++hs.map fun h=>.w (.c (.o h))) hp nx|none=>none)|_,_=>none)|_=>none
 |_=>none
end Go.Sx
end

section
open Go.RowKit
namespace Go.Sx
section
variable [Globs] {P:zP} {I:Env} {B:Kd} {nx:Nat} {hp:Hp} {w:zr} {rd:zZ->Option V} {a:Act}
structure Grow (B B':Kd) (M:Bool) (w w':zr):Prop where
 le:B.Le B'
 new:∀k,B'.all k->B.all k∨k<w'.heap.size
 out:∀k,B'.fr k->B.fr k∨¬B.kp k
 mono:M=true->(∀k,B'.all k->B.all k∨w.heap.size<=k)∧B.LeM B'
def Grow.refl (B:Kd) (M:Bool) (w w':zr):Grow B B M w w':=⟨⟨fun _ h=>h,fun _ h=>h⟩,fun _ h=>.inl h,fun _ h=>.inl h,fun _=>⟨fun _ h=>.inl h,fun _ _ h=>h⟩⟩
def Grow.trans {B B1 B2:Kd} {M:Bool} {w w1 w2:zr} (h:Grow B B1 M w w1) (k:Grow B1 B2 M w1 w2) (hw:w.heap.size<=w1.heap.size) (hw2:w1.heap.size<=w2.heap.size):Grow B B2 M w w2:=by
 refine⟨⟨fun i hi=>k.le.kp i (h.le.kp i hi),fun i hi=>k.le.fr i (h.le.fr i hi)⟩,fun i hi=>?_,fun i hi=>?_,fun hM=>⟨fun i hi=>?_,fun i g hi=>(k.mono hM).2 i g ((h.mono hM).2 i g hi)⟩⟩
 ·rcases k.new i hi with h1|h1
  ·rcases h.new i h1 with h2|h2
   ·exact .inl h2
   ·exact .inr (zG h2 hw2)
  ·exact .inr h1
 ·rcases k.out i hi with h1|h1
  ·exact h.out i h1
  ·exact .inr fun h2=>h1 (h.le.kp i h2)
 ·rcases(k.mono hM).1 i hi with h1|h1
  ·exact(h.mono hM).1 i h1
  ·exact .inr (xb hw h1)
def Grow.weak {B B':Kd} {M:Bool} {w w1 w':zr} (h:Grow B B' M w w'):Grow B B' false w1 w':=⟨h.le,h.new,h.out,fun h=>by cases h⟩
def Grow.later {B B':Kd} {w w1 w' w2:zr} (h:Grow B B' false w w') (hs:w'.heap.size<=w2.heap.size):Grow B B' false w1 w2:=⟨h.le,fun k hk=>(h.new k hk).imp id fun b=>zG b hs,h.out,fun h=>by cases h⟩
def Grow.old {B B':Kd} {M:Bool} {w w':zr} (h:Grow B B' M w w') (hB:Old B w'):Old B' w':=fun k hk=>(h.new k hk).elim (hB k) id
def HRel.gr {I':Env} {B:Kd} {M:Bool} {w w':zr} {hp':Hp} {nx':Nat} (h:HRel I' B hp' nx' w'):∃B',Grow B B' M w w'∧HRel I' B' hp' nx' w':=⟨B,Grow.refl B M w w',h⟩
structure Left [Globs] (I:Env) (B:Kd) (nx:Nat) (w:zr) (r:Res) (M:Bool) (I':Env) (w':zr):Prop where
 agree:jah nx I I'
 lt:r.v.lt r.nx
 le:nx<=r.nx
 heap:∃B',Grow B B' M w w'∧HRel I' B' r.hp r.nx w'
 below:Bel B w w'
 mono:M=true->yn w.heap.size w w'
 fresh:M=true->∀h o k,nx<=h->find r.hp h=some o->o.blk (I' h)=some k->w.heap.size<=k
def jaD (P:zP) (I:Env) (B:Kd) (nx:Nat) (a:Act) (w:zr) (o:qu) (r:Res) (M:Bool):Prop :=∀(K:Act->zr->Prop) (Q:Exit->Act->zr->Prop),(∀I' w',Left I B nx w r M I' w'->K (a.put o.dst (r.v.val I')) w')->o.wp P a w K Q
def upd (I:Env) (n:Nat) (v:zs):Env:=fun h=>if h=n then v else I h
def jar (I:Env) (n:Nat) (v:zs):jah n I (upd I n v):=fun h hh=>by simp[upd,Nat.ne_of_lt hh]
@[simp] theorem upd_same (I:Env) (n:Nat) (v:zs):upd I n v n=v:=by simp[upd]
def jap {o:qu} {r:Res} {M:Bool} {I':Env} {w':zr} (h:(xg a.eval o).run P w=.ok (.value (r.v.val I')) w') (hl:Left I B nx w r M I' w'):jaD P I B nx a w o r M:=by
 intro K Q hK;unfold g7;rw[h];exact hK I' w' hl
def jcn {o:qu} {r:Res} {M:Bool} {I':Env} {w':zr} (h:(xg a.eval o).run P w=.ok .skip w') (hv:r.v.val I'=zJ) (hl:Left I B nx w r M I' w'):jaD P I B nx a w o r M:=by
 intro K Q hK;unfold g7;rw[h];have:=hK I' w' hl;rw[hv]at this;exact this
def jbm {r:Res} (hh:HRel I B hp nx w) (hB:Old B w) (v:zs) (cells:Array zs) (ty:Nat) (obj:O) (hr:r.hp=(nx,obj)::hp) (hn:r.nx=nx+1) (hv:r.v.lt (nx+1)) (M:Bool)
  (hl:obj.lt (nx+1)) (ho:obj.ok (upd I nx v) B (w.alloc (.cells cells ty)) nx) (hb:∀k,obj.blk v=some k->w.heap.size<=k) :
  Left I B nx w r M (upd I nx v) (w.alloc (.cells cells ty)):=by
 have hbel:yn w.heap.size w (w.alloc (.cells cells ty)):=(xM _ w).alloc (zp _) _;refine⟨jar _ _ _,by rw[hn];exact hv,by omega,HRel.gr ?_,jc2 hbel hB,fun _=>hbel,fun _ h o k hnh hf hk=>?_⟩
 ·rw[hr,hn];exact hh.add hbel hB (jar _ _ _) hl ho (by simpa using hb)
 ·rw[hr]at hf;simp only[find]at hf;split at hf
  ·rename_i e;subst e;cases hf;rw[upd_same]at hk;exact hb k hk
  ·have:=(hh.ok h o hf).1;omega
def jzd {cs:List C} {ty:Nat} (hB:Old B w) (hl:∀c∈cs,C.lt nx c) :
  (O.box ty cs).ok (upd I nx (.pointer (some ⟨w.heap.size,0,none⟩))) B (w.alloc (.cells (cs.map (C.val I)).toArray ty)) nx:=by
 refine⟨w.heap.size,by simp,fun hc=>fI _ (hB _ hc),?_⟩;rw[jd]
 congr 3
 exact qx fun c hc=>(C.val_agree (jar I nx _) (hl c hc)).symm
def jtP {c:Cont} {ty:Nat} (hB:Old B w) (hm:c.n<=9223372036854775807) :
  (O.row ty c).ok (upd I nx (.slice (some ⟨w.heap.size,0,none⟩) c.n c.n)) B (w.alloc (.cells (c.flat.map D.val).toArray ty)) nx:=by
 refine⟨⟨by simp[Cont.flat_length],.inr ⟨w.heap.size,c.n,_,by simp,xE _,jd w _,zp _,by simpa [maxLen]using hm,by simp[Cont.flat_length],?_⟩⟩,fun k hk hc=>?_⟩
 rotate_left
 ·simp[zU]at hk;have:=hB k hc;omega
 rw[<-Cont.flat_length];exact List.take_of_length_le (by simp)
def jze {o:qu} {elem:Nat} {x:zZ} {u:W} (hh:HRel I B hp nx w) (hB:Old B w) (hr:jaB I nx rd a) (ho:o.op=.box elem x) (hx:rd x=some (.w u)) (hone:u.one hp=true) :
  jaD P I B nx a w o ⟨True,.w (.c (.p nx 0 1 0)),(nx,.box elem u.cells)::hp,nx+1⟩ true:=by
 have h1:=hr _ _ hx;have hc:=W.cells_val hh hone;have hlt:∀c∈u.cells,C.lt nx c:=W.cells_lt h1.1
 refine jap (I':=upd I nx (.pointer (some ⟨w.heap.size,0,none⟩))) (w':=w.alloc (.cells (u.cells.map (C.val I)).toArray elem)) ?_
  (jbm hh hB _ _ _ (.box elem u.cells) rfl rfl (show V.lt (nx+1) (.w (.c (.p nx 0 1 0)))from zo nx) true (fun c hc=>C.lt_mono (xu nx) (hlt c hc)) (jzd hB hlt) (by simp[O.blk,base]))
 unfold xg;simp only[ho,kX,newVar,gL,zq,gh,zn,zt,h1.2,V.val,hc];simp[W.val,C.val,base]
def jvY {o:qu} {elem:Nat} {z:List C} (hh:HRel I B hp nx w) (hB:Old B w) (ho:o.op=.alloc elem) (hz:jaA P elem=some z) :
  jaD P I B nx a w o ⟨True,.w (.c (.p nx 0 1 0)),(nx,.box elem z)::hp,nx+1⟩ true:=by
 obtain⟨v,hv,hvc,hlt⟩:=jaX (P:=P) (w:=w) (I:=I) hz
 refine jap (I':=upd I nx (.pointer (some ⟨w.heap.size,0,none⟩))) (w':=w.alloc (.cells (z.map (C.val I)).toArray elem)) ?_
  (jbm hh hB _ _ _ (.box elem z) rfl rfl (show V.lt (nx+1) (.w (.c (.p nx 0 1 0)))from zo nx) true (hlt (nx+1)) (jzd hB (hlt nx)) (by simp[O.blk,base]))
 unfold xg;simp only[ho,kP,newVar,gL,zq,gh,zn,zt,hv,hvc];simp[V.val,W.val,C.val,base]
def jpn {elem n:Nat} {parts:List (Nat × W)} {c:Cont} (hh:HRel I B hp nx w) (h:jfa P elem n parts=some c) (hp':∀x∈parts,x.2.one hp=true∧x.2.lt nx) (t:Nat) (hu:P.underlying t=some (.slice elem)) :
  (yQ t n (parts.map fun x=>(x.1,x.2.val I)).toArray).run P w=.ok (.slice (some ⟨w.heap.size,0,none⟩) n n) (w.alloc (.cells (c.flat.map D.val).toArray elem))∧c.n=n∧n<=4096:=by
 unfold jfa at h;split at h
 ·rename_i z e hz hs;split at h
  ·rename_i hzl;split at h
   ·rename_i out zd hout hzd;split at h
    ·rename_i ds hds;obtain⟨v,hv,hvc,hlt⟩:=jaX (P:=P) (w:=w) (I:=I) hz
     have hf:=jd7 (I:=I) _ hh parts _ out hout hp' (fun c hc=>by
      obtain⟨l,hl,hc'⟩:=List.mem_flatten.1 hc;rw[List.eq_of_mem_replicate hl]at hc';exact hlt nx c hc')
     have hoe:=jbS hds
     have hlen:ds.length=n*(e+1):=by
      have:=hf.2.2;rw[hoe]at this;simpa [hzl.1]using this
     have hck:=jjq (e+1) n ds hlen;have hmk:=jdH h;have hle:n*(e+1)<=4096:=hzl.2;have hn:n<=4096:=xb (Nat.le_mul_of_pos_right n (jj e)) hle;refine⟨?_,by rw[hmk.2.1,hck.2],hn⟩;have hvs:v.cells.size=e+1:=by rw[hvc];simp[hzl.1]
     have e1:¬(n*(e+1)>2^24):=by omega
     have hcells:∀zz:Array zs,(n*(e+1)≠0->zz=v.cells)->(kh (n*(e+1))).map (zz[· % zz.size]!)=((zh n z).flatten.map (C.val I)).toArray:=by
      intro zz hzz
      by_cases h0:n*(e+1)=0
      ·have hn0:n=0:=by
        rcases gy.1 h0 with h|h
        ·exact h
        ·omega
       subst hn0;simp
      ·rw[hzz h0];have:=jf6 v.cells n;apply xf;simp only[jT,hvs]at this;simp only[hvs];rw[this,hvc];simp
     have hfin:(do
       let some cells:=fJ (fun i=>some (i*(e+1),e+1)) ((zh n z).flatten.map (C.val I)).toArray (parts.map fun x=>(x.1,x.2.val I))|stuck "buildSlice: a part of the wrong size"
       pure (.slice (some (<-gL elem cells)) n n):Sem zs).run P w=.ok (.slice (some ⟨w.heap.size,0,none⟩) n n) (w.alloc (.cells (c.flat.map D.val).toArray elem)):=by
      simp only[hf.1,gL,zq,gh,zn,zt];simp only[hmk.1,hck.1,hoe,xV];rfl
     by_cases h0:n*(e+1)=0
     ·have hn0:n=0:=by
       rcases gy.1 h0 with h|h
       ·exact h
       ·omega
      subst hn0;have h3:=hcells #[] (fun h=>absurd h0 h);have e2:¬(0*(e+1)>2^24):=by omega
      simp only[yQ,zq,zX hu,zn,jaR w hs,jG];rw[if_neg e2,if_pos h0];simp only[zq,zt,zn,h3];exact hfin
     ·simp only[yQ,zq,zX hu,zn,jaR w hs,jG];rw[if_neg e1,if_neg h0];simp only[zq,zt,zn,hv,hcells v.cells (fun _=>rfl)];exact hfin
    ·cases h
   ·cases h
  ·cases h
 ·cases h
def job {o:qu} {t n elem:Nat} {parts:Array (Nat × zZ)} {l:List (Nat × W)} {c:Cont} (hh:HRel I B hp nx w) (hB:Old B w) (hr:jaB I nx rd a) (ho:o.op=.buildSlice t n parts)
  (hu:P.underlying t=some (.slice elem)) (hl:jcB rd hp parts.toList=some l) (hc:jfa P elem n l=some c) :
  jaD P I B nx a w o ⟨True,.w (.c (.o nx)),(nx,.row elem c)::hp,nx+1⟩ true:=by
 have hps:=jdG hr parts.toList l hl;have hb:=jpn (w:=w) (I:=I) hh hc hps.2 t hu
 refine jap (I':=upd I nx (.slice (some ⟨w.heap.size,0,none⟩) c.n c.n)) (w':=w.alloc (.cells (c.flat.map D.val).toArray elem)) ?_
  (jbm hh hB _ _ _ (.row elem c) rfl rfl (show V.lt (nx+1) (.w (.c (.o nx)))from zo nx) true trivial (jtP hB (by omega)) (by simp[O.blk,zU]))
 unfold xg
 have he:(parts.map fun(i,x)=>(i,a.eval x))=(l.map fun x=>(x.1,x.2.val I)).toArray:=by
  rw[<-hps.1];apply xf;simp
 simp only[ho,he,zq,hb.1,zn,zt];simp[V.val,W.val,C.val,hb.2.1]
def jpo {o:qu} {t elem e b:Nat} {x y:zZ} {k k':IntKind} {n m:Int} {u u':V} {z:List D} {c:Cont} (hh:HRel I B hp nx w) (hB:Old B w) (hr:jaB I nx rd a) (ho:o.op=.makeSlice t x y)
  (hu:P.underlying t=some (.slice elem)) (hx:rd x=some u) (hx':u.int?=some (k,n)) (hy:rd y=some u') (hy':u'.int?=some (k',m))
  (hz:(jaA P elem).bind jbh=some z) (hs:szT P elem=some (e+1)) (hb:jaU P elem=some b) (hzl:z.length=e+1) (hc:jf5 z n.toNat=some c)
  (hob:0<=n∧n=m∧(b:Int)*n<=281474976710656∧n<=9223372036854775807) :
  jaD P I B nx a w o ⟨0<=n∧n=m∧(b:Int)*n<=281474976710656∧n<=9223372036854775807,.w (.c (.o nx)),(nx,.row elem c)::hp,nx+1⟩ true:=by
 obtain⟨h0,rfl,h2,h3⟩:=hob;have h1:=hr _ _ hx;have h1':=hr _ _ hy;rw[V.int?_eq hx']at h1;rw[V.int?_eq hy']at h1';have hrc:=jkW hc;cases hi:P.info? elem with
 |none=>simp[szT,hi]at hs
 |some i =>
  have hsz:i.size=e+1:=by simpa [szT,hi]using hs
  have hby:i.bytes=b:=by simpa [jaU,hi]using hb
  cases hzz:i.zero with
  |none=>simp[jaA,hi,hzz]at hz
  |some zv =>
   cases hzc:jaA P elem with
   |none=>simp[hzc]at hz
   |some zc =>
    simp only[hzc,zV]at hz;obtain⟨v,hv,hvc,_⟩:=jaX (P:=P) (w:=w) (I:=I) hzc
    have hvz:v=zv:=by
     simp[yH,yX,hi,hzz]at hv;exact hv.symm
    subst hvz;have hzce:=jbS hz;have hm:=run_make (P:=P) w t elem i v hu hi hzz k k' n n h0 (Int.le_refl _) (by rw[hby];exact h2) h3
    have hcells:jT v.cells (n.toNat*i.size)=(c.flat.map D.val).toArray:=by
     apply xf;have:=jf6 v.cells n.toNat;have hvs:v.cells.size=e+1:=by rw[hvc,hzce];simp[hzl]
     rw[hvs]at this;rw[hsz,this,hrc.1,hvc,hzce];simp only[xV];rw[List.map_flatten,List.map_replicate];rfl
    rw[hcells]at hm
    refine jap (I':=upd I nx (.slice (some ⟨w.heap.size,0,none⟩) c.n c.n)) (w':=w.alloc (.cells (c.flat.map D.val).toArray elem)) ?_
     (jbm hh hB _ _ _ (.row elem c) rfl rfl (show V.lt (nx+1) (.w (.c (.o nx)))from zo nx) true trivial (jtP hB (by omega)) (by simp[O.blk,zU]))
    unfold xg;simp only[ho,h1.2,h1'.2,vi_val,zq,hm,zn,zt];simp[V.val,W.val,C.val,hrc.2.1]
end
end Go.Sx
end

section
open Go.RowKit
namespace Go.Sx
section
variable [Globs] {P:zP} {I:Env} {B:Kd} {nx:Nat} {hp:Hp} {w:zr} {rd:zZ->Option V} {a:Act}
def nkp {B:Kd} {g:Nat} (h:¬B.all g):¬B.kp g:=fun x=>h (.inl x)
def jdg {G:Nat->Prop} {w':zr} (hw:∀k,k<w.heap.size->¬G k->w'.heap[k]?=w.heap[k]?) (hg:∀k,G k->¬B.kp k) {b o:Nat} {v:zs} (hb:B.kp b) (h:w.cell? ⟨b,o,none⟩=some v):w'.cell? ⟨b,o,none⟩=some v:=by
 rw[<-h];exact xj (hw b (xe w _ h) (fun e=>hg _ e hb))
def jtQ {G:Nat->Prop} {k n:Nat} {w':zr} (hw:∀k,k<w.heap.size->¬G k->w'.heap[k]?=w.heap[k]?) (hg:∀k,G k->¬B.kp k) (hk:B.kp k) (h:∃cs t f,w.heap[k]?=some (.cells cs t f)∧cs.size=n):∃cs t f,w'.heap[k]?=some (.cells cs t f)∧cs.size=n:=by
 obtain⟨cs,t,f,h1,h2⟩:=h;exact⟨cs,t,f,(hw k (zM.1 h1).1 (fun e=>hg _ e hk)).trans h1,h2⟩
def jit {G:Nat->Prop} {w':zr} (hw:∀k,k<w.heap.size->¬G k->w'.heap[k]?=w.heap[k]?) (hg:∀k,G k->¬B.kp k) (h:jby B w):jby B w' :=
 ⟨fun y c hy=>⟨(h.1 y c hy).1,fun j x hj=>jdg hw hg (h.1 y c hy).1 ((h.1 y c hy).2.1 j x hj),jtQ hw hg (h.1 y c hy).1 (h.1 y c hy).2.2⟩,fun y p hy=>let ⟨h1,v,h2,h3⟩:=h.2 y p hy; ⟨h1,v,jdg hw hg h1 h2,h3⟩⟩
def jdK {G:Nat->Prop} {w':zr} (hw:∀k,k<w.heap.size->¬G k->w'.heap[k]?=w.heap[k]?) (hg:∀k,G k->¬B.kp k) {v:zs} {c:Cont} (h:jaH w v c) (ho:jbK B v):jaH w' v c:=by
 obtain⟨a',cap,h1,h2,h3⟩:=h;refine⟨a',cap,h1,h2,fun hn=>?_⟩;obtain⟨b,off,hab,hx⟩:=h3 hn;subst hab;exact⟨b,off,rfl,fun j x hj=>jdg hw hg (ho _ _ _ h1 hn) (hx j x hj)⟩
def O.isV:O->Bool| .view _ _ _=>true| .sub _ _ _ _ _ _=>true|_=>false
def O.ok_exceptS {G:Nat->Prop} {h:Nat} {w':zr} (hw:∀k,k<w.heap.size->¬G k->w'.heap[k]?=w.heap[k]?) (hg:∀k,G k->¬B.all k):∀{o:O},o.ok I B w h->(∀k,o.blk (I h)=some k->¬G k)->o.isV=false->o.ok I B w' h
 | .box ty cs,⟨k,h1,h2,h3⟩,hb,_=>by
  refine⟨k,h1,h2,?_⟩;rw[hw k (zM.1 h3).1 (fun e=>hb k (by simp[O.blk,h1,base]) e),h3]
 | .row ty c,hr,hb,_=>by
  refine⟨⟨hr.1.1,?_⟩,hr.2⟩;rcases hr.1.2 with hn|⟨k,cap,cur,h1,h2,h3,h4⟩
  ·exact .inl hn
  ·exact .inr ⟨k,cap,cur,h1,h2,by rw[hw k (zM.1 h3).1 (fun e=>hb k (by simp[O.blk,zU,h1]) e)];exact h3,h4⟩
 | .ext c,⟨⟨a',cap,h1,h2,h3⟩,ho⟩,_,_=>by
  refine⟨⟨a',cap,h1,h2,fun hn=>?_⟩,ho⟩;obtain⟨b,off,hab,hx⟩:=h3 hn;refine⟨b,off,hab,fun j x hj=>?_⟩;subst hab;have hlt:=ho _ _ _ h1 hn;simp only at hlt;rw[<-hx j x hj];have hc:=xe w _ (hx j x hj);exact xj (hw b hc (fun e=>nkp (hg _ e) hlt))
 | .view r c fl,_,_,hv=>by cases hv
 | .sub _ _ _ _ _ _,_,_,hv=>by cases hv
 | .dead,_,_,_=>trivial
 | .nan _,h,_,_=>h
 | .err,h,_,_=>h
 | .atom,h,_,_=>h
 | .ebox cs,⟨k,o,h1,h2,h3⟩,_,_=>⟨k,o,h1,h2,fun j c hj=>jdg hw (fun k hk=>nkp (hg k hk)) h2 (h3 j c hj)⟩
 | .arr ty _ _,⟨k,h1,h2,h3⟩,hb,_=>by
  refine⟨k,h1,h2,?_⟩;rw[hw k (zM.1 h3).1 (fun e=>hb k (by simp[O.blk,h1,base]) e),h3]
 | .mrow ty ts X ho,⟨us,hr,hi,hd,hk⟩,hb,_=>by
  have own:∀{ty e n:Nat} {v:zs} {cs:List zs},(∀k,v.ownBlock=some k->¬G k)->w.ownsRow 0 ty e v n cs->w'.ownsRow 0 ty e v n cs:=fun hne hr=>by
   refine⟨hr.1,?_⟩;rcases hr.2 with hn|⟨k,cap,cur,h1,h2,h3,h4⟩
   ·exact .inl hn
   ·exact .inr ⟨k,cap,cur,h1,h2,(hw k (zM.1 h3).1 (hne k (by simp[h1,zU]))).trans h3,h4⟩
  refine⟨us,own (fun k h1=>hb k h1) hr,fun i j h1 h2 h3=>?_,hd,hk⟩;obtain⟨u,hu,hux⟩:=hi i j h1 h2 h3;refine⟨u,hu,?_⟩;cases hc:X.cell i j with
  |d x=>rw[hc]at hux;exact hux
  |r c =>
   rw[hc]at hux;exact⟨own (fun k h1 e=>hg k e (.inr (by rw[hux.2 k h1];simp))) hux.1,hux.2⟩
 | .trow ty ts X m,⟨us,hr,hi,hd,hk⟩,hb,_=>by
  have own:∀{ty e n:Nat} {v:zs} {cs:List zs},(∀k,v.ownBlock=some k->¬G k)->w.ownsRow 0 ty e v n cs->w'.ownsRow 0 ty e v n cs:=fun hne hr=>by
   refine⟨hr.1,?_⟩;rcases hr.2 with hn|⟨k,cap,cur,h1,h2,h3,h4⟩
   ·exact .inl hn
   ·exact .inr ⟨k,cap,cur,h1,h2,(hw k (zM.1 h3).1 (hne k (by simp[h1,zU]))).trans h3,h4⟩
  refine⟨us,own (fun k h1=>hb k h1) hr,fun i j h1 h2=>?_,hd,hk⟩;obtain⟨u,hu,hux,hua⟩:=hi i j h1 h2;refine⟨u,hu,fun h3=>?_,fun h3=>?_⟩
  ·have hux:=hux h3;cases hc:X.cell i j with
   |d x=>rw[hc]at hux;exact hux
   |r c =>
    rw[hc]at hux;exact⟨own (fun k h1 e=>hg k e (.inr (by rw[hux.2 k h1];simp))) hux.1,hux.2⟩
  ·have hua:=hua h3;cases hc:X.cell i j with
   |d x=>rw[hc]at hua;exact hua
   |r c=>rw[hc]at hua;exact⟨jdK hw (fun k hk=>nkp (hg k hk)) hua.1 hua.2,hua.2⟩
 | .fext c,⟨h1,h2⟩,_,_=>⟨jdK hw (fun k hk=>nkp (hg k hk)) h1 (jaW B.sub h2),h2⟩
 | .xrow ty X,⟨us,hr,hi,hk⟩,hb,_=>by
  refine⟨us,⟨hr.1,?_⟩,fun i j h1 h2=>?_,hk⟩
  ·rcases hr.2 with hn|⟨k,cap,cur,h1,h2,h3,h4⟩
   ·exact .inl hn
   ·refine .inr ⟨k,cap,cur,h1,h2,(hw k (zM.1 h3).1 (fun e=>hb k (by simp[O.blk,h1,zU]) e)).trans h3,h4⟩
  ·obtain⟨u,hu,hux⟩:=hi i j h1 h2;refine⟨u,hu,?_⟩;cases hc:X.cell i j with
   |d x=>rw[hc]at hux;exact hux
   |r c=>rw[hc]at hux;exact⟨jdK hw (fun k hk=>nkp (hg k hk)) hux.1 (jaW B.sub hux.2),hux.2⟩
 | .xext X,⟨a',cap,h1,h2,h3⟩,_,_=>by
  refine⟨a',cap,h1,h2,fun hn=>?_⟩;obtain⟨b,off,hab,hB,hx⟩:=h3 hn;refine⟨b,off,hab,hB,fun i j hi hj=>?_⟩;obtain⟨u,hu,hux⟩:=hx i j hi hj;refine⟨u,jdg hw (fun k hk=>nkp (hg k hk)) hB hu,?_⟩
  generalize X.cell i j=nc at *
  cases nc with
  |d x=>exact hux
  |r c=>exact⟨jdK hw (fun k hk=>nkp (hg k hk)) hux.1 hux.2,hux.2⟩
def jj7 {g:Nat} {w':zr} (hw:∀k,k<w.heap.size->k≠g->w'.heap[k]?=w.heap[k]?) (hg:¬B.kp g) (h:jby B w):jby B w':=jit (G:=(·= g)) hw (fun _ e=>e ▸ hg) h
def O.ok_except {h g:Nat} {w':zr} (hw:∀k,k<w.heap.size->k≠g->w'.heap[k]?=w.heap[k]?) (hg:¬B.all g) {o:O} (hok:o.ok I B w h) (hb:o.blk (I h)≠some g) (hv:o.isV=false):o.ok I B w' h :=O.ok_exceptS (G:=(·= g)) hw (fun _ e=>e ▸ hg) hok (fun _ hk e=>hb (e ▸ hk)) hv
def jaI {h:Nat} {o:O} (hh:HRel I B hp nx w) (hf:find (jaj hp) h=some o):∃o1,find hp h=some o1∧h<nx∧o.lt nx∧o.ok I B w h∧o.isV=false∧∀k,o.blk (I h)=some k->o1.blk (I h)=some k:=by
 rw[jay]at hf;cases h1:find hp h with
 |none=>simp[h1]at hf
 |some o1 =>
  simp only[h1,qk,zj]at hf;have hok:=hh.ok h o1 h1;refine⟨o1,rfl,hok.1,?_⟩;cases o1 with
  |view r c fl=>subst hf;exact⟨trivial,trivial,rfl,fun k hk=>by simp[O.blk]at hk⟩
  |sub r i e j ty c=>subst hf;exact⟨trivial,trivial,rfl,fun k hk=>by simp[O.blk]at hk⟩
  |_=>subst hf;exact⟨hok.2.1,hok.2.2,rfl,fun k hk=>hk⟩
def HRel.write {w':zr} {h g:Nat} {o o':O} (hh:HRel I B hp nx w) (hf:find hp h=some o) (hb:o.blk (I h)=some g)
  (hw:∀k,k<w.heap.size->k≠g->w'.heap[k]?=w.heap[k]?) (ho':o'.ok I B w' h) (hl:o'.lt nx) (hb':∀k,o'.blk (I h)=some k->k=g) :
  HRel I B ((h,o')::jaj hp) nx w':=by
 have hok:=hh.ok h o hf;have hg:=O.blk_lt hok.2.2 hb;refine⟨?_,?_,jj7 hw (nkp hg.2) hh.glob⟩
 ·intro k o1 hk;simp only[find]at hk;split at hk
  ·rename_i e;subst e;cases hk;exact⟨hok.1,hl,ho'⟩
  ·rename_i hne;obtain⟨o2,h2,h3,h4,h5,h6,h7⟩:=jaI hh hk;refine⟨h3,h4,O.ok_except hw hg.2 h5 (fun e=>?_) h6⟩;exact hh.apart h o k o2 g hf h2 hne hb (h7 g e)
 ·intro k o1 k' o1' b hk hk' hne hbk hbk';simp only[find]at hk hk';split at hk
  ·rename_i e;subst e;cases hk;rw[if_neg hne]at hk';obtain⟨o2,h2,_,_,_,_,h7⟩:=jaI hh hk';have:=hb' b hbk;subst this;exact hh.apart h o k' o2 _ hf h2 hne hb (h7 _ hbk')
  ·rename_i hne2;split at hk'
   ·rename_i e;subst e;cases hk';obtain⟨o2,h2,_,_,_,_,h7⟩:=jaI hh hk;have:=hb' b hbk';subst this;exact hh.apart h o k o2 _ hf h2 hne2 hb (h7 _ hbk)
   ·obtain⟨o2,h2,_,_,_,_,h7⟩:=jaI hh hk;obtain⟨o3,h3,_,_,_,_,h8⟩:=jaI hh hk';exact hh.apart k o2 k' o3 b h2 h3 hne (h7 b hbk) (h8 b hbk')
def jci {w:zr} {B:Kd} {g:Nat} {cs:Array zs} (hg:¬B.all g):Bel B w (w.setRow g cs) :=⟨rfl,rfl,rfl,by simp,fun k hk=>yC w g k cs (fun e=>nkp hg (e ▸ hk))⟩
def jbM {t g:Nat} {off:Nat} {cur:Array zs} {ty:Nat} {v:zs} (hs:szT P t=some v.cells.size) (hg:w.heap[g]?=some (.cells cur ty (0,0))) (hle:off+v.cells.size<=cur.size) (h1:∀x∈v.cells.toList,x.oneCell'=true) :
  (storeVar t ⟨g,off,none⟩ v).run P w=.ok () (w.setRow g (cur.toList.take off++v.cells.toList++cur.toList.drop (off+v.cells.size)).toArray):=by
 have hst:=run_storeCells_at P g off ty v.cells.toList 0 cur w hg (by simpa using hle) h1;simp only[storeVar,zq,jaR w hs,zn,ne_eq,not_true_eq_false,if_false];simpa using hst
def jcK {u:W} (hh:HRel I B hp nx w) (h:(u.cells.all fun c=>c.one hp)=true):∀x∈(u.cells.map (C.val I)),x.oneCell'=true:=by
 intro x hx;obtain⟨c,hc,rfl⟩:=qn.1 hx;exact C.one_val hh (zy.1 h c hc)
def jqG {o:qu} {t h i e j ty:Nat} {x y:zZ} {u:W} {cs:List C} (hh:HRel I B hp nx w) (hr:jaB I nx rd a) (ho:o.op=.store t x y)
  (hx:rd x=some (.w (.c (.p h i e j)))) (hy:rd y=some (.w u)) (hone:u.one hp=true) (hs:szT P t=some u.cells.length) (hall:(u.cells.all fun c=>c.one hp)=true)
  (hf:find hp h=some (.box ty cs)) (hle:i*e+j+u.cells.length<=cs.length) :
  jaD P I B nx a w o ⟨True,vu,(h,.box ty (cs.take (i*e+j)++u.cells++cs.drop (i*e+j+u.cells.length)))::jaj hp,nx⟩ false:=by
 have h1:=hr _ _ hx;have h2:=hr _ _ hy;obtain⟨hlt,hol,g,hk,hBg,hheap⟩:=hh.ok h _ hf;have hc:=W.cells_val hh hone;have hvs:(u.val I).cells.size=u.cells.length:=by rw[hc];simp
 have hst:=jbM (P:=P) (t:=t) (g:=g) (off:=i*e+j) (v:=u.val I) (by rw[hvs];exact hs) hheap (by rw[hvs];simpa using hle) (by rw[hc];exact jcK hh hall);refine jcn (I':=I) (w':=w.setRow g (((cs.map (C.val I)).toArray.toList.take (i*e+j)++(u.val I).cells.toList++(cs.map (C.val I)).toArray.toList.drop (i*e+j+(u.val I).cells.size)).toArray)) ?_ rfl ?_
 ·unfold xg;have h1v:a.eval x=.pointer (some ⟨g,i*e+j,none⟩):=by rw[h1.2];simp[C.val,hk,base]
  have h2v:a.eval y=u.val I:=h2.2;simp only[ho,h1v,h2v,ja,xh,zq,zt,zn,hst]
 ·refine⟨jah.refl _ _,trivial,zp _,HRel.gr ?_,jci hBg,(fun h=>by cases h),fun h=>by cases h⟩;refine HRel.write hh hf (g:=g) (by simp[O.blk,hk,base]) (fun k _ hne=>yC w g k _ hne) ?_ ?_ (by simp[O.blk,hk,base])
  ·refine⟨g,hk,hBg,?_⟩;rw[jh w g _ _ ty (0,0) hheap,hc];simp
  ·intro c hcm;rcases qR.1 hcm with hcm|hcm
   ·rcases qR.1 hcm with hcm|hcm
    ·exact hol c (yD hcm)
    ·exact W.cells_lt h2.1 c hcm
   ·exact hol c (jt hcm)
def jpp (c c':Cont) (i j:Nat) (ds:List D):Prop :=
 c'.n=c.n∧c'.e=c.e∧j+ds.length<=c.e ∧ ∀k m,m<c.e->c'.cell k m=if k=i∧j<=m∧m<j+ds.length then ds.getD (m-j) (.v zJ)else c.cell k m
def jtR {c c':Cont} {i j:Nat} {ds:List D} (h:jpp c c' i j ds) (hi:i<c.n) (he:0<c.e) (tail:List zs) :
  ((c.flat.map D.val++tail).take (i*c.e+j)++ds.map D.val++(c.flat.map D.val++tail).drop (i*c.e+j+ds.length)).take (c'.n*c'.e)=c'.flat.map D.val:=by
 obtain⟨hn,hee,hle,hcell⟩:=h
 have hin:i*c.e+j+ds.length<=c.n*c.e:=by
  have:(i+1)*c.e<=c.n*c.e:=qb _ hi;rw[qE]at this;omega
 have hfl:=c.flat_length;have hfl':=c'.flat_length;apply xA;intro t
 by_cases ht:t<c.n*c.e
 ·have hq:t/c.e<c.n:=yE (by rw[xI];exact ht);have hm:=ya t he;have hdm:t/c.e*c.e+t%c.e=t:=by rw[xI];exact yu t c.e
  have hc':c'.flat[t]?=some (c'.cell (t/c.e) (t%c.e)):=by
   have:=c'.flat_get (i:=t/c.e) (j:=t%c.e) (by omega) (by omega);rw[hee,hdm]at this;exact this
  have hc:c.flat[t]?=some (c.cell (t/c.e) (t%c.e)):=by
   have:=c.flat_get (i:=t/c.e) (j:=t%c.e) hq hm;rw[hdm]at this;exact this
  rw[zR,hc',hcell _ _ hm];rw[qg,if_pos (by rw[hn,hee];exact ht)]
  have hrange:(t/c.e=i∧j<=t%c.e∧t%c.e<j+ds.length)<->(i*c.e+j<=t∧t<i*c.e+j+ds.length):=by
   constructor
   ·rintro ⟨h1,h2,h3⟩;rw[h1]at hdm;omega
   ·rintro ⟨h1,h2⟩
    have hti:t/c.e=i:=by
     apply Nat.div_eq_of_lt_le
     ·omega
     ·rw[qE];omega
    rw[hti]at hdm;exact⟨hti,by omega,by omega⟩
  by_cases hr:i*c.e+j<=t∧t<i*c.e+j+ds.length
  ·rw[if_pos (hrange.2 hr)];obtain⟨h1,h2,h3⟩:=hrange.2 hr;have hdm2:i*c.e+t%c.e=t:=by rw[<-h1];exact hdm
   rw[qF,qj (by simp;omega),qf (by simp;omega)];simp only[xn,qc,qh];have hmin:min (i*c.e+j) (c.flat.length+tail.length)=i*c.e+j:=by omega
   rw[hmin,zR];have hidx:t-(i*c.e+j)=t%c.e-j:=by omega
   have hlt:t%c.e-j<ds.length:=by omega
   rw[hidx];simp[zb,hlt]
  ·rw[if_neg (fun h=>hr (hrange.1 h))]
   by_cases hlo:t<i*c.e+j
   ·rw[qF,qf (by simp;omega),qg,if_pos hlo,qf (by simp;omega),zR,hc]
   ·rw[qj (by simp;omega)];simp only[qc,xn,qh];have hmin:min (i*c.e+j) (c.flat.length+tail.length)=i*c.e+j:=by omega
    rw[hmin,yA];have hidx:i*c.e+j+ds.length+(t-(i*c.e+j+ds.length))=t:=by omega
    rw[hidx,qf (by simp;omega),zR,hc]
 ·rw[z7 (by simp only[xn,hn,hee];omega),z7 (by simp only[qh,hfl',hn,hee];omega)]
def jeJ {o:qu} {t h i e j ty:Nat} {x y:zZ} {u:W} {c c':Cont} {ds:List D} (hh:HRel I B hp nx w) (hr:jaB I nx rd a) (ho:o.op=.store t x y)
  (hx:rd x=some (.w (.c (.p h i e j)))) (hy:rd y=some (.w u)) (hone:u.one hp=true) (hs:szT P t=some u.cells.length) (hall:(u.cells.all fun c=>c.one hp)=true)
  (hf:find hp h=some (.row ty c)) (hds:jbh u.cells=some ds) (hupd:jpp c c' i j ds) (he:e=c.e) (he0:0<e) (hi:i<c.n) :
  jaD P I B nx a w o ⟨i<c.n,vu,(h,.row ty c')::jaj hp,nx⟩ false:=by
 subst he;have h1:=hr _ _ hx;have h2:=hr _ _ hy;obtain⟨hlt,hol,hok⟩:=hh.ok h _ hf;obtain⟨⟨hlen,hcase⟩,hBk⟩:=hok;rcases hcase with ⟨_,hn⟩|⟨g,cap,cur,hk,_,hheap,hncap,hcapm,hcs,htk⟩
 ·omega
 have hBg:¬B.all g:=hBk g (by rw[hk];rfl);obtain⟨hn',hee,hle,_⟩:=id hupd;have hc:=W.cells_val hh hone;have hdse:=jbS hds;have hul:u.cells.length=ds.length:=by rw[hdse];simp
 have hvs:(u.val I).cells.size=u.cells.length:=by rw[hc];simp
 have hin:i*c.e+j+ds.length<=c.n*c.e:=by
  have:(i+1)*c.e<=c.n*c.e:=qb _ hi;rw[qE]at this;omega
 have hcapsz:c.n*c.e<=cap*c.e:=qb _ hncap;have hst:=jbM (P:=P) (t:=t) (g:=g) (off:=i*c.e+j) (v:=u.val I) (by rw[hvs];exact hs) hheap (by rw[hvs,hul,hcs];omega) (by rw[hc];exact jcK hh hall);refine jcn (I':=I) (w':=w.setRow g ((cur.toList.take (i*c.e+j)++(u.val I).cells.toList++cur.toList.drop (i*c.e+j+(u.val I).cells.size)).toArray)) ?_ rfl ?_
 ·unfold xg;have h1v:a.eval x=.pointer (some ⟨g,i*c.e+j,none⟩):=by rw[h1.2];simp[C.val,hk,base]
  have h2v:a.eval y=u.val I:=h2.2;simp only[ho,h1v,h2v,ja,xh,zq,zt,zn,hst]
 ·refine⟨jah.refl _ _,trivial,zp _,HRel.gr ?_,jci hBg,(fun h=>by cases h),fun h=>by cases h⟩;refine HRel.write hh hf (g:=g) (by simp[O.blk,hk,zU]) (fun k _ hne=>yC w g k _ hne) ?_ trivial (by simp[O.blk,hk,zU]);refine⟨⟨by simp[Cont.flat_length],.inr ⟨g,cap,_,by rw[hn'];exact hk,xE _,jh w g _ _ ty (0,0) hheap,by rw[hn'];exact hncap,hcapm,?_,?_⟩⟩,hBk⟩
  ·simp only[List.size_toArray,qc,xn,xy,Array.length_toList,hvs,hul,hee];omega
  ·have hcur:cur.toList=c.flat.map D.val++cur.toList.drop (c.n*c.e):=by rw[<-htk];exact(xQ _ _).symm
   have hvl:(u.val I).cells.toList=ds.map D.val:=by rw[hc,hdse];simp[xS,C.val]
   rw[hvs,hul,hvl,hcur];exact jtR hupd hi he0 _
end
end Go.Sx
end

section
open Go.RowKit
namespace Go.Sx
structure RunOK [Globs] (P:zP) (f:Nat) (M:Bool) (S:Spec):Prop where
 enter:∀args w,(callFunc f args).run P w=.ok (.enter f args) w
 sound:∀I B w args hp nx t,S args hp nx=some t->t.sel.ob->(∀x∈args,V.lt nx x)->HRel I B hp nx w->Old B w -> Calls P f (args.map (V.val I)).toArray w fun e w'=>∃I',e=.returned (t.sel.v.val I')∧Left I B nx w t.sel M I' w'
def ValOK [Globs] (P:zP) (f:Nat) (S:Spec):Prop :=
 ∀I B w args hp nx t,S args hp nx=some t->t.sel.ob->(∀x∈args,V.lt nx x)->HRel I B hp nx w->Old B w -> ∃ob v,t.sel=⟨ob,v,hp,nx⟩∧v.lt nx∧(callFunc f (args.map (V.val I)).toArray).run P w=.ok (.value (v.val I)) w
def jaF [Globs] (P:zP) (f:Nat) (M:Bool) (S:Spec):Prop:=RunOK P f M S∨ValOK P f S
abbrev jab:=Nat->Option (Bool × Spec)
def jam [Globs] (P:zP) (sp:jab):Prop:=∀f M S,sp f=some (M,S)->jaF P f M S
def jau [Globs] (sp:jab) (op:Op) (rd:zZ->Option V):Bool :=match op with| .store _ _ _=>false| .buildSlice t _ _=>!Globs.nestT t| .call c=>(match c.callee with| .builtin .append=>false| .value f=>(match rd f with|some (.w (.c (.fn g _)))=>(match sp g with|some (M,_)=>M|none=>false)|_=>false)|_=>true)|_=>true
def jda [Globs] (P:zP) (sp:jab) (op:Op) (rd:zZ->Option V) (hp:Hp) (nx:Nat):Option Res :=match jcj P op rd hp with|some (ob,v)=>some ⟨ob,v,hp,nx⟩|none=>match jg6 P op rd hp nx with|some r=>some r|none=>match jg8 P op rd hp nx with|some r=>some r|none=>match jg9 P op rd hp nx with|some r=>some r|none=>match jg7 P op rd hp nx with|some r=>some r|none=>jpm P sp op rd hp nx
section
variable [Globs] {P:zP} {I:Env} {B:Kd} {nx:Nat} {hp:Hp} {w:zr} {rd:zZ->Option V} {a:Act} {sp:jab}
def jkX {v:zs} {c:Cont} {lo hi:Nat} (he:0<c.e) (h:jaH w v c) (hlo:lo<=hi) (hhi:hi<=c.n) {a':Option gH} {n cap:Nat} (hv:v=.slice a' n cap) :
  jaH w (.slice (if cap=lo then a' else a'.map (·.add (lo*c.e))) (hi-lo) (cap-lo)) (c.sub lo hi):=by
 obtain⟨a2,cap2,h1,⟨h2,h2'⟩,h3⟩:=h;rw[hv]at h1;cases h1;have hs:=c.sub_cell hlo hhi;refine⟨_,_,by rw[hs.1],⟨by omega,fun hnone=>?_⟩,fun hn=>?_⟩
 ·by_cases hc:cap=lo
  ·omega
  ·rw[if_neg hc]at hnone;have:=h2' (by simpa using hnone);omega
 rw[hs.1]at hn;obtain⟨b,off,rfl,hx⟩:=h3 (by omega);rw[if_neg (by omega)];refine⟨b,off+lo*c.e,by simp[jaT],fun j x hj=>?_⟩
 have hjl:j<(hi-lo)*c.e:=by
  have:=(zC.1 hj).1;rw[Cont.flat_length,hs.1,hs.2.1]at this;exact this
 have hk:j/c.e<hi-lo:=yE (by rw[xI];exact hjl);have hm:=ya j he;have hdm:j/c.e*c.e+j%c.e=j:=by rw[xI];exact yu j c.e
 have h4:=(c.sub lo hi).flat_get (i:=j/c.e) (j:=j%c.e) (by omega) (by omega);rw[hs.2.1,hdm,hj,hs.2.2 _ _ hk]at h4;have h5:=c.flat_get (i:=lo+j/c.e) (j:=j%c.e) (by omega) hm;have h6:=hx _ _ h5;cases h4;rw[<-h6]
 congr 2
 rw[qE];omega
def jrX (hr:jaB I nx rd a) {x:Option zZ} {l:Option Int} (h:ja0 rd x=some l):∃k,x.map a.eval=l.map (x9 k ·):=by
 cases x with
 |none=>simp only[ja0,zj]at h;subst h;exact⟨.i64,rfl⟩
 |some x =>
  simp only[ja0]at h;split at h
  ·rename_i k n hx;cases h;cases hrx:rd x with
   |none=>simp[hrx]at hx
   |some u =>
    simp only[hrx,zV]at hx;have:=(hr x u hrx).2;rw[V.int?_eq hx]at this;exact⟨k,by simp[this]⟩
  ·cases h
def jha {len cap:Nat} {l m:Option Int} {k k':IntKind} (h0:0<=l.getD 0) (h1:l.getD 0<=m.getD (len:Int)) (h2:m.getD (len:Int)<=(len:Int)) (h3:len<=cap) :
  (yb true len cap (l.map (x9 k ·)) (m.map (x9 k' ·)) none).run P w=.ok ((l.getD 0).toNat,(m.getD (len:Int)).toNat,cap) w:=by
 cases l<;>cases m<;>simp only[jm,qk,jA,z9]at * <;>
  simp[yb,gd,jr, *]
 ·intro h;omega
 ·rw[if_pos (by omega),if_pos (by omega)]
def jdh {r:Res} (hh:HRel I B hp nx w) (hB:Old B w) (v:zs) (obj:O) (hr:r.hp=(nx,obj)::hp) (hn:r.nx=nx+1) (hv:r.v.lt (nx+1)) (M:Bool)
  (hl:obj.lt (nx+1)) (ho:obj.ok (upd I nx v) B w nx) (hb:obj.blk v=none):Left I B nx w r M (upd I nx v) w:=by
 refine⟨jar _ _ _,by rw[hn];exact hv,by omega,HRel.gr ?_,Bel.refl _ _,fun _=>xM _ _,fun _ h o k hnh hf hk=>?_⟩
 ·rw[hr,hn];exact hh.add (xM _ w) hB (jar _ _ _) hl ho (by simp[hb])
 ·rw[hr]at hf;simp only[find]at hf;split at hf
  ·rename_i e;subst e;cases hf;rw[upd_same,hb]at hk;cases hk
  ·have:=(hh.ok h o hf).1;omega
def joc {o:qu} {t h e elem:Nat} {x:zZ} {lo hi:Option zZ} {l m:Option Int} {ob:O} {c:Cont} (hh:HRel I B hp nx w) (hB:Old B w) (hr:jaB I nx rd a) (ho:o.op=.slice t x lo hi none)
  (hu:P.underlying t=some (.slice elem)) (hx:rd x=some (.w (.c (.o h)))) (hl:ja0 rd lo=some l) (hm:ja0 rd hi=some m) (hf:find hp h=some ob) (hs:szT P elem=some (e+1)) (hc:ob.cont=some c) (hce:c.e=e+1)
  (hob:0<=l.getD 0∧l.getD 0<=m.getD (c.n:Int)∧m.getD (c.n:Int)<=(c.n:Int)) (r:Res) (hrn:r.nx=nx+1) (hrv:r.v=.w (.c (.o nx)))
  (hrh:r.hp=(nx,cutO h ob (c.sub (l.getD 0).toNat (m.getD (c.n:Int)).toNat))::hp) :
  jaD P I B nx a w o r true:=by
 obtain⟨h0,h1,h2⟩:=hob;have hok:=hh.ok h ob hf;have hrow:=jcc hok.2.2 hc;obtain⟨a2,cap,hv,⟨hcap,_⟩,hcells⟩:=hrow;have he:0<c.e:=by omega
 have hlo:(l.getD 0).toNat<=(m.getD (c.n:Int)).toNat:=by omega
 have hhi:(m.getD (c.n:Int)).toNat<=c.n:=by omega
 have hsub:=jkX (w:=w) he (jcc hok.2.2 hc) hlo hhi hv;obtain⟨k1,hlv⟩:=jrX hr hl;obtain⟨k2,hmv⟩:=jrX hr hm;have hsb:=jha (P:=P) (w:=w) (len:=c.n) (cap:=cap) (l:=l) (m:=m) (k:=k1) (k':=k2) h0 h1 h2 hcap;have hxv:a.eval x=.slice a2 c.n cap:=by rw[(hr _ _ hx).2];exact hv
 refine jap (I':=upd I nx (.slice (if cap=(l.getD 0).toNat then a2 else a2.map (·.add ((l.getD 0).toNat*c.e))) ((m.getD (c.n:Int)).toNat-(l.getD 0).toNat) (cap-(l.getD 0).toNat))) (w':=w) ?_ ?_
 ·unfold xg;simp only[ho,hxv,hlv,hmv,jm,gu,kQ,zq,zX hu,zn,hsb,jaR w hs,zt,hrv];simp[V.val,W.val,C.val,hce]
 ·refine jdh hh hB _ _ hrh hrn (by rw[hrv];exact zo nx) true ?_ ?_ ?_
  ·cases ob with
   |view r2 c2 _=>exact zG hok.2.1 (xu nx)
   |ext=>trivial
   |row=>exact zG hok.1 (xu nx)
   |sub=>exact zG hok.1 (xu nx)
   |fext=>trivial
   |_=>simp[O.cont]at hc
  ·have hblk:∀a n' cap',(zx (if cap=(l.getD 0).toNat then a2 else a2.map (·.add ((l.getD 0).toNat*c.e))) ((m.getD (c.n:Int)).toNat-(l.getD 0).toNat) (cap-(l.getD 0).toNat))=.slice (some a) n' cap'->0<n'->∃b off,a2=some ⟨b,off,none⟩∧a.block=b∧0<c.n:=by
    intro a n' cap' heq hn';simp only[kV]at heq;obtain⟨h5,h6,h7⟩:=heq;obtain⟨b,off,rfl,_⟩:=hcells (by omega);rw[if_neg (by omega)]at h5;simp only[qk,zj]at h5;refine⟨b,off,rfl,?_,by omega⟩;rw[<-h5,jaT]
   cases ob with
   |ext c2 =>
    refine⟨by rw[upd_same];exact hsub,?_⟩;rw[upd_same];intro a n' cap' heq hn';obtain⟨b,off,rfl,rfl,hcn⟩:=hblk a n' cap' heq hn';exact hok.2.2.2 ⟨_,off,none⟩ c.n cap hv hcn
   |fext c2 =>
    refine⟨by rw[upd_same];exact hsub,?_⟩;rw[upd_same];intro a n' cap' heq hn';obtain⟨b,off,rfl,rfl,hcn⟩:=hblk a n' cap' heq hn';exact hok.2.2.2 ⟨_,off,none⟩ c.n cap hv hcn
   |view r2 c2 _ =>
    exact⟨by rw[upd_same];exact hsub,fun h=>by cases h⟩
   |sub r2 i2 e2 j2 t2 c2 =>
    exact⟨by rw[upd_same];exact hsub,fun h=>by cases h⟩
   |row ty c2 =>
    exact⟨by rw[upd_same];exact hsub,fun h=>by cases h⟩
   |_=>simp[O.cont]at hc
  ·cases ob<;>simp[O.cont]at hc<;>rfl
end
end Go.Sx
end

section
open Go.RowKit
namespace Go.Sx
section
variable [Globs] {P:zP} {I:Env} {B:Kd} {nx:Nat} {hp:Hp} {w:zr} {rd:zZ->Option V} {a:Act} {sp:jab}
def jwJ {ty:Nat} {e:Nat} {x:AR} (hB:Old B w) :
  (O.arr ty e x).ok (upd I nx (.pointer (some ⟨w.heap.size,0,none⟩))) B (w.alloc (.cells ((arD e x).map D.val).toArray ty)) nx :=
 ⟨w.heap.size,upd_same _ _ _,fun h=>absurd (hB _ h) (fI _),by rw[jd]⟩
def jtS {o:qu} {elem:Nat} {x:zZ} {e:Nat} {y:AR} (hh:HRel I B hp nx w) (hB:Old B w) (hr:jaB I nx rd a) (ho:o.op=.box elem x) (hx:rd x=some (.w (.b e y))) :
  jaD P I B nx a w o ⟨True,.w (.c (.p nx 0 1 0)),(nx,.arr elem e y)::hp,nx+1⟩ true:=by
 refine jap (I':=upd I nx (.pointer (some ⟨w.heap.size,0,none⟩))) (w':=w.alloc (.cells ((arD e y).map D.val).toArray elem)) ?_
  (jbm hh hB _ _ _ (.arr elem e y) rfl rfl (show V.lt (nx+1) (.w (.c (.p nx 0 1 0)))from zo nx) true trivial (jwJ hB) (by simp[O.blk,base]))
 unfold xg;have hv:a.eval x=.agg ((arD e y).map D.val).toArray:=(hr _ _ hx).2;simp only[ho,kX,newVar,gL,zq,gh,zn,zt,hv];simp[V.val,W.val,C.val,base,Value.cells]
def jtT {cs:List C} {ds:List D} (h:jbh cs=some ds) (I:Env):cs.map (C.val I)=ds.map D.val:=by
 rw[jbS h,xV];rfl
def jCe:∀(r:List Int),(arD r.length (.i r)).map D.val=r.map fun n=>x9 .i64 n:=fun r=>by
 rw[arD,xV];exact jjk 0 r fun n=>x9 .i64 n
def jtU:∀{x:List D} {y:List Int},jpj x=some y->x=y.map (D.i .i64)
 |[],y,h=>by simp only[jpj,zj]at h;subst h;rfl
 |c::x,y,h=>by
  unfold jpj at h;split at h
  ·rename_i e;cases e
  ·rename_i e;cases e;obtain⟨l,hl,rfl⟩:=z4.1 h;rw[jtU hl];rfl
  ·cases h
def jzf {t:qI} {e:Nat} {x:AR} (h:arrF P t=some (e,x)):∃z,jaA P t=some z∧z.map (C.val I)=(arD e x).map D.val:=by
 unfold arrF at h;split at h
 ·rename_i sz ds _ _ hds;cases hz:jaA P t with
  |none=>simp[hz]at hds
  |some z =>
   simp only[hz,zV]at hds;split at h
   ·rename_i _ _ hl;obtain⟨r',hr',he⟩:=z4.1 h;cases he;refine⟨z,rfl,?_⟩;have hl:=zi hl;have h1:=jgj hr';have h2:=hl.trans (by rw[h1];simp:ds.length=r'.length);rw[h2,jCd,jtT hds,h1,jgi]
   ·rename_i _ _ hl;split at h
    ·obtain⟨r',hr',he⟩:=z4.1 h;cases he;refine⟨z,rfl,?_⟩;have hl:=zi hl;have h1:=jtU hr';have h2:=hl.trans (by rw[h1];simp:ds.length=r'.length);rw[h2,jCe,jtT hds,h1,xV];rfl
    ·cases h
   ·cases h
 ·cases h
def jqH {o:qu} {elem e:Nat} {x:AR} (hh:HRel I B hp nx w) (hB:Old B w) (ho:o.op=.alloc elem) (h:arrF P elem=some (e,x)) :
  jaD P I B nx a w o ⟨True,.w (.c (.p nx 0 1 0)),(nx,.arr elem e x)::hp,nx+1⟩ true:=by
 obtain⟨z,hz,hzv⟩:=jzf (I:=I) h;obtain⟨v,hv,hvc,_⟩:=jaX (P:=P) (w:=w) (I:=I) hz
 refine jap (I':=upd I nx (.pointer (some ⟨w.heap.size,0,none⟩))) (w':=w.alloc (.cells ((arD e x).map D.val).toArray elem)) ?_
  (jbm hh hB _ _ _ (.arr elem e x) rfl rfl (show V.lt (nx+1) (.w (.c (.p nx 0 1 0)))from zo nx) true trivial (jwJ hB) (by simp[O.blk,base]))
 unfold xg;rw[hzv]at hvc;simp only[ho,kP,newVar,gL,zq,gh,zn,zt,hv,hvc];simp[V.val,W.val,C.val,base]
def jwK:∀(vs cs:List C) (n:Nat) (pre:List C),pre.length=n->cs.length=vs.length -> ((vs.zipIdx n).foldl (fun cs (c,j)=>cs.set (0+j) c) (pre++cs))=pre++vs
 |[],cs,n,pre,_,hl=>by
  have:cs=[]:=z5 hl;simp[this]
 |v::vs,[],n,pre,_,hl=>by simp at hl
 |v::vs,c::cs,n,pre,hp,hl=>by
  rw[hZ,gx]
  have h1:(pre++c::cs).set (0+n) v=(pre++[v])++cs:=by
   rw[qa,List.set_append_right _ _ (by omega)];simp[hp]
  simp only[h1];rw[jwK vs cs (n+1) (pre++[v]) (by simp[hp]) (by simpa using hl)];simp
def jAK {z vs:List C} {e:Nat} {u:W} (hu:u.cells=vs) (hz:z.length=e) (hv:vs.length=e) :
  jdx (fun i=>some (i*e,e)) z [(0,u)]=some vs:=by
 simp only[jdx,hu];rw[if_pos ⟨hv,by omega⟩];have:=jwK vs z 0 [] rfl (by omega);simp only[qS]at this;simp only[yd];exact congrArg some this
def jCv (k:qd) (e:Nat) (r:List Nat):(Cont.frs k e [r]).flat=frD k e r:=by simp[Cont.flat]
def jqI {o:qu} {t elem e:Nat} {x:zZ} {parts:Array (Nat × zZ)} {k:qd} {r:List Nat} {z:List C} (hh:HRel I B hp nx w) (hB:Old B w) (hr:jaB I nx rd a)
  (ho:o.op=.buildSlice t 1 parts) (hp1:parts.toList=[(0,x)]) (hu:P.underlying t=some (.slice elem)) (hx:rd x=some (.w (.b (e+1) (.f k r)))) (hs:szT P elem=some (e+1)) (hz:jaA P elem=some z) (hzl:z.length=e+1) (hle:e+1<=4096) :
  jaD P I B nx a w o ⟨True,.w (.c (.o nx)),(nx,.row elem (.frs k (e+1) [r]))::hp,nx+1⟩ true:=by
 have hv:=hr _ _ hx;obtain⟨zv,hzv,hzc,hlt⟩:=jaX (P:=P) (w:=w) (I:=I) hz
 have hl:∀c∈[((0:Nat),W.b (e+1) (.f k r))],c.2.one hp=true∧c.2.lt nx:=by
  intro c hc;simp only[z6]at hc;subst hc;exact⟨rfl,trivial⟩
 have hfc:jdx (fun i=>some (i*(e+1),e+1)) z [(0,W.b (e+1) (.f k r))]=some ((frD k (e+1) r).map C.d):=jAK rfl hzl (by simp);have hf:=jd7 (I:=I) _ hh _ _ _ hfc hl (hlt nx)
 refine jap (I':=upd I nx (.slice (some ⟨w.heap.size,0,none⟩) 1 1)) (w':=w.alloc (.cells ((Cont.frs k (e+1) [r]).flat.map D.val).toArray elem)) ?_
  (jbm hh hB _ _ _ (.row elem (.frs k (e+1) [r])) rfl rfl (show V.lt (nx+1) (.w (.c (.o nx)))from zo nx) true trivial (jtP (c:=.frs k (e+1) [r]) hB (by simp[Cont.n])) (by simp[O.blk,zU]))
 unfold xg
 have he:(parts.map fun(i,x)=>(i,a.eval x))=([((0:Nat),W.b (e+1) (.f k r))].map fun x=>(x.1,x.2.val I)).toArray:=by
  apply xf;have hv2:a.eval x=(W.b (e+1) (.f k r)).val I:=hv.2;simp[hp1,hv2]
 have e1:¬(1*(e+1)>2^24):=by omega
 have e2:¬(1*(e+1)=0):=by omega
 have hvs:zv.cells.size=e+1:=by rw[hzc];simp[hzl]
 have hcells:(kh (1*(e+1))).map (zv.cells[· % zv.cells.size]!)=(z.map (C.val I)).toArray:=by
  have:=jf6 zv.cells 1;apply xf;simp only[jT,hvs]at this;simp only[hvs];rw[this,hzc];simp
 simp only[ho,he,yQ,zq,zX hu,zn,jaR w hs];rw[if_neg e1,if_neg e2];simp only[zq,zt,zn,hzv,hcells];have hfin:=hf.1;simp only[hfin,gL,zq,gh,zn,zt,jCv,xV];simp[V.val,W.val,C.val];rfl
def jhP (k:qd):∀r:List Nat,(Cont.floats k r).flat=r.map (D.f k)
 |[]=>rfl
 |x::r=>by
  have:=jhP k r;simp only[Cont.flat]at this ⊢;rw[xz,this];rfl
def jAL {n:Nat} (y:AR) (h:y.cont.n=n):arD n y=y.cont.flat∧y.cont.e=1:=by
 subst h;cases y with
 |f k r=>exact⟨(jgi k r).trans (jhP k r).symm,rfl⟩
 |i r =>
  refine⟨?_,rfl⟩;apply xA;intro j
  by_cases hj:j<r.length
  ·have h1:=(Cont.ints .i64 r).flat_get (i:=j) (j:=0) hj (Nat.zero_lt_one);simp only[Cont.e,jg,xH]at h1;rw[AR.cont,h1];simp[arD,AR.cont,Cont.n,hj,AR.el,Cont.cell]
  ·rw[z7 (by simpa [AR.cont,Cont.n]using hj),z7 (by rw[Cont.flat_length];simpa [AR.cont,Cont.n,Cont.e]using hj)]
def jpq {o:qu} {t h n elem ty E:Nat} {y:AR} {x:zZ} {lo hi:Option zZ} {l m:Option Int} (hh:HRel I B hp nx w) (hB:Old B w) (hr:jaB I nx rd a) (ho:o.op=.slice t x lo hi none)
  (hu:P.underlying t=some (.array n elem)) (hx:rd x=some (.w (.c (.p h 0 1 0)))) (hl:ja0 rd lo=some l) (hm:ja0 rd hi=some m) (hf:find hp h=some (.arr ty E y)) (hs:szT P elem=some 1) (hn:n=E) (hn1:1<=n)
  (hob:y.cont.n=n∧0<=l.getD 0∧l.getD 0<=m.getD (n:Int)∧m.getD (n:Int)<=(n:Int)) :
  jaD P I B nx a w o ⟨y.cont.n=n∧0<=l.getD 0∧l.getD 0<=m.getD (n:Int)∧m.getD (n:Int)<=(n:Int),.w (.c (.o nx)),(nx,.view h (Cont.sub y.cont (l.getD 0).toNat (m.getD (n:Int)).toNat) m.isNone)::hp,nx+1⟩ true:=by
 obtain⟨hrl,h0,h1,h2⟩:=hob;obtain⟨hlt,hol,g,hk,hBg,hheap⟩:=hh.ok h _ hf;subst hn;obtain⟨k1,hlv⟩:=jc5 hr hl;obtain⟨k2,hmv⟩:=jc5 hr hm;have hxv:a.eval x=.pointer (some ⟨g,0,none⟩):=by rw[(hr _ _ hx).2];simp[C.val,hk,base]
 have hsb:=jph (P:=P) (w:=w) (len:=n) (l:=l) (m:=m) (k:=k1) (k':=k2) h0 h1 h2;have hlo:(l.getD 0).toNat<=(m.getD (n:Int)).toNat:=by omega
 have hhi:(m.getD (n:Int)).toNat<=n:=by omega
 obtain⟨hfl,he1⟩:=jAL y hrl
 have hrow:jaH w (.slice (some ⟨g,0,none⟩) n n) y.cont:=by
  refine⟨some ⟨g,0,none⟩,n,by rw[hrl],⟨by rw[hrl];exact zp _,fun e=>by cases e⟩,fun _=>⟨g,0,rfl,fun j x hj=>?_⟩⟩;rw[qa,xP w g _ _ ty (0,0) hheap,hfl];simp[hj]
 have hsub:=jkX (w:=w) (c:=y.cont) (by rw[he1];exact Nat.zero_lt_one) hrow hlo (by rw[hrl];exact hhi) rfl;rw[he1]at hsub;refine jap (I':=upd I nx (.slice (if n=(l.getD 0).toNat then some ⟨g,0,none⟩else(some (⟨g,0,none⟩:gH)).map (·.add ((l.getD 0).toNat*1))) ((m.getD (n:Int)).toNat-(l.getD 0).toNat) (n-(l.getD 0).toNat))) (w':=w) ?_ ?_
 ·unfold xg;simp only[ho,hxv,hlv,hmv,jm,gu,zq,zX hu,zn,xh,zt,hsb,jaR w hs];simp[V.val,W.val,C.val];split<;>simp_all
 ·refine jdh hh hB _ (.view h _ m.isNone) rfl rfl (show V.lt (nx+1) (.w (.c (.o nx)))from zo nx) true (zG hlt (xu nx)) ⟨by rw[upd_same];exact hsub,fun hfl a' n' cap' heq=>?_⟩ rfl;rw[upd_same]at heq;cases heq;cases m with
  |none=>simp
  |some q=>cases hfl
def jpr {o:qu} {t h i n elem:Nat} {k:qd} {r:List (List Nat)} {x:zZ} {lo hi:Option zZ} {l m:Option Int} (hh:HRel I B hp nx w) (hB:Old B w) (hr:jaB I nx rd a) (ho:o.op=.slice t x lo hi none)
  (hu:P.underlying t=some (.array n elem)) (hx:rd x=some (.w (.c (.p h i n 0)))) (hl:ja0 rd lo=some l) (hm:ja0 rd hi=some m) (hf:find hp h=some (.ext (.frs k n r))) (hs:szT P elem=some 1) (hn1:1<=n)
  (hob:i<r.length∧(r.getD i []).length=n∧0<=l.getD 0∧l.getD 0<=m.getD (n:Int)∧m.getD (n:Int)<=(n:Int)) :
  jaD P I B nx a w o ⟨i<r.length∧(r.getD i []).length=n∧0<=l.getD 0∧l.getD 0<=m.getD (n:Int)∧m.getD (n:Int)<=(n:Int),.w (.c (.o nx)),(nx,.ext (Cont.sub (.floats k (r.getD i [])) (l.getD 0).toNat (m.getD (n:Int)).toNat))::hp,nx+1⟩ true:=by
 obtain⟨hi,hrl,h0,h1,h2⟩:=hob;obtain⟨hlt,hol,⟨av,cap,hv,_,hcells⟩,hold⟩:=hh.ok h _ hf;obtain⟨g,off,rfl,hx2⟩:=hcells (ji (xE i) hi);have hBg:B.kp g:=hold _ _ _ hv (ji (xE i) hi);obtain⟨k1,hlv⟩:=jc5 hr hl;obtain⟨k2,hmv⟩:=jc5 hr hm;have hxv:a.eval x=.pointer (some ⟨g,off+i*n,none⟩):=by rw[(hr _ _ hx).2];simp[V.val,W.val,C.val,hv,base]
 have hsb:=jph (P:=P) (w:=w) (len:=n) (l:=l) (m:=m) (k:=k1) (k':=k2) h0 h1 h2;have hlo:(l.getD 0).toNat<=(m.getD (n:Int)).toNat:=by omega
 have hhi:(m.getD (n:Int)).toNat<=n:=by omega
 have hrow:jaH w (.slice (some ⟨g,off+i*n,none⟩) n n) (.floats k (r.getD i [])):=by
  refine⟨some ⟨g,off+i*n,none⟩,n,by simp only[Cont.n,hrl],⟨by simp only[Cont.n,hrl];exact zp _,fun e=>by cases e⟩,fun _=>⟨g,off+i*n,rfl,fun j y hj=>?_⟩⟩;rw[jhP,zR]at hj;obtain⟨z,hz,rfl⟩:=z4.1 hj;have hjn:j<n:=by rw[<-hrl];exact(zC.1 hz).1
  have h3:=(Cont.frs k n r).flat_get (i:=i) (j:=j) hi hjn;have h4:=hx2 _ _ h3;simp only[Cont.cell,Cont.e]at h4;have h5:(r.getD i []).getD j 0=z:=by rw[qJ,hz];rfl
  rw[xL,h4,h5]
 have hsub:=jkX (w:=w) (c:=.floats k (r.getD i [])) Nat.zero_lt_one hrow hlo (by simp only[Cont.n,hrl];exact hhi) rfl;refine jap (I':=upd I nx (.slice (if n=(l.getD 0).toNat then some ⟨g,off+i*n,none⟩else(some (⟨g,off+i*n,none⟩:gH)).map (·.add ((l.getD 0).toNat*1))) ((m.getD (n:Int)).toNat-(l.getD 0).toNat) (n-(l.getD 0).toNat))) (w':=w) ?_ ?_
 ·unfold xg;simp only[ho,hxv,hlv,hmv,jm,gu,zq,zX hu,zn,xh,zt,hsb,jaR w hs];simp[V.val,W.val,C.val];split<;>simp_all
 ·refine jdh hh hB _ (.ext _) rfl rfl (show V.lt (nx+1) (.w (.c (.o nx)))from zo nx) true trivial ⟨by rw[upd_same];exact hsub,fun a' n' cap' heq hn'=>?_⟩ rfl;rw[upd_same]at heq
  injection heq with e1 e2 e3
  split at e1
  ·cases e1;exact hBg
  ·simp only[qk,zj,jaT]at e1;subst e1;exact hBg
def jcO {o:qu} {r:Res} {M:Bool} (h:jaD P I B nx a w o r true):jaD P I B nx a w o r M:=fun K Q hK =>
 h K Q fun I' w' hl=>hK I' w' ⟨hl.agree,hl.lt,hl.le,(let ⟨B',g,h⟩:=hl.heap; ⟨B',⟨g.le,g.new,g.out,fun _=>g.mono rfl⟩,h⟩),hl.below,fun _=>hl.mono rfl,fun _=>hl.fresh rfl⟩
def XC.sub_spec (X:XC) {lo hi:Nat} (h:lo<=hi) (hh:hi<=X.n):(X.sub lo hi).n=hi-lo∧(X.sub lo hi).e=X.e∧∀k m,k<hi-lo->(X.sub lo hi).cell k m=X.cell (lo+k) m:=by
 cases X<;>simp only[XC.sub,XC.n,XC.e,XC.cell]at * <;>
  first
  |(refine⟨by simp;omega,trivial,fun k m hk=>?_⟩;simp[zb,hk])
  |(refine⟨by simp;omega,rfl,fun k m hk=>?_⟩;simp[zb,hk])
def jAM {B B':Bd} {v:zs} {X:XC} (hb:∀k,B k->B' k) (h:IsX B w v X):IsX B' w v X:=by
 obtain⟨a,cap,hv,hc,hcells⟩:=h;refine⟨a,cap,hv,hc,fun hn=>?_⟩;obtain⟨b,off,hab,hB,hx⟩:=hcells hn;refine⟨b,off,hab,hb b hB,fun i j hi hj=>?_⟩;obtain⟨u,hu,hux⟩:=hx i j hi hj;refine⟨u,hu,?_⟩
 generalize X.cell i j=nc at *
 cases nc with
 |d x=>exact hux
 |r c=>exact⟨hux.1,fun a n cap hv hn=>hb _ (hux.2 a n cap hv hn)⟩
def jCw {v:zs} {X:XC} {lo hi:Nat} (h:IsX B w v X) (hlo:lo<=hi) (hhi:hi<=X.n) {a':Option gH} {n cap:Nat} (hv:v=.slice a' n cap) :
  IsX B w (.slice (if cap=lo then a' else a'.map (·.add (lo*X.e))) (hi-lo) (cap-lo)) (X.sub lo hi):=by
 obtain⟨a2,cap2,h1,⟨h2,h2'⟩,h3⟩:=h;rw[hv]at h1;cases h1;have hs:=X.sub_spec hlo hhi;refine⟨_,_,by rw[hs.1],⟨by omega,fun hnone=>?_⟩,fun hn=>?_⟩
 ·by_cases hc:cap=lo
  ·omega
  ·rw[if_neg hc]at hnone;have:=h2' (by simpa using hnone);omega
 rw[hs.1]at hn;obtain⟨b,off,rfl,hbB,hx⟩:=h3 (by omega);rw[if_neg (by omega)];refine⟨b,off+lo*X.e,by simp[jaT],hbB,fun i j hi' hj=>?_⟩;rw[hs.1]at hi';rw[hs.2.1]at hj ⊢;obtain⟨u,hu,hux⟩:=hx (lo+i) j (by omega) hj;refine⟨u,?_,by rw[hs.2.2 _ _ hi'];exact hux⟩;have e1:off+lo*X.e+(i*X.e+j)=off+((lo+i)*X.e+j):=by rw[qE];omega
 rw[e1];exact hu
def jtV {o:qu} {t h sz elem:Nat} {x:zZ} {lo hi:Option zZ} {l m:Option Int} {X:XC} (hh:HRel I B hp nx w) (hB:Old B w) (hr:jaB I nx rd a) (ho:o.op=.slice t x lo hi none)
  (hu:P.underlying t=some (.slice elem)) (hx:rd x=some (.w (.c (.o h)))) (hl:ja0 rd lo=some l) (hm:ja0 rd hi=some m) (hf:find hp h=some (.xext X)) (hs:szT P elem=some sz) (hsz:sz=X.e)
  (hob:0<=l.getD 0∧l.getD 0<=m.getD (X.n:Int)∧m.getD (X.n:Int)<=(X.n:Int)) :
  jaD P I B nx a w o ⟨0<=l.getD 0∧l.getD 0<=m.getD (X.n:Int)∧m.getD (X.n:Int)<=(X.n:Int),.w (.c (.o nx)),(nx,.xext (X.sub (l.getD 0).toNat (m.getD (X.n:Int)).toNat))::hp,nx+1⟩ true:=by
 obtain⟨h0,h1,h2⟩:=hob;have hok:=hh.ok h _ hf;obtain⟨a2,cap,hv,⟨hcap,_⟩,hcells⟩:=hok.2.2;have hlo:(l.getD 0).toNat<=(m.getD (X.n:Int)).toNat:=by omega
 have hhi:(m.getD (X.n:Int)).toNat<=X.n:=by omega
 have hsub:=jCw (w:=w) hok.2.2 hlo hhi hv;obtain⟨k1,hlv⟩:=jc5 hr hl;obtain⟨k2,hmv⟩:=jc5 hr hm;have hsb:=jha (P:=P) (w:=w) (len:=X.n) (cap:=cap) (l:=l) (m:=m) (k:=k1) (k':=k2) h0 h1 h2 hcap;have hxv:a.eval x=.slice a2 X.n cap:=by rw[(hr _ _ hx).2];exact hv
 subst hsz;refine jap (I':=upd I nx (.slice (if cap=(l.getD 0).toNat then a2 else a2.map (·.add ((l.getD 0).toNat*X.e))) ((m.getD (X.n:Int)).toNat-(l.getD 0).toNat) (cap-(l.getD 0).toNat))) (w':=w) ?_ ?_
 ·unfold xg;simp only[ho,hxv,hlv,hmv,jm,gu,kQ,zq,zX hu,zn,hsb,jaR w hs,zt];simp[V.val,W.val,C.val]
 ·exact jdh hh hB _ (.xext (X.sub (l.getD 0).toNat (m.getD (X.n:Int)).toNat)) rfl rfl (show V.lt (nx+1) (.w (.c (.o nx)))from zo nx) true trivial (by unfold O.ok;rw[upd_same];exact hsub) rfl
def jwL (bk:Bool) (c:Cont) {n:Nat}:(jeF bk c).lt n:=by cases bk<;>trivial
def jzg (bk:Bool) (c:Cont) (v:zs):(jeF bk c).blk v=none:=by cases bk<;>rfl
def jtW (bk:Bool) (c:Cont) (v:zs) (k:Nat):(jeF bk c).blk v≠some k:=by cases bk<;>simp[jeF,O.blk]
def Kd.sel (B:Kd):Bool->Nat->Prop|true=>B.fr|false=>B.kp
def jwM {I:Env} {B:Kd} {w:zr} {h:Nat} {bk:Bool} {c:Cont} (hr:jaH w (I h) c∧jbK (B.sel bk) (I h)):(jeF bk c).ok I B w h:=by cases bk<;>exact hr
def jwN {I:Env} {B:Kd} {w:zr} {h:Nat} {o:O} {bk:Bool} {X:XC} (hok:o.ok I B w h) (hx:o.xk=some (bk,X)):∃a cap,I h=.slice a X.n cap∧(X.n<=cap∧(a=none->cap=0)) ∧
  (0<X.n->∃b off,a=some ⟨b,off,none⟩∧∀i j,i<X.n->j<X.e->∃u,w.cell? ⟨b,off+(i*X.e+j),none⟩=some u∧(X.cell i j).at (B.sel bk) w u):=by
 cases o with
 |xext X' =>
  simp only[O.xk,zj,qp]at hx;obtain⟨rfl,rfl⟩:=hx;obtain⟨a,cap,h1,h2,h3⟩:=hok;exact⟨a,cap,h1,h2,fun hn=>let ⟨b,off,h4,_,h6⟩:=h3 hn; ⟨b,off,h4,h6⟩⟩
 |xrow ty X' =>
  simp only[O.xk,zj,qp]at hx;obtain⟨rfl,rfl⟩:=hx;obtain⟨us,hr,hi,_⟩:=hok;rcases hr.2 with ⟨h1,hn⟩|⟨g,cap,cur,h1,h2,h3,h4,h5,h6,h7⟩
  ·exact⟨none,0,by rw[hn];exact h1,⟨by omega,fun _=>rfl⟩,fun h=>by omega⟩
  ·refine⟨some ⟨g,0,none⟩,cap,h1,⟨h4,fun h=>by cases h⟩,fun _=>⟨g,0,rfl,fun i j h8 h9=>?_⟩⟩;obtain⟨u,hu,hux⟩:=hi i j h8 h9;refine⟨u,?_,hux⟩;rw[qa,xP w g _ cur ty (0,0) h3];have h2:(cur.toList.take (X'.n*X'.e))[i*X'.e+j]?=some u:=by rw[h7,hu]
   rw[qg]at h2;split at h2
   ·simpa using h2
   ·cases h2
 |_=>simp[O.xk]at hx
def jtX {bk:Bool}:∀(l:List NC) (nx:Nat) (hp:Hp) (h:Nat),h<nx->find (ncs bk l nx hp).2.1 h=find hp h
 |[],_,_,_,_=>rfl
 |x::l,nx,hp,h,hlt=>by
  simp only[ncs];rw[jtX l (ncN nx x) (ncH bk nx hp x) h (by cases x<;>simp only[ncN]<;>omega)];cases x with
  |d y=>rfl
  |r c=>simp only[ncH,find];rw[if_neg (by omega)]
def jod {w:zr} {bk:Bool} (hB:Old B w):∀(l:List NC) (us:List zs) (nx:Nat) (hp:Hp) (I:Env),HRel I B hp nx w->l.length=us.length->(∀(j:Nat) (x:NC) (u:zs),l[j]?=some x->us[j]?=some u->x.at (B.sel bk) w u) ->
  ∃I',jah nx I I'∧(ncs bk l nx hp).1.map (C.val I')=us∧(∀c∈(ncs bk l nx hp).1,C.lt (ncs bk l nx hp).2.2 c)∧nx<=(ncs bk l nx hp).2.2∧HRel I' B (ncs bk l nx hp).2.1 (ncs bk l nx hp).2.2 w ∧ ∀h o k,nx<=h->find (ncs bk l nx hp).2.1 h=some o->o.blk (I' h)≠some k
 |[],us,nx,hp,I,hh,hl,_=>by
  have:us=[]:=z5 hl.symm;subst this;exact⟨I,jah.refl _ _,rfl,(fun c hc=>by cases hc),zp _,hh,fun h o k hn hf=>by have:=(hh.ok h o hf).1;omega⟩
 |x::l,[],nx,hp,I,hh,hl,_=>by simp at hl
 |x::l,u::us,nx,hp,I,hh,hl,hat=>by
  have h0:=hat 0 x u rfl rfl;cases x with
  |d y =>
   have hu:u=y.val:=h0;obtain⟨I',hag,hm,hlt,hle,hh',hb⟩:=jod hB l us nx hp I hh (by simpa using hl) (fun j x u hj hu=>hat (j+1) x u (by simpa using hj) (by simpa using hu));refine⟨I',hag,?_,?_,hle,hh',hb⟩
   ·simp only[ncs,ncN,ncH,zL,hm,C.val,hu]
   ·intro c hc;simp only[ncs,ncN,ncH,qr]at hc;rcases hc with rfl|hc
    ·trivial
    ·exact hlt c hc
  |r c =>
   have hu:jaH w u c∧jbK (B.sel bk) u:=h0;have hh1:HRel (upd I nx u) B ((nx,jeF bk c)::hp) (nx+1) w:=hh.add (xM _ w) hB (jar _ _ _) (jwL bk c) (jwM (by rw[upd_same];exact hu)) (fun k hk=>absurd hk (jtW bk c _ k));obtain⟨I',hag,hm,hlt,hle,hh',hb⟩:=jod hB l us (nx+1) _ _ hh1 (by simpa using hl) (fun j x u hj hu=>hat (j+1) x u (by simpa using hj) (by simpa using hu));have hag2:jah nx I I':=(jar I nx u).trans hag (xu nx);refine⟨I',hag2,?_,?_,Nat.le_of_succ_le hle,hh',fun h o k hn hf hk=>?_⟩
   ·simp only[ncs,ncN,ncH,zL,hm,C.val];rw[hag nx (zo nx),upd_same]
   ·intro d hd;simp only[ncs,ncN,ncH,qr]at hd;rcases hd with rfl|hd
    ·exact hle
    ·exact hlt d hd
   ·by_cases e:h=nx
    ·subst e;have hf2:find (ncs bk l (h+1) ((h,jeF bk c)::hp)).2.1 h=some o:=hf
     have:o=jeF bk c:=by
      have:=jtX (bk:=bk) l (h+1) ((h,jeF bk c)::hp) h (zo h);rw[this]at hf2;simpa [find]using hf2.symm
     subst this;exact jtW bk c _ k hk
    ·exact hb h o k (by omega) hf hk
def jtY {o:qu} {t h i e j:Nat} {x:zZ} {X:XC} {bk:Bool} {ox:O} {c:Cont} (hh:HRel I B hp nx w) (hB:Old B w) (hr:jaB I nx rd a) (ho:o.op=.load t x) (hx:rd x=some (.w (.c (.p h i e j)))) (hf:find hp h=some ox) (hxk:ox.xk=some (bk,X))
  (he:e=X.e) (hag:jbz P t=some false) (hj:j<X.e) (hc:X.cell i j=.r c) (hob:i<X.n) :
  jaD P I B nx a w o ⟨i<X.n,.w (.c (.o nx)),(nx,jeF bk c)::hp,nx+1⟩ true:=by
 obtain⟨a2,cap,hv,_,hcells⟩:=jwN (hh.ok h _ hf).2.2 hxk;obtain⟨b,off,rfl,hx2⟩:=hcells (by omega);obtain⟨u,hu,hux⟩:=hx2 i j hob hj;rw[hc]at hux;refine jap (I':=upd I nx u) (w':=w) ?_ (jdh hh hB u (jeF bk c) rfl rfl (show V.lt (nx+1) (.w (.c (.o nx)))from zo nx) true (jwL bk c) (jwM (by rw[upd_same];exact hux)) (jzg bk c _));unfold xg;subst he;have hlv:=jaS (P:=P) w hag hu;simp[ho,(hr _ _ hx).2,C.val,hv,base,jY,xh,hlv,V.val,W.val]
def jtZ {o:qu} {t h i e sz:Nat} {x:zZ} {X:XC} {bk:Bool} {ox:O} (hh:HRel I B hp nx w) (hB:Old B w) (hr:jaB I nx rd a) (ho:o.op=.load t x) (hx:rd x=some (.w (.c (.p h i e 0)))) (hf:find hp h=some ox) (hxk:ox.xk=some (bk,X))
  (he:e=X.e) (hag:jbz P t=some true) (hs:szT P t=some sz) (hsz:sz=X.e) (hob:i<X.n) :
  jaD P I B nx a w o ⟨i<X.n,.w (.a (ncs bk ((zm X.e).map fun m=>X.cell i m) nx hp).1),(ncs bk ((zm X.e).map fun m=>X.cell i m) nx hp).2.1,(ncs bk ((zm X.e).map fun m=>X.cell i m) nx hp).2.2⟩ true:=by
 obtain⟨a2,cap,hv,_,hcells⟩:=jwN (hh.ok h _ hf).2.2 hxk;obtain⟨b,off,rfl,hx2⟩:=hcells (by omega);subst he;subst hsz
 have hex:∃us:List zs,us.length=X.e∧∀j,j<X.e->∃u,us[j]?=some u∧w.cell? ⟨b,off+(i*X.e+j),none⟩=some u∧(X.cell i j).at (B.sel bk) w u:=by
  refine⟨(zm X.e).map fun j=>(w.cell? ⟨b,off+(i*X.e+j),none⟩).getD zJ,by simp,fun j hj=>?_⟩;obtain⟨u,hu,hux⟩:=hx2 i j hob hj;exact⟨u,by simp[hj,hu],hu,hux⟩
 obtain⟨us,hul,hus⟩:=hex
 obtain⟨I',hag2,hm,hlt,hle,hh',hb⟩:=jod (w:=w) hB ((zm X.e).map fun m=>X.cell i m) us nx hp I hh (by simp[hul]) (fun j x u hj hu=>by
  have hjl:j<X.e:=by have:=(zC.1 hj).1;simpa using this
  obtain⟨u',hu',_,hat⟩:=hus j hjl;rw[hu]at hu';cases hu';simp[hjl]at hj;subst hj;exact hat)
 refine jap (I':=I') (w':=w) ?_ ⟨hag2,hlt,hle,hh'.gr,Bel.refl _ _,fun _=>xM _ _,fun _ h' o' k hn hf' hk=>absurd hk (hb h' o' k hn hf')⟩;unfold xg
 have hlv:=jcm (P:=P) w (a:=⟨b,off+(i*X.e+0),none⟩) (cs:=us) hag (by rw[hul];exact hs) (fun j v hj=>by
  have hjl:j<X.e:=by rw[<-hul];exact(zC.1 hj).1
  obtain⟨u',hu',hcell,_⟩:=hus j hjl;rw[hj]at hu';cases hu';rw[jaT,xL,xL,qa];exact hcell)
 simp only[xH]at hlv;simp[ho,(hr _ _ hx).2,C.val,hv,base,jY,xh,hlv,V.val,W.val,hm]
def jAN {k:qd} {E:Nat} {l:List (List Nat)} {i j v:Nat} (hi:i<l.length) (hj:j<E):jpp (.frs k E l) (.frs k E (l.set i (jeE E (l.getD i []) j v))) i j [D.f k v]:=by
 refine⟨by simp[Cont.n],rfl,by simp[Cont.e];omega,fun q m hm=>?_⟩;simp only[Cont.cell,Cont.e]at *;rw[ja9 _ _ _ _ _ hi]
 by_cases hq:q=i
 ·subst hq;rw[if_pos rfl,jtN hj hm]
  by_cases hmj:m=j
  ·subst hmj;simp
  ·rw[if_neg hmj,if_neg (by simp;omega)]
 ·simp[hq]
def jAO {k:qd} {E:Nat} {l:List (List Nat)} {i:Nat} {v:List Nat} (hi:i<l.length):jpp (.frs k E l) (.frs k E (l.set i v)) i 0 (frD k E v):=by
 refine⟨by simp[Cont.n],rfl,by simp[Cont.e],fun q m hm=>?_⟩;simp only[Cont.cell,Cont.e]at *;rw[ja9 _ _ _ _ _ hi]
 by_cases hq:q=i
 ·subst hq;rw[if_pos rfl,if_pos (by simp;omega)];simp[frD,zb,hm]
 ·simp[hq]
def jt0:∀(l:List D),jbh (l.map C.d)=some l
 |[]=>rfl
 |x::l=>by simp[jbh,dOf,jt0 l]
def jt1 (l:List D) (h:∀x∈l,x.one=true):((l.map C.d).all fun c=>c.one hp)=true:=by
 rw[zy];intro c hc;obtain⟨x,hx,rfl⟩:=qn.1 hc;exact h x hx
def jCx (k:qd) (e:Nat) (r:List Nat):∀x∈frD k e r,x.one=true:=by
 intro x hx;obtain⟨_,_,rfl⟩:=qn.1 hx;rfl
def jCy (e:Nat) (x:AR):∀y∈arD e x,y.one=true:=by
 intro y hy;obtain⟨_,_,rfl⟩:=qn.1 hy;cases x<;>rfl
def jwO {E m:Nat} {r r':AR} {v:D} (h:r.put E m v=some r'):v.one=true:=by
 unfold AR.put at h;split at h<;>first|rfl|cases h
def jeK {o:qu} {t h i e j ty E E':Nat} {r v':AR} {x y:zZ} {u:W} (hh:HRel I B hp nx w) (hr:jaB I nx rd a) (ho:o.op=.store t x y)
  (hx:rd x=some (.w (.c (.p h i e j)))) (hy:rd y=some (.w u)) (hone:u.one hp=true) (hs:szT P t=some u.cells.length) (hall:(u.cells.all fun c=>c.one hp)=true)
  (hf:find hp h=some (.arr ty E r)) (hE:E'=E) (hle:i*e+j+u.cells.length<=E)
  (hnew:((arD E r).map D.val).take (i*e+j)++u.cells.map (C.val I)++((arD E r).map D.val).drop (i*e+j+u.cells.length)=(arD E' v').map D.val) :
  jaD P I B nx a w o ⟨i*e+j+u.cells.length<=E,vu,(h,.arr ty E' v')::jaj hp,nx⟩ false:=by
 have h1:=hr _ _ hx;have h2:=hr _ _ hy;obtain⟨hlt,hol,g,hk,hBg,hheap⟩:=hh.ok h _ hf;have hc:=W.cells_val hh hone;have hvs:(u.val I).cells.size=u.cells.length:=by rw[hc];simp
 have hst:=jbM (P:=P) (t:=t) (g:=g) (off:=i*e+j) (v:=u.val I) (by rw[hvs];exact hs) hheap (by rw[hvs];simpa using hle) (by rw[hc];exact jcK hh hall);refine jcn (I':=I) (w':=w.setRow g ((((arD E r).map D.val).toArray.toList.take (i*e+j)++(u.val I).cells.toList++((arD E r).map D.val).toArray.toList.drop (i*e+j+(u.val I).cells.size)).toArray)) ?_ rfl ?_
 ·unfold xg;have h1v:a.eval x=.pointer (some ⟨g,i*e+j,none⟩):=by rw[h1.2];simp[C.val,hk,base]
  have h2v:a.eval y=u.val I:=h2.2;simp only[ho,h1v,h2v,ja,xh,zq,zt,zn,hst]
 ·refine⟨jah.refl _ _,trivial,zp _,HRel.gr ?_,jci hBg,(fun h=>by cases h),fun h=>by cases h⟩;refine HRel.write hh hf (g:=g) (by simp[O.blk,hk,base]) (fun k _ hne=>yC w g k _ hne) ?_ trivial (by simp[O.blk,hk,base]);refine⟨g,hk,hBg,?_⟩;rw[jh w g _ _ ty (0,0) hheap,<-hnew,hc];simp
def jDg {E:Nat} {r r':AR} {m:Nat} {v:D} (h:r.put E m v=some r') (hm:m<E) {t:Nat} (ht:t<E):r'.el t=if t=m then v else r.el t:=by
 unfold AR.put at h;split at h
 ·split at h
  ·rename_i hk;have hk:=jbV hk;subst hk;cases h;simp only[AR.el,jtN hm ht];split<;>rfl
  ·cases h
 ·cases h;simp only[AR.el];rw[ja9 _ _ _ _ _ (by simpa [jeH]using hm)];split
  ·rfl
  ·simp[jeH,zb,ht]
 ·cases h
def jAP {E:Nat} {r r':AR} {m:Nat} {v:D} (hp:r.put E m v=some r') (hm:m<E) :
  ((arD E r).map D.val).take m++[v.val]++((arD E r).map D.val).drop (m+1)=(arD E r').map D.val:=by
 apply xA;intro t
 by_cases ht:t<E
 ·have hL:((arD E r').map D.val)[t]?=some (r'.el t).val:=by simp[arD,ht]
  have hR:((arD E r).map D.val)[t]?=some (r.el t).val:=by simp[arD,ht]
  rw[hL,jDg hp hm ht];have hlen:((arD E r).map D.val).length=E:=by simp
  by_cases h1:t=m
  ·subst h1;rw[if_pos rfl,qF,qj (by simp;omega)];simp[Nat.min_eq_left (Nat.le_of_lt hm)]
  ·rw[if_neg h1]
   by_cases h2:t<m
   ·rw[qF,qf (by simp;omega),qg,if_pos h2,hR]
   ·rw[qj (by simp;omega),yA];have:m+1+(t-(((arD E r).map D.val).take m++[v.val]).length)=t:=by simp;omega
    rw[this,hR]
 ·rw[z7 (by simp;omega),z7 (by simp;omega)]
def jeL {o:qu} {p q:Prop} {v:V} {hp':Hp} {n:Nat} {M:Bool} (h:jaD P I B nx a w o ⟨p,v,hp',n⟩ M):jaD P I B nx a w o ⟨q,v,hp',n⟩ M:=by
 intro K Q hK;refine h K Q fun I' w' hl=>hK I' w' ⟨hl.agree,hl.lt,hl.le,hl.heap,hl.below,hl.mono,hl.fresh⟩
def jhQ {k:qd}:∀{cs:List C} {r:List Nat},jeG k cs=some r->cs=r.map fun n=>C.d (.f k n)
 |[],r,h=>by simp only[jeG,zj]at h;subst h;rfl
 |c::l,r,h=>by
  unfold jeG at h;split at h
  ·rename_i h0;cases h0
  ·rename_i k' n l' h0;cases h0;split at h
   ·rename_i r' hk hr;cases h;have hk:=jbV hk;subst hk;simp[jhQ hr]
   ·cases h
  ·cases h
def jt2 {k:qd} {I:Env} {cs:List C} {r:List Nat} (h:jeG k cs=some r):cs.map (C.val I)=r.map (yW k ·):=by
 rw[jhQ h];simp[xS,C.val,D.val]
def jCz {k:qd} (r:List Nat):(frD k r.length r).map D.val=r.map (yW k ·):=by
 apply x5
 ·simp
 ·intro i h1 h2;simp at h1 h2;simp[frD,D.val,h1]
def jnv:∀{cs:List C} {r:List Int},jgk cs=some r->cs=r.map fun n=>C.d (.i .i64 n)
 |[],r,h=>by simp only[jgk,zj]at h;subst h;rfl
 |c::l,r,h=>by
  unfold jgk at h;split at h
  ·rename_i h0;cases h0
  ·rename_i h0;cases h0;obtain⟨r',hr,rfl⟩:=z4.1 h;rw[jnv hr];rfl
  ·cases h
def jkY {x y:AR} {cs:List C} (h:x.cells cs=some y):cs.map (C.val I)=(arD cs.length y).map D.val∧(cs.all fun c=>c.one hp)=true:=by
 unfold AR.cells at h;split at h
 ·obtain⟨r,hr,rfl⟩:=z4.1 h;have h1:=jhQ hr;have h2:cs.length=r.length:=by rw[h1];simp
  refine⟨by rw[h2,jCd,jCz,jt2 hr],zy.2 fun c hc=>?_⟩;rw[h1]at hc;obtain⟨_,_,rfl⟩:=qn.1 hc;rfl
 ·obtain⟨r,hr,rfl⟩:=z4.1 h;have h1:=jnv hr;have h2:cs.length=r.length:=by rw[h1];simp
  refine⟨by rw[h2,jCe,h1,xV];rfl,zy.2 fun c hc=>?_⟩;rw[h1]at hc;obtain⟨_,_,rfl⟩:=qn.1 hc;rfl
def jvZ {o:qu} {r:Res} (hh:HRel I B hp nx w) (hB:Old B w) (hr:jaB I nx rd a) (h:jg6 P o.op rd hp nx=some r) (hob:r.ob) :
  jaD P I B nx a w o r (jau sp o.op rd):=by
 unfold jg6 at h;split at h
 ·rename_i elem x hop;split at h
  ·rename_i k e r' hx;cases h;simp only[hop,jau];exact jtS hh hB hr hop hx
  ·cases h
 ·rename_i elem hop;split at h
  ·rename_i k r' hz;cases h;simp only[hop,jau];exact jqH hh hB hop hz
  ·cases h
 ·rename_i t n parts hop;split at h
  ·rename_i elem x hu hp1;split at h
   ·rename_i k e r' sz z hx hs hz;split at h
    ·rename_i h1 h2 h3 h4;have h1:=zi h1;have h2:=zi h2;have h3:=zi h3;have h4:=zQ h4;subst h1;subst h2;cases h;simp only[hop,jau];exact jcO (jqI hh hB hr hop hp1 hu hx hs hz h3 h4)
    ·cases h
   ·cases h
  ·cases h
 ·rename_i t x lo hi hop;split at h
  ·rename_i n elem h0 i e l m hu hx hl hm;split at h
   ·rename_i ty E r' hf hs;split at h
    ·rename_i h1 h2 h3 h4;cases h;have h1:=zi h1;have h2:=zi h2;subst h1;subst h2;simp only[hop,jau];exact jcO (jpq hh hB hr hop hu hx hl hm hf hs (zi h3) (zQ h4) hob)
    ·cases h
   ·rename_i kf E r hf hs;split at h
    ·rename_i h1 h2 h3;cases h;have h1:=zi h1;have h2:=zi h2;subst h1;subst h2;simp only[hop,jau];exact jcO (jpr hh hB hr hop hu hx hl hm hf hs (zQ h3) hob)
    ·cases h
   ·cases h
  ·rename_i elem k l m hu hx hl hm;split at h
   ·rename_i X sz hf hs;split at h
    ·rename_i h1 h2;cases h;simp only[hop,jau];exact jcO (jtV hh hB hr hop hu hx hl hm hf hs (zi h1) hob)
    ·cases h
   ·cases h
  ·cases h
 ·rename_i t x hop;split at h
  ·rename_i k i e j hx;split at h
   ·rename_i bk X hfx;obtain⟨ox,hf,hxk⟩:=zK.1 hfx;split at h
    ·rename_i he hag;split at h
     ·rename_i c hj hc;cases h;simp only[hop,jau];exact jtY hh hB hr hop hx hf hxk (zi he) hag (zG (zo j) (zQ hj)) hc hob
     ·cases h
    ·rename_i he hag;split at h
     ·rename_i sz hj hs;split at h
      ·rename_i hsz;have hj:=zi hj;subst hj;cases h;simp only[hop,jau];exact jtZ hh hB hr hop hx hf hxk (zi he) hag hs (zi hsz) hob
      ·cases h
     ·cases h
    ·cases h
   ·cases h
  ·cases h
 ·rename_i t x y hop;split at h
  ·rename_i k i e j v0 hx hy;split at h
   ·rename_i ty E r' hag hs hf;split at h
    ·rename_i r2 hk;cases h;simp only[hop,jau];have hob:i*e+j<E:=hob;exact jeL (jeK (E':=E) hh hr hop hx hy (jwO hk) (by simpa [W.cells]using hs) (by simp only[W.cells,List.all_cons,List.all_nil,Bool.and_true];exact jwO hk) hf rfl (by simp[W.cells];omega) (jAP hk hob))
    ·cases h
   ·rename_i ty k' E l kf v hag hs hf;split at h
    ·rename_i hk he;have hk:=jbV hk;subst hk;have he:=zi he;subst he;cases h;simp only[hop,jau];have hob:i<l.length∧j<E+1:=hob;exact jeL (jeJ hh hr hop hx hy rfl (by simpa [W.cells]using hs) rfl hf rfl (jAN hob.1 hob.2) rfl (jj E) hob.1)
    ·cases h
   ·cases h
  ·rename_i k i e E' y0 hx hy;split at h
   ·rename_i sz ty E r' hag hs hf;split at h
    ·rename_i h1 h2 h3 h4;have h2:=zi h2;have h3:=zi h3;have h4:=zi h4;subst h2;subst h3;subst h4;cases h;simp only[hop,jau];exact jeL (jeK (E':=E') hh hr hop hx hy rfl (by simpa [W.cells]using hs) (jt1 _ (jCy E' _)) hf rfl (by simp[W.cells]) (by simp[W.cells,xS,C.val,jk]))
    ·cases h
   ·rename_i sz ty k' E l kf v hag hs hf;split at h
    ·rename_i h1 h2 h3 h4;have hk:=jbV h1;subst hk;have h2:=zi h2;have h3:=zi h3;have h4:=zi h4;subst h2;subst h3;subst h4;cases h;simp only[hop,jau];have hob:i<l.length:=hob;exact jeL (jeJ hh hr hop hx hy rfl (by simpa [W.cells]using hs) (jt1 _ (jCx kf _ v)) hf (jt0 _) (jAO hob) rfl (jj E) hob)
    ·cases h
   ·cases h
  ·rename_i k i e cs hx hy;split at h
   ·rename_i sz ty E r' hag hs hf;split at h
    ·rename_i y hv;split at h
     ·rename_i h2 h3 h4;have h2:=zi h2;have h3:=zi h3;have h4:=zi h4;subst h2;subst h4;cases h;simp only[hop,jau];obtain⟨hcs,hone⟩:=jkY (I:=I) (hp:=hp) hv;refine jeL (jeK (E':=sz) (v':=y) hh hr hop hx hy rfl (by simpa [W.cells,h3]using hs) hone hf rfl (by simp[W.cells,h3]) ?_);simp only[W.cells,yd,xH,List.take_zero,qS,qa,h3];rw[hcs,h3,jk (by simp),List.append_nil]
     ·cases h
    ·cases h
   ·cases h
  ·cases h
 ·cases h
end
end Go.Sx
end
