/- Part 2 of the proof of EngineCompensates: the executor, the mirrors of the functions, the plain facts. -/
import Derived.Test.YtigliehhpdpaoaaGreatPA
import Derived.WalkKit
set_option maxRecDepth 100000
set_option linter.unusedSectionVars false
set_option linter.unusedSimpArgs false
set_option linter.unusedVariables false
set_option linter.defProp false
open Array renaming ext'->qy,getElem?_eq_some_iff->zA,getElem?_setIfInBounds->yp,getElem?_toList->yz,length_toList->yr,range->gZ
open Bool renaming and_eq_true->zk
open Classical renaming propDecidable->jC
open Function renaming comp_def->xq
open Go renaming FloatKind->zZ,Oper->zX,Operand->zH,Program->zy,TypeId->qf,Value->zF,World->zx,cell_of_row->xj,execOp->qr,grownCap->kn,growslice_fits->kj,heap_alloc_new->yx,invoke->jg,madeCells->ja,maxLen->gY,newRow->gz,resolve->yF,run_append_grow->f6,run_newObj->ji,run_underlying->zI,setRow_heap->yT,setRow_other->yg,typeInfo->yP,undef->qe,zeroValue->ym
open Go.Addr renaming add->j7
open Go.Builtin renaming append_->hH,firstCells->fq,lenOf->kw,zeroCells->fE
open Go.Conv renaming floatToFloat->jG
open Go.Deferred renaming ofValue->jX
open Go.FloatKind renaming decode->jo
open Go.Instr renaming buildSlice->xP,fill->gL,loadAt->yE,slice->jh,sliceAt->yf,sliceBound->yQ,sliceBounds->xr,storeAt->yh,sureAddr->qA
open Go.Op renaming floatArith->jZ
open Go.Oper renaming wp->jv
open Go.Question renaming forced->f7,nanBits->fM,nanConv->fP
open Go.Result renaming andThen_ok->zh
open Go.RowKit renaming Below->xA
open Go.RowKit.Below renaming refl->qO
open Go.Sem renaming run_bind->zn,run_pure->zp
open Go.Value renaming float->yS,ownBlock->zL,slice->qc
open Go.Value.slice renaming injEq->fz
open Go.World renaming cell?_of_block->qp,ownsRow_nil->xt
open Ieee.Datum renaming isNaN->jp
open Iff renaming rfl->ke
open Int renaming le_refl->j8
open List renaming all_eq_true->zq,append_assoc->qJ,drop_eq_nil_of_le->yV,eq_nil_of_length_eq_zero->qk,eq_of_mem_replicate->xx,ext_getElem?->xg,flatMap_def->fK,flatten_cons->yo,foldl_cons->hG,getD->za,getD_eq_getElem?_getD->qB,getElem?_append_left->z7,getElem?_append_right->qa,getElem?_cons_zero->qF,getElem?_drop->xN,getElem?_eq_getElem->zJ,getElem?_eq_none->z9,getElem?_eq_some_iff->zB,getElem?_map->zK,getElem?_set->xh,getElem?_take->z6,getElem_mem->xC,getElem_of_mem->jt,headD_cons->x5,length_append->qb,length_cons->z4,length_drop->xf,length_flatMap->fm,length_map->qG,length_nil->qD,length_replicate->jR,length_take->qP,map_append->xb,map_congr_left->z8,map_cons->zM,map_map->xI,map_nil->qR,map_toArray->xX,mem_append->qq,mem_append_left->yk,mem_append_right->x6,mem_cons->qv,mem_cons_of_mem->zR,mem_cons_self->zV,mem_flatten->jV,mem_map->qu,mem_of_mem_drop->yj,mem_of_mem_take->xU,nil_append->qM,nodup_cons->jx,range->zG,replicate->zr,set_append_right->gT,size_toArray->xE,take_append_drop->xi,take_left->kl,take_of_length_le->yv,zipIdx_cons->jU
open List.cons renaming injEq->jw
open Nat renaming add_assoc->qU,add_mul->qo,add_sub_cancel_left->gF,add_zero->qY,beq->zt,div_add_mod->yC,div_lt_of_lt_mul->xW,eq_of_beq_eq_true->zb,eq_zero_or_pos->x9,le_mul_of_pos_right->yR,le_of_ble_eq_true->zj,le_of_succ_le->fA,le_refl->zu,le_succ->qt,le_trans->qx,lt_irrefl->j4,lt_of_lt_of_le->zC,lt_succ_of_lt->yI,lt_succ_self->zo,lt_trichotomy->gv,min_eq_left->yY,mod_lt->ya,mul_assoc->kx,mul_comm->xJ,mul_eq_zero->yX,mul_le_mul_right->zW,not_lt_zero->xZ,succ_eq_add_one->yq,succ_pos->yH,zero_add->zP,zero_le->qI,zero_mul->qQ
open Ne renaming symm->yG
open Option renaming bind_eq_some_iff->zD,bind_some->zw,getD_none->x8,getD_some->zU,map_eq_some_iff->z5,map_none->xm,map_some->zQ
open Option.some renaming inj->xT,injEq->zi
open Prod.mk renaming injEq->qg
open Std.Legacy.Range renaming forIn_eq_forIn_range'->je,size->gS
section
open Go.RowKit
namespace Go.Sx
section
variable [Globs] {P:zy} {U:Env} {B:Kd} {nx:Nat} {hp:Hp} {w:zx} {rd:zH->Option V} {a:Act} {sp:jaa}
def jvl {ty:Nat} {k:zZ} {e:Nat} {r:List Nat} (hB:Old B w) :
  (O.arr ty k e r).ok (upd U nx (.pointer (some ⟨w.heap.size,0,none⟩))) B (w.alloc (.cells ((frD k e r).map D.val).toArray ty)) nx :=
 ⟨w.heap.size,upd_same _ _ _,fun h=>absurd (hB _ h) (j4 _),by rw[yx]⟩
def jsc {o:zX} {elem:Nat} {x:zH} {k:zZ} {e:Nat} {r:List Nat} (hh:HRel U B hp nx w) (hB:Old B w) (hr:jav U nx rd a) (ho:o.op=.box elem x) (hx:rd x=some (.w (.b k e r))) :
  jax P U B nx a w o ⟨True,.w (.c (.p nx 0 1 0)),(nx,.arr elem k e r)::hp,nx+1⟩ true:=by
 refine jak (U':=upd U nx (.pointer (some ⟨w.heap.size,0,none⟩))) (w':=w.alloc (.cells ((frD k e r).map D.val).toArray elem)) ?_
  (jbi hh hB _ _ _ (.arr elem k e r) rfl rfl (show V.lt (nx+1) (.w (.c (.p nx 0 1 0)))from zo nx) true trivial (jvl hB) (by simp[O.blk,base]))
 unfold qr;have hv:a.eval x=.agg ((frD k e r).map D.val).toArray:=(hr _ _ hx).2;simp only[ho,Instr.box,newVar,gz,zn,ji,zh,zp,hv];simp[V.val,W.val,C.val,base,Value.cells]
def jzr {cs:List C} {ds:List D} (h:jbA cs=some ds) (U:Env):cs.map (C.val U)=ds.map D.val:=by
 rw[jcf h,xI];rfl
def jx1 {t:qf} {k:zZ} {r:List Nat} (h:arrF P t=some (k,r)):∃z,jaB P t=some z∧z.map (C.val U)=(frD k r.length r).map D.val:=by
 unfold arrF at h;split at h
 ·rename_i sz ds _ _ hds;split at h
  ·rename_i k' _ _ _;cases hz:jaB P t with
   |none=>simp[hz]at hds
   |some z =>
    simp only[hz,zw]at hds;obtain⟨r',hr',he⟩:=z5.1 h;cases he;refine⟨z,rfl,?_⟩;rw[jzr hds,jgM hr',ji9]
  ·cases h
 ·cases h
def jpN {o:zX} {elem:Nat} {k:zZ} {r:List Nat} (hh:HRel U B hp nx w) (hB:Old B w) (ho:o.op=.alloc elem) (h:arrF P elem=some (k,r)) :
  jax P U B nx a w o ⟨True,.w (.c (.p nx 0 1 0)),(nx,.arr elem k r.length r)::hp,nx+1⟩ true:=by
 obtain⟨z,hz,hzv⟩:=jx1 (U:=U) h;obtain⟨v,hv,hvc,_⟩:=jaW (P:=P) (w:=w) (U:=U) hz
 refine jak (U':=upd U nx (.pointer (some ⟨w.heap.size,0,none⟩))) (w':=w.alloc (.cells ((frD k r.length r).map D.val).toArray elem)) ?_
  (jbi hh hB _ _ _ (.arr elem k r.length r) rfl rfl (show V.lt (nx+1) (.w (.c (.p nx 0 1 0)))from zo nx) true trivial (jvl hB) (by simp[O.blk,base]))
 unfold qr;rw[hzv]at hvc;simp only[ho,Instr.alloc,newVar,gz,zn,ji,zh,zp,hv,hvc];simp[V.val,W.val,C.val,base]
def jvm:∀(vs cs:List C) (n:Nat) (pre:List C),pre.length=n->cs.length=vs.length ->
  ((vs.zipIdx n).foldl (fun cs (c,j)=>cs.set (0+j) c) (pre++cs))=pre++vs
 |[],cs,n,pre,_,hl=>by
  have:cs=[]:=qk hl;simp[this]
 |v::vs,[],n,pre,_,hl=>by simp at hl
 |v::vs,c::cs,n,pre,hp,hl=>by
  rw[jU,hG]
  have h1:(pre++c::cs).set (0+n) v=(pre++[v])++cs:=by
   rw[zP,gT _ _ (by omega)];simp[hp]
  simp only[h1];rw[jvm vs cs (n+1) (pre++[v]) (by simp[hp]) (by simpa using hl)];simp
def jzs {z vs:List C} {e:Nat} {u:W} (hu:u.cells=vs) (hz:z.length=e) (hv:vs.length=e) :
  jde (fun i=>some (i*e,e)) z [(0,u)]=some vs:=by
 simp only[jde,hu];rw[if_pos ⟨hv,by omega⟩];have:=jvm vs z 0 [] rfl (by omega);simp only[qM]at this;simp only[qQ];exact congrArg some this
def jBu (k:zZ) (e:Nat) (r:List Nat):(Cont.frs k e [r]).flat=frD k e r:=by simp[Cont.flat]
def jpO {o:zX} {t elem e:Nat} {x:zH} {parts:Array (Nat × zH)} {k:zZ} {r:List Nat} {z:List C} (hh:HRel U B hp nx w) (hB:Old B w) (hr:jav U nx rd a)
  (ho:o.op=.buildSlice t 1 parts) (hp1:parts.toList=[(0,x)]) (hu:P.underlying t=some (.slice elem)) (hx:rd x=some (.w (.b k (e+1) r))) (hs:szT P elem=some (e+1)) (hz:jaB P elem=some z) (hzl:z.length=e+1) (hle:e+1<=4096) :
  jax P U B nx a w o ⟨True,.w (.c (.o nx)),(nx,.row elem (.frs k (e+1) [r]))::hp,nx+1⟩ true:=by
 have hv:=hr _ _ hx;obtain⟨zv,hzv,hzc,hlt⟩:=jaW (P:=P) (w:=w) (U:=U) hz
 have hl:∀c∈[((0:Nat),W.b k (e+1) r)],c.2.one hp=true∧c.2.lt nx:=by
  intro c hc;simp only[List.mem_singleton]at hc;subst hc;exact⟨rfl,trivial⟩
 have hfc:jde (fun i=>some (i*(e+1),e+1)) z [(0,W.b k (e+1) r)]=some ((frD k (e+1) r).map C.d):=jzs rfl hzl (by simp);have hf:=jdk (U:=U) _ hh _ _ _ hfc hl (hlt nx)
 refine jak (U':=upd U nx (.slice (some ⟨w.heap.size,0,none⟩) 1 1)) (w':=w.alloc (.cells ((Cont.frs k (e+1) [r]).flat.map D.val).toArray elem)) ?_
  (jbi hh hB _ _ _ (.row elem (.frs k (e+1) [r])) rfl rfl (show V.lt (nx+1) (.w (.c (.o nx)))from zo nx) true trivial (jsa (c:=.frs k (e+1) [r]) hB (by simp[Cont.n])) (by simp[O.blk,zL]))
 unfold qr
 have he:(parts.map fun(i,x)=>(i,a.eval x))=([((0:Nat),W.b k (e+1) r)].map fun x=>(x.1,x.2.val U)).toArray:=by
  apply qy;have hv2:a.eval x=(W.b k (e+1) r).val U:=hv.2;simp[hp1,hv2]
 have e1:¬(1*(e+1)>2^24):=by omega
 have e2:¬(1*(e+1)=0):=by omega
 have hvs:zv.cells.size=e+1:=by rw[hzc];simp[hzl]
 have hcells:(gZ (1*(e+1))).map (zv.cells[· % zv.cells.size]!)=(z.map (C.val U)).toArray:=by
  have:=jel zv.cells 1;apply qy;simp only[ja,hvs]at this;simp only[hvs];rw[this,hzc];simp
 simp only[ho,he,xP,zn,zI hu,zh,jaD w hs];rw[if_neg e1,if_neg e2];simp only[zn,zp,zh,hzv,hcells];have hfin:=hf.1;simp only[hfin,gz,zn,ji,zh,zp,jBu,xI];simp[V.val,W.val,C.val];rfl
def jmH (k:zZ):∀r:List Nat,(Cont.floats k r).flat=r.map (D.f k)
 |[]=>rfl
 |x::r=>by
  have:=jmH k r;simp only[Cont.flat]at this ⊢;rw[List.flatMap_cons,this];rfl
def joo {o:zX} {t h n elem ty E:Nat} {k:zZ} {r:List Nat} {x:zH} {lo hi:Option zH} {l m:Option Int} (hh:HRel U B hp nx w) (hB:Old B w) (hr:jav U nx rd a) (ho:o.op=.slice t x lo hi none)
  (hu:P.underlying t=some (.array n elem)) (hx:rd x=some (.w (.c (.p h 0 1 0)))) (hl:jaM rd lo=some l) (hm:jaM rd hi=some m) (hf:find hp h=some (.arr ty k E r)) (hs:szT P elem=some 1) (hn:n=E) (hn1:1<=n)
  (hob:r.length=n∧0<=l.getD 0∧l.getD 0<=m.getD (n:Int)∧m.getD (n:Int)<=(n:Int)) :
  jax P U B nx a w o ⟨r.length=n∧0<=l.getD 0∧l.getD 0<=m.getD (n:Int)∧m.getD (n:Int)<=(n:Int),.w (.c (.o nx)),(nx,.view h (Cont.sub (.floats k r) (l.getD 0).toNat (m.getD (n:Int)).toNat) m.isNone)::hp,nx+1⟩ true:=by
 obtain⟨hrl,h0,h1,h2⟩:=hob;obtain⟨hlt,hol,g,hk,hBg,hheap⟩:=hh.ok h _ hf;subst hn;obtain⟨k1,hlv⟩:=jcB hr hl;obtain⟨k2,hmv⟩:=jcB hr hm;have hxv:a.eval x=.pointer (some ⟨g,0,none⟩):=by rw[(hr _ _ hx).2];simp[C.val,hk,base]
 have hsb:=joh (P:=P) (w:=w) (len:=n) (l:=l) (m:=m) (k:=k1) (k':=k2) h0 h1 h2;have hlo:(l.getD 0).toNat<=(m.getD (n:Int)).toNat:=by omega
 have hhi:(m.getD (n:Int)).toNat<=n:=by omega
 have hrow:jaJ w (.slice (some ⟨g,0,none⟩) n n) (.floats k r):=by
  refine⟨some ⟨g,0,none⟩,n,by simp[Cont.n,hrl],⟨by simp[Cont.n,hrl],fun e=>by cases e⟩,fun _=>⟨g,0,rfl,fun j x hj=>?_⟩⟩;rw[zP,xj w g _ _ ty (0,0) hheap]
  have:frD k n r=(Cont.floats k r).flat:=by
   rw[<-hrl,ji9,jmH]
  rw[this];simp[hj]
 have hsub:=jkH (w:=w) (c:=.floats k r) (by simp[Cont.e]) hrow hlo (by simpa [Cont.n,hrl]using hhi) rfl;refine jak (U':=upd U nx (.slice (if n=(l.getD 0).toNat then some ⟨g,0,none⟩else(some (⟨g,0,none⟩:Addr)).map (·.add ((l.getD 0).toNat*1))) ((m.getD (n:Int)).toNat-(l.getD 0).toNat) (n-(l.getD 0).toNat))) (w':=w) ?_ ?_
 ·unfold qr;simp only[ho,hxv,hlv,hmv,xm,yf,zn,zI hu,zh,qA,zp,hsb,jaD w hs];simp[V.val,W.val,C.val];split<;>simp_all
 ·refine jcQ hh hB _ (.view h _ m.isNone) rfl rfl (show V.lt (nx+1) (.w (.c (.o nx)))from zo nx) true (zC hlt (qt nx)) ⟨by rw[upd_same];exact hsub,fun hfl a' n' cap' heq=>?_⟩ rfl;rw[upd_same]at heq;cases heq;cases m with
  |none=>simp
  |some q=>cases hfl
def jop {v:zF} {c:Cont} {lo hi q:Nat} (he:0<c.e) (h:jaJ w v c) (hlo:lo<=hi) (hhi:hi<=q) (hq:q<=c.n) {a':Option Addr} {n cap:Nat} (hv:v=.slice a' n cap) :
  jaJ w (.slice (if q=lo then a' else a'.map (·.add (lo*c.e))) (hi-lo) (q-lo)) (c.sub lo hi):=by
 obtain⟨a2,cap2,h1,⟨h2,h2'⟩,h3⟩:=h;rw[hv]at h1;cases h1;have hs:=c.sub_cell hlo (qx hhi hq);refine⟨_,_,by rw[hs.1],⟨by omega,fun hnone=>?_⟩,fun hn=>?_⟩
 ·by_cases hc:q=lo
  ·omega
  ·rw[if_neg hc]at hnone;have:=h2' (by simpa using hnone);omega
 rw[hs.1]at hn;obtain⟨b,off,rfl,hx⟩:=h3 (by omega);rw[if_neg (by omega)];refine⟨b,off+lo*c.e,by simp[jaL],fun j x hj=>?_⟩
 have hjl:j<(hi-lo)*c.e:=by
  have:=(zB.1 hj).1;rw[Cont.flat_length,hs.1,hs.2.1]at this;exact this
 have hk:j/c.e<hi-lo:=xW (by rw[xJ];exact hjl);have hm:=ya j he;have hdm:j/c.e*c.e+j%c.e=j:=by rw[xJ];exact yC j c.e
 have h4:=(c.sub lo hi).flat_get (i:=j/c.e) (j:=j%c.e) (by omega) (by omega);rw[hs.2.1,hdm,hj,hs.2.2 _ _ hk]at h4;have h5:=c.flat_get (i:=lo+j/c.e) (j:=j%c.e) (by omega) hm;have h6:=hx _ _ h5;cases h4;rw[<-h6]
 congr 2
 rw[qo];omega
def jgO {len cap:Nat} {l:Option Int} {m q:Int} {k k' k'':IntKind} (h0:0<=l.getD 0) (h1:l.getD 0<=m) (h2:m<=q) (h3:q<=(len:Int)) (h4:len<=cap) :
  (xr true len cap (l.map (Value.int k ·)) (some (.int k' m)) (some (.int k'' q))).run P w=.ok ((l.getD 0).toNat,m.toNat,q.toNat) w:=by
 have a1:0<=q∧q<=(cap:Int):=by omega
 have a2:0<=m∧m<=(q.toNat:Int):=by omega
 cases l with
 |none =>
  simp only[xr,yQ,asIntOf,xm,zn,zp,zh,if_pos a1,if_pos a2,if_true];rfl
 |some l =>
  simp only[zU]at h0 h1;have a3:0<=l∧l<=(m.toNat:Int):=by omega
  simp only[xr,yQ,asIntOf,zQ,zn,zp,zh,if_pos a1,if_pos a2,if_pos a3,if_true,zU]
def jBv {h:Nat} {ob:O} {c:Cont} (hl:h<nx) (hol:ob.lt nx):(jhS h ob c).lt (nx+1):=by
 unfold jhS;split
 ·trivial
 ·trivial
 ·exact zC hol (qt nx)
 ·exact zC hl (qt nx)
def jb5 {o:zX} {r:Res} {M:Bool} (h:jax P U B nx a w o r true):jax P U B nx a w o r M:=fun K Q hK =>
 h K Q fun U' w' hl=>hK U' w' ⟨hl.agree,hl.lt,hl.le,(let ⟨B',g,h⟩:=hl.heap; ⟨B',⟨g.le,g.new,g.out,fun _=>g.mono rfl⟩,h⟩),hl.below,fun _=>hl.mono rfl,fun _=>hl.fresh rfl⟩
def jpP {o:zX} {t h e elem:Nat} {x hi mx:zH} {lo:Option zH} {l:Option Int} {k k':IntKind} {m q:Int} {ob:O} {c:Cont} (hh:HRel U B hp nx w) (hB:Old B w) (hr:jav U nx rd a) (ho:o.op=.slice t x lo (some hi) (some mx))
  (hu:P.underlying t=some (.slice elem)) (hx:rd x=some (.w (.c (.o h)))) (hl:jaM rd lo=some l) (hm:(rd hi).bind V.int?=some (k,m)) (hq:(rd mx).bind V.int?=some (k',q)) (hf:find hp h=some ob) (hs:szT P elem=some (e+1)) (hc:ob.cont=some c) (hce:c.e=e+1)
  (hob:0<=l.getD 0∧l.getD 0<=m∧m<=q∧q<=(c.n:Int)) :
  jax P U B nx a w o ⟨0<=l.getD 0∧l.getD 0<=m∧m<=q∧q<=(c.n:Int),.w (.c (.o nx)),(nx,jhS h ob (c.sub (l.getD 0).toNat m.toNat))::hp,nx+1⟩ true:=by
 obtain⟨h0,h1,h2,h3⟩:=hob;have hok:=hh.ok h ob hf;have hrow:=jaX hok.2.2 hc;obtain⟨a2,cap,hv,⟨hcap,_⟩,hcells⟩:=hrow;have he:0<c.e:=by omega
 have hlo:(l.getD 0).toNat<=m.toNat:=by omega
 have hhi:m.toNat<=q.toNat:=by omega
 have hqn:q.toNat<=c.n:=by omega
 have hsub:=jop (w:=w) he (jaX hok.2.2 hc) hlo hhi hqn hv;obtain⟨k1,hlv⟩:=jcB hr hl
 have hmv:a.eval hi=.int k m:=by
  cases hri:rd hi with
  |none=>simp[hri]at hm
  |some u=>simp only[hri,zw]at hm;have:=(hr _ _ hri).2;rw[V.int?_eq hm]at this;exact this
 have hqv:a.eval mx=.int k' q:=by
  cases hri:rd mx with
  |none=>simp[hri]at hq
  |some u=>simp only[hri,zw]at hq;have:=(hr _ _ hri).2;rw[V.int?_eq hq]at this;exact this
 have hsb:=jgO (P:=P) (w:=w) (len:=c.n) (cap:=cap) (l:=l) (m:=m) (q:=q) (k:=k1) (k':=k) (k'':=k') h0 h1 h2 h3 hcap;have hxv:a.eval x=.slice a2 c.n cap:=by rw[(hr _ _ hx).2];exact hv
 refine jak (U':=upd U nx (.slice (if q.toNat=(l.getD 0).toNat then a2 else a2.map (·.add ((l.getD 0).toNat*c.e))) (m.toNat-(l.getD 0).toNat) (q.toNat-(l.getD 0).toNat))) (w':=w) ?_ ?_
 ·unfold qr;simp only[ho,hxv,hlv,hmv,hqv,zQ,yf,jh,zn,zI hu,zh,hsb,jaD w hs,zp];simp[V.val,W.val,C.val,hce]
 ·refine jcQ hh hB _ (jhS h ob (c.sub (l.getD 0).toNat m.toNat)) rfl rfl (show V.lt (nx+1) (.w (.c (.o nx)))from zo nx) true (jBv hok.1 hok.2.1) ?_ ?_
  ·have hblk:∀a n' cap',(qc (if q.toNat=(l.getD 0).toNat then a2 else a2.map (·.add ((l.getD 0).toNat*c.e))) (m.toNat-(l.getD 0).toNat) (q.toNat-(l.getD 0).toNat))=.slice (some a) n' cap'->0<n'->∃b off,a2=some ⟨b,off,none⟩∧a.block=b∧0<c.n:=by
    intro a n' cap' heq hn';simp only[fz]at heq;obtain⟨h5,h6,h7⟩:=heq;obtain⟨b,off,rfl,_⟩:=hcells (by omega);rw[if_neg (by omega)]at h5;simp only[zQ,zi]at h5;refine⟨b,off,rfl,?_,by omega⟩;rw[<-h5,jaL]
   cases ob with
   |ext c2 =>
    refine⟨by rw[upd_same];exact hsub,?_⟩;rw[upd_same];intro a n' cap' heq hn';obtain⟨b,off,rfl,rfl,hcn⟩:=hblk a n' cap' heq hn';exact hok.2.2.2 ⟨_,off,none⟩ c.n cap hv hcn
   |fext c2 =>
    refine⟨by rw[upd_same];exact hsub,?_⟩;rw[upd_same];intro a n' cap' heq hn';obtain⟨b,off,rfl,rfl,hcn⟩:=hblk a n' cap' heq hn';exact hok.2.2.2 ⟨_,off,none⟩ c.n cap hv hcn
   |view r2 c2 _ =>
    exact⟨by rw[upd_same];exact hsub,fun h=>by cases h⟩
   |rrow c2 =>
    exact⟨by rw[upd_same];exact hsub,fun h=>by cases h⟩
   |sub r2 i2 e2 j2 t2 c2 =>
    exact⟨by rw[upd_same];exact hsub,fun h=>by cases h⟩
   |row ty c2 =>
    exact⟨by rw[upd_same];exact hsub,fun h=>by cases h⟩
   |_=>simp[O.cont]at hc
  ·cases ob<;>simp[O.cont]at hc<;>rfl
def jra {o:zX} {t h e elem ty:Nat} {x hi mx:zH} {k k':IntKind} {m q:Int} {c:Cont} (hh:HRel U B hp nx w) (hr:jav U nx rd a) (ho:o.op=.slice t x none (some hi) (some mx))
  (hu:P.underlying t=some (.slice elem)) (hx:rd x=some (.w (.c (.o h)))) (hm:(rd hi).bind V.int?=some (k,m)) (hq:(rd mx).bind V.int?=some (k',q)) (hf:find hp h=some (.row ty c)) (hs:szT P elem=some (e+1)) (hce:c.e=e+1)
  (hob:0<=m∧m<=q∧q<=(c.n:Int)) :
  jax P U B nx a w o ⟨0<=m∧m<=q∧q<=(c.n:Int),.w (.c (.o nx)),(nx,.rrow (c.sub 0 m.toNat))::(h,.dead)::hp,nx+1⟩ false:=by
 obtain⟨h0,h2,h3⟩:=hob;have hok:=hh.ok h _ hf;have hrow:=jaX hok.2.2 (show(O.row ty c).cont=some c from rfl);obtain⟨a2,cap,hv,⟨hcap,_⟩,hcells⟩:=hrow;have he:0<c.e:=by omega
 have hsub:=jop (w:=w) (lo:=0) he (jaX hok.2.2 (show(O.row ty c).cont=some c from rfl)) (qI _) (show m.toNat<=q.toNat by omega) (show q.toNat<=c.n by omega) hv
 have hmv:a.eval hi=.int k m:=by
  cases hri:rd hi with
  |none=>simp[hri]at hm
  |some u=>simp only[hri,zw]at hm;have:=(hr _ _ hri).2;rw[V.int?_eq hm]at this;exact this
 have hqv:a.eval mx=.int k' q:=by
  cases hri:rd mx with
  |none=>simp[hri]at hq
  |some u=>simp only[hri,zw]at hq;have:=(hr _ _ hri).2;rw[V.int?_eq hq]at this;exact this
 have hsb:=jgO (P:=P) (w:=w) (len:=c.n) (cap:=cap) (l:=none) (m:=m) (q:=q) (k:=.i64) (k':=k) (k'':=k') (by simp) (by simpa using h0) h2 h3 hcap;simp only[xm,x8,Int.toNat_zero]at hsb;have hxv:a.eval x=.slice a2 c.n cap:=by rw[(hr _ _ hx).2];exact hv
 have hblk:(qc (if q.toNat=0 then a2 else a2.map (·.add (0*c.e))) (m.toNat-0) (q.toNat-0)).ownBlock=(U h).ownBlock:=by
  rw[hv];split
  ·cases a2<;>rfl
  ·cases a2 with
   |none=>rfl
   |some p =>
    simp only[zQ,zL,zi,qQ];unfold j7;split<;>rfl
 have ha:=jal U nx (.slice (if q.toNat=0 then a2 else a2.map (·.add (0*c.e))) (m.toNat-0) (q.toNat-0));refine jak (U':=upd U nx (.slice (if q.toNat=0 then a2 else a2.map (·.add (0*c.e))) (m.toNat-0) (q.toNat-0))) (w':=w) ?_ ⟨ha,zo nx,qt nx,HRel.gr ?_,Bel.refl _ _,(fun h=>by cases h),fun h=>by cases h⟩
 ·unfold qr;simp only[ho,hxv,hmv,hqv,zQ,xm,yf,jh,zn,zI hu,zh,hsb,jaD w hs,zp];simp[V.val,W.val,C.val,hce]
 ·have h1:=(hh.agree ha).mono_nx (qt nx);refine⟨fun k1 o1 hf1=>?_,fun k1 o1 k2 o2 b hf1 hf2 hne hb1 hb2=>?_,h1.glob⟩
  ·simp only[find]at hf1;split at hf1
   ·rename_i e1;subst e1;cases hf1;refine⟨zo _,trivial,by rw[upd_same];exact hsub,fun k hk=>?_⟩;rw[upd_same,hblk]at hk;exact⟨hok.2.2.2 k hk,(O.blk_lt hok.2.2 hk).1⟩
   ·split at hf1
    ·rename_i e1;subst e1;cases hf1;exact⟨yI hok.1,trivial,trivial⟩
    ·exact h1.ok k1 o1 hf1
  ·have old:∀k1 o1 b,k1≠nx->find ((nx,O.rrow (c.sub 0 m.toNat))::(h,.dead)::hp) k1=some o1->o1.blk ((upd U nx (.slice (if q.toNat=0 then a2 else a2.map (·.add (0*c.e))) (m.toNat-0) (q.toNat-0))) k1)=some b->k1≠h∧find hp k1=some o1∧o1.blk (U k1)=some b:=by
    intro k1 o1 b hne hf hb;simp only[find]at hf;rw[if_neg (fun e=>hne e.symm)]at hf;split at hf
    ·cases hf;cases hb
    ·rename_i hne2;have hlt:=(hh.ok k1 o1 hf).1;rw[ha k1 hlt]at hb;exact⟨fun e=>hne2 e.symm,hf,hb⟩
   have new:∀o1 b,find ((nx,O.rrow (c.sub 0 m.toNat))::(h,.dead)::hp) nx=some o1->o1.blk ((upd U nx (.slice (if q.toNat=0 then a2 else a2.map (·.add (0*c.e))) (m.toNat-0) (q.toNat-0))) nx)=some b->(O.row ty c).blk (U h)=some b:=by
    intro o1 b hf hb;simp only[find,if_true,zi]at hf;subst hf;rw[upd_same]at hb;exact(show(U h).ownBlock=some b from hblk.symm.trans hb)
   by_cases e1:k1=nx
   ·subst e1;obtain⟨n2,f2,g2⟩:=old k2 o2 b (fun e=>hne e.symm) hf2 hb2;exact hh.apart h _ k2 o2 b hf f2 (fun e=>n2 e.symm) (new o1 b hf1 hb1) g2
   ·obtain⟨n1,f1,g1⟩:=old k1 o1 b e1 hf1 hb1
    by_cases e2:k2=nx
    ·subst e2;exact hh.apart h _ k1 o1 b hf f1 (fun e=>n1 e.symm) (new o2 b hf2 hb2) g1
    ·obtain⟨n2,f2,g2⟩:=old k2 o2 b e2 hf2 hb2;exact hh.apart k1 o1 k2 o2 b f1 f2 hne g1 g2
def jzt {ob:O} {c:Cont} (h:jeX ob=some c):ob.cont=some c∧∀v,ob.blk v=v.ownBlock:=by
 cases ob<;>simp[jeX]at h<;>subst h<;>exact⟨rfl,fun _=>rfl⟩
def jBw {U:Env} {B:Kd} {w:zx} {h:Nat} {ob:O} {c:Cont} (hc:jeX ob=some c) (hk:ob.ok U B w h):∀k,(U h).ownBlock=some k->¬B.all k:=by
 cases ob<;>simp[jeX]at hc
 ·exact hk.2
 ·exact fun k e=>(hk.2 k e).1
def jka {o:zX} {t h e elem:Nat} {x lo:zH} {k:IntKind} {l:Int} {c:Cont} {ob:O} (hh:HRel U B hp nx w) (hr:jav U nx rd a) (ho:o.op=.slice t x (some lo) none none)
  (hu:P.underlying t=some (.slice elem)) (hx:rd x=some (.w (.c (.o h)))) (hl:(rd lo).bind V.int?=some (k,l)) (hf:find hp h=some ob) (hc:jeX ob=some c) (hs:szT P elem=some (e+1)) (hce:c.e=e+1)
  (hob:0<=l∧l<=(c.n:Int)) :
  ∃v,(∀w',(qr a.eval o).run P w'=.ok (.value v) w')∧Left U B nx w ⟨0<=l∧l<=(c.n:Int),.w (.c (.o nx)),(nx,.rrow (c.sub l.toNat c.n))::(h,.dead)::hp,nx+1⟩ false (upd U nx v) w:=by
 obtain⟨h0,h2⟩:=hob;have hok:=hh.ok h _ hf;obtain⟨hcont,hblk0⟩:=jzt hc;have hrow:=jaX hok.2.2 hcont;obtain⟨a2,cap,hv,⟨hcap,_⟩,hcells⟩:=hrow;have he:0<c.e:=by omega
 have hsub:=jkH (w:=w) he (jaX hok.2.2 hcont) (show l.toNat<=c.n by omega) (zu _) hv
 have hlv:a.eval lo=.int k l:=by
  cases hri:rd lo with
  |none=>simp[hri]at hl
  |some u=>simp only[hri,zw]at hl;have:=(hr _ _ hri).2;rw[V.int?_eq hl]at this;exact this
 have hxv:a.eval x=.slice a2 c.n cap:=by rw[(hr _ _ hx).2];exact hv
 have hblk:(qc (if cap=l.toNat then a2 else a2.map (·.add (l.toNat*c.e))) (c.n-l.toNat) (cap-l.toNat)).ownBlock=(U h).ownBlock:=by
  rw[hv];split
  ·cases a2<;>rfl
  ·cases a2 with
   |none=>rfl
   |some p =>
    simp only[zQ,zL,zi];unfold j7;split<;>rfl
 have ha:=jal U nx (.slice (if cap=l.toNat then a2 else a2.map (·.add (l.toNat*c.e))) (c.n-l.toNat) (cap-l.toNat));refine⟨.slice (if cap=l.toNat then a2 else a2.map (·.add (l.toNat*c.e))) (c.n-l.toNat) (cap-l.toNat),fun w'=>?_,⟨ha,zo nx,qt nx,HRel.gr ?_,Bel.refl _ _,(fun h=>by cases h),fun h=>by cases h⟩⟩
 ·have hsb:=jcw (P:=P) (w:=w') (len:=c.n) (cap:=cap) (l:=some l) (m:=none) (k:=k) (k':=.i64) (by simpa using h0) (by simpa using h2) (by simp) hcap;simp only[xm,zQ,x8,zU,Int.toNat_natCast]at hsb;unfold qr;simp only[ho,hxv,hlv,zQ,xm,yf,jh,zn,zI hu,zh,hsb,jaD w' hs,zp];simp[hce]
 ·have h1:=(hh.agree ha).mono_nx (qt nx);refine⟨fun k1 o1 hf1=>?_,fun k1 o1 k2 o2 b hf1 hf2 hne hb1 hb2=>?_,h1.glob⟩
  ·simp only[find]at hf1;split at hf1
   ·rename_i e1;subst e1;cases hf1;refine⟨zo _,trivial,by rw[upd_same];exact hsub,fun k hk=>?_⟩;rw[upd_same,hblk]at hk;exact⟨jBw hc hok.2.2 k hk,(O.blk_lt hok.2.2 ((hblk0 _).trans hk)).1⟩
   ·split at hf1
    ·rename_i e1;subst e1;cases hf1;exact⟨yI hok.1,trivial,trivial⟩
    ·exact h1.ok k1 o1 hf1
  ·have old:∀k1 o1 b,k1≠nx->find ((nx,O.rrow (c.sub l.toNat c.n))::(h,.dead)::hp) k1=some o1->o1.blk ((upd U nx (.slice (if cap=l.toNat then a2 else a2.map (·.add (l.toNat*c.e))) (c.n-l.toNat) (cap-l.toNat))) k1)=some b->k1≠h∧find hp k1=some o1∧o1.blk (U k1)=some b:=by
    intro k1 o1 b hne hf hb;simp only[find]at hf;rw[if_neg (fun e=>hne e.symm)]at hf;split at hf
    ·cases hf;cases hb
    ·rename_i hne2;have hlt:=(hh.ok k1 o1 hf).1;rw[ha k1 hlt]at hb;exact⟨fun e=>hne2 e.symm,hf,hb⟩
   have new:∀o1 b,find ((nx,O.rrow (c.sub l.toNat c.n))::(h,.dead)::hp) nx=some o1->o1.blk ((upd U nx (.slice (if cap=l.toNat then a2 else a2.map (·.add (l.toNat*c.e))) (c.n-l.toNat) (cap-l.toNat))) nx)=some b->ob.blk (U h)=some b:=by
    intro o1 b hf hb;simp only[find,if_true,zi]at hf;subst hf;rw[upd_same]at hb;exact(hblk0 _).trans (show(U h).ownBlock=some b from hblk.symm.trans hb)
   by_cases e1:k1=nx
   ·subst e1;obtain⟨n2,f2,g2⟩:=old k2 o2 b (fun e=>hne e.symm) hf2 hb2;exact hh.apart h _ k2 o2 b hf f2 (fun e=>n2 e.symm) (new o1 b hf1 hb1) g2
   ·obtain⟨n1,f1,g1⟩:=old k1 o1 b e1 hf1 hb1
    by_cases e2:k2=nx
    ·subst e2;exact hh.apart h _ k1 o1 b hf f1 (fun e=>n1 e.symm) (new o2 b hf2 hb2) g1
    ·obtain⟨n2,f2,g2⟩:=old k2 o2 b e2 hf2 hb2;exact hh.apart k1 o1 k2 o2 b f1 f2 hne g1 g2
def juk {o:zX} {r:Res} (hh:HRel U B hp nx w) (hr:jav U nx rd a) (h:jdf P o.op rd hp nx=some r) (hob:r.ob) :
  jax P U B nx a w o r (jam sp o.op rd):=by
 unfold jdf at h;split at h
 ·rename_i t x hi mx hop;split at h
  ·rename_i hmv;split at h
   ·rename_i elem k km m kq q hu hx hm hq;split at h
    ·rename_i ty c e hf hs;split at h
     ·rename_i hce;cases h;simp only[hop,jam,hmv];exact jra hh hr hop hu hx hm hq hf hs (zb hce) hob
     ·cases h
    ·cases h
   ·cases h
  ·cases h
 ·rename_i t x lo hop;split at h
  ·rename_i hcut;split at h
   ·rename_i elem hh' k l hu hx hl;split at h
    ·rename_i c e hfc hs;split at h
     ·rename_i hce;cases h;simp only[hop,jam,hcut];cases hf:find hp hh' with
      |none=>simp[hf]at hfc
      |some ob =>
       simp only[hf,zw]at hfc;obtain⟨v,hrun,hl⟩:=jka hh hr hop hu hx hl hf hfc hs (zb hce) hob;exact jak (U':=upd U nx v) (w':=w) (by rw[hrun w];show Result.ok (Next.value v) w=.ok (.value (upd U nx v nx)) w;rw[upd_same]) hl
     ·cases h
    ·cases h
   ·cases h
  ·cases h
 ·cases h
def XC.sub_spec (X:XC) {lo hi:Nat} (h:lo<=hi) (hh:hi<=X.n):(X.sub lo hi).n=hi-lo∧(X.sub lo hi).e=X.e∧∀k m,k<hi-lo->(X.sub lo hi).cell k m=X.cell (lo+k) m:=by
 cases X<;>simp only[XC.sub,XC.n,XC.e,XC.cell]at * <;>
  first
  |(refine⟨by simp;omega,trivial,fun k m hk=>?_⟩;simp[za,hk])
  |(refine⟨by simp;omega,rfl,fun k m hk=>?_⟩;simp[za,hk])
def jBx {v:zF} {X:XC} {lo hi:Nat} (h:IsX B w v X) (hlo:lo<=hi) (hhi:hi<=X.n) {a':Option Addr} {n cap:Nat} (hv:v=.slice a' n cap) :
  IsX B w (.slice (if cap=lo then a' else a'.map (·.add (lo*X.e))) (hi-lo) (cap-lo)) (X.sub lo hi):=by
 obtain⟨a2,cap2,h1,⟨h2,h2'⟩,h3⟩:=h;rw[hv]at h1;cases h1;have hs:=X.sub_spec hlo hhi;refine⟨_,_,by rw[hs.1],⟨by omega,fun hnone=>?_⟩,fun hn=>?_⟩
 ·by_cases hc:cap=lo
  ·omega
  ·rw[if_neg hc]at hnone;have:=h2' (by simpa using hnone);omega
 rw[hs.1]at hn;obtain⟨b,off,rfl,hbB,hx⟩:=h3 (by omega);rw[if_neg (by omega)];refine⟨b,off+lo*X.e,by simp[jaL],hbB,fun i j hi' hj=>?_⟩;rw[hs.1]at hi';rw[hs.2.1]at hj ⊢;obtain⟨u,hu,hux⟩:=hx (lo+i) j (by omega) hj;refine⟨u,?_,by rw[hs.2.2 _ _ hi'];exact hux⟩;have e1:off+lo*X.e+(i*X.e+j)=off+((lo+i)*X.e+j):=by rw[qo];omega
 rw[e1];exact hu
def jsd {o:zX} {t h sz elem:Nat} {x:zH} {lo hi:Option zH} {l m:Option Int} {X:XC} (hh:HRel U B hp nx w) (hB:Old B w) (hr:jav U nx rd a) (ho:o.op=.slice t x lo hi none)
  (hu:P.underlying t=some (.slice elem)) (hx:rd x=some (.w (.c (.o h)))) (hl:jaM rd lo=some l) (hm:jaM rd hi=some m) (hf:find hp h=some (.xext X)) (hs:szT P elem=some sz) (hsz:sz=X.e)
  (hob:0<=l.getD 0∧l.getD 0<=m.getD (X.n:Int)∧m.getD (X.n:Int)<=(X.n:Int)) :
  jax P U B nx a w o ⟨0<=l.getD 0∧l.getD 0<=m.getD (X.n:Int)∧m.getD (X.n:Int)<=(X.n:Int),.w (.c (.o nx)),(nx,.xext (X.sub (l.getD 0).toNat (m.getD (X.n:Int)).toNat))::hp,nx+1⟩ true:=by
 obtain⟨h0,h1,h2⟩:=hob;have hok:=hh.ok h _ hf;obtain⟨a2,cap,hv,⟨hcap,_⟩,hcells⟩:=hok.2.2;have hlo:(l.getD 0).toNat<=(m.getD (X.n:Int)).toNat:=by omega
 have hhi:(m.getD (X.n:Int)).toNat<=X.n:=by omega
 have hsub:=jBx (w:=w) hok.2.2 hlo hhi hv;obtain⟨k1,hlv⟩:=jcB hr hl;obtain⟨k2,hmv⟩:=jcB hr hm;have hsb:=jcw (P:=P) (w:=w) (len:=X.n) (cap:=cap) (l:=l) (m:=m) (k:=k1) (k':=k2) h0 h1 h2 hcap;have hxv:a.eval x=.slice a2 X.n cap:=by rw[(hr _ _ hx).2];exact hv
 subst hsz;refine jak (U':=upd U nx (.slice (if cap=(l.getD 0).toNat then a2 else a2.map (·.add ((l.getD 0).toNat*X.e))) ((m.getD (X.n:Int)).toNat-(l.getD 0).toNat) (cap-(l.getD 0).toNat))) (w':=w) ?_ ?_
 ·unfold qr;simp only[ho,hxv,hlv,hmv,xm,yf,jh,zn,zI hu,zh,hsb,jaD w hs,zp];simp[V.val,W.val,C.val]
 ·exact jcQ hh hB _ (.xext (X.sub (l.getD 0).toNat (m.getD (X.n:Int)).toNat)) rfl rfl (show V.lt (nx+1) (.w (.c (.o nx)))from zo nx) true trivial (by unfold O.ok;rw[upd_same];exact hsub) rfl
def jvn (bk:Bool) (c:Cont) {n:Nat}:(jeU bk c).lt n:=by cases bk<;>trivial
def jx2 (bk:Bool) (c:Cont) (v:zF):(jeU bk c).blk v=none:=by cases bk<;>rfl
def jse (bk:Bool) (c:Cont) (v:zF) (k:Nat):(jeU bk c).blk v≠some k:=by cases bk<;>simp[jeU,O.blk]
def Kd.sel (B:Kd):Bool->Nat->Prop
 |true=>B.fr
 |false=>B.kp
def jvo {U:Env} {B:Kd} {w:zx} {h:Nat} {bk:Bool} {c:Cont} (hr:jaJ w (U h) c∧jbW (B.sel bk) (U h)):(jeU bk c).ok U B w h:=by cases bk<;>exact hr
def jpQ {U:Env} {B:Kd} {w:zx} {h:Nat} {o:O} {bk:Bool} {X:XC} (hok:o.ok U B w h) (hx:o.xk=some (bk,X)):∃a cap,U h=.slice a X.n cap∧(X.n<=cap∧(a=none->cap=0)) ∧
  (0<X.n->∃b off,a=some ⟨b,off,none⟩∧∀i j,i<X.n->j<X.e->∃u,w.cell? ⟨b,off+(i*X.e+j),none⟩=some u∧(X.cell i j).at (B.sel bk) w u):=by
 cases o with
 |xext X' =>
  simp only[O.xk,zi,qg]at hx;obtain⟨rfl,rfl⟩:=hx;obtain⟨a,cap,h1,h2,h3⟩:=hok;exact⟨a,cap,h1,h2,fun hn=>let ⟨b,off,h4,_,h6⟩:=h3 hn; ⟨b,off,h4,h6⟩⟩
 |xrow ty X' =>
  simp only[O.xk,zi,qg]at hx;obtain⟨rfl,rfl⟩:=hx;obtain⟨us,hr,hi,_⟩:=hok;rcases hr.2 with ⟨h1,hn⟩|⟨g,cap,cur,h1,h2,h3,h4,h5,h6,h7⟩
  ·exact⟨none,0,by rw[hn];exact h1,⟨by omega,fun _=>rfl⟩,fun h=>by omega⟩
  ·refine⟨some ⟨g,0,none⟩,cap,h1,⟨h4,fun h=>by cases h⟩,fun _=>⟨g,0,rfl,fun i j h8 h9=>?_⟩⟩;obtain⟨u,hu,hux⟩:=hi i j h8 h9;refine⟨u,?_,hux⟩;rw[zP,xj w g _ cur ty (0,0) h3];have h2:(cur.toList.take (X'.n*X'.e))[i*X'.e+j]?=some u:=by rw[h7,hu]
   rw[z6]at h2;split at h2
   ·simpa using h2
   ·cases h2
 |_=>simp[O.xk]at hx
def jsf {bk:Bool}:∀(l:List NC) (nx:Nat) (hp:Hp) (h:Nat),h<nx->find (ncs bk l nx hp).2.1 h=find hp h
 |[],_,_,_,_=>rfl
 |x::l,nx,hp,h,hlt=>by
  simp only[ncs];rw[jsf l (ncN nx x) (ncH bk nx hp x) h (by cases x<;>simp only[ncN]<;>omega)];cases x with
  |d y=>rfl
  |r c=>simp only[ncH,find];rw[if_neg (by omega)]
def jni {w:zx} {bk:Bool} (hB:Old B w):∀(l:List NC) (us:List zF) (nx:Nat) (hp:Hp) (U:Env),HRel U B hp nx w->l.length=us.length->(∀(j:Nat) (x:NC) (u:zF),l[j]?=some x->us[j]?=some u->x.at (B.sel bk) w u) ->
  ∃U',jae nx U U'∧(ncs bk l nx hp).1.map (C.val U')=us∧(∀c∈(ncs bk l nx hp).1,C.lt (ncs bk l nx hp).2.2 c)∧nx<=(ncs bk l nx hp).2.2∧HRel U' B (ncs bk l nx hp).2.1 (ncs bk l nx hp).2.2 w ∧
   ∀h o k,nx<=h->find (ncs bk l nx hp).2.1 h=some o->o.blk (U' h)≠some k
 |[],us,nx,hp,U,hh,hl,_=>by
  have:us=[]:=qk hl.symm;subst this;exact⟨U,jae.refl _ _,rfl,(fun c hc=>by cases hc),zu _,hh,fun h o k hn hf=>by have:=(hh.ok h o hf).1;omega⟩
 |x::l,[],nx,hp,U,hh,hl,_=>by simp at hl
 |x::l,u::us,nx,hp,U,hh,hl,hat=>by
  have h0:=hat 0 x u rfl rfl;cases x with
  |d y =>
   have hu:u=y.val:=h0;obtain⟨U',hag,hm,hlt,hle,hh',hb⟩:=jni hB l us nx hp U hh (by simpa using hl) (fun j x u hj hu=>hat (j+1) x u (by simpa using hj) (by simpa using hu));refine⟨U',hag,?_,?_,hle,hh',hb⟩
   ·simp only[ncs,ncN,ncH,zM,hm,C.val,hu]
   ·intro c hc;simp only[ncs,ncN,ncH,qv]at hc;rcases hc with rfl|hc
    ·trivial
    ·exact hlt c hc
  |r c =>
   have hu:jaJ w u c∧jbW (B.sel bk) u:=h0;have hh1:HRel (upd U nx u) B ((nx,jeU bk c)::hp) (nx+1) w:=hh.add (qO _ w) hB (jal _ _ _) (jvn bk c) (jvo (by rw[upd_same];exact hu)) (fun k hk=>absurd hk (jse bk c _ k));obtain⟨U',hag,hm,hlt,hle,hh',hb⟩:=jni hB l us (nx+1) _ _ hh1 (by simpa using hl) (fun j x u hj hu=>hat (j+1) x u (by simpa using hj) (by simpa using hu));have hag2:jae nx U U':=(jal U nx u).trans hag (qt nx);refine⟨U',hag2,?_,?_,fA hle,hh',fun h o k hn hf hk=>?_⟩
   ·simp only[ncs,ncN,ncH,zM,hm,C.val];rw[hag nx (zo nx),upd_same]
   ·intro d hd;simp only[ncs,ncN,ncH,qv]at hd;rcases hd with rfl|hd
    ·exact hle
    ·exact hlt d hd
   ·by_cases e:h=nx
    ·subst e;have hf2:find (ncs bk l (h+1) ((h,jeU bk c)::hp)).2.1 h=some o:=hf
     have:o=jeU bk c:=by
      have:=jsf (bk:=bk) l (h+1) ((h,jeU bk c)::hp) h (zo h);rw[this]at hf2;simpa [find]using hf2.symm
     subst this;exact jse bk c _ k hk
    ·exact hb h o k (by omega) hf hk
def jsg {o:zX} {t h i e j:Nat} {x:zH} {X:XC} {bk:Bool} {ox:O} {c:Cont} (hh:HRel U B hp nx w) (hB:Old B w) (hr:jav U nx rd a) (ho:o.op=.load t x) (hx:rd x=some (.w (.c (.p h i e j)))) (hf:find hp h=some ox) (hxk:ox.xk=some (bk,X))
  (he:e=X.e) (hag:jbj P t=some false) (hj:j<X.e) (hc:X.cell i j=.r c) (hob:i<X.n) :
  jax P U B nx a w o ⟨i<X.n,.w (.c (.o nx)),(nx,jeU bk c)::hp,nx+1⟩ true:=by
 obtain⟨a2,cap,hv,_,hcells⟩:=jpQ (hh.ok h _ hf).2.2 hxk;obtain⟨b,off,rfl,hx2⟩:=hcells (by omega);obtain⟨u,hu,hux⟩:=hx2 i j hob hj;rw[hc]at hux;refine jak (U':=upd U nx u) (w':=w) ?_ (jcQ hh hB u (jeU bk c) rfl rfl (show V.lt (nx+1) (.w (.c (.o nx)))from zo nx) true (jvn bk c) (jvo (by rw[upd_same];exact hux)) (jx2 bk c _));unfold qr;subst he;have hlv:=jaV (P:=P) w hag hu;simp[ho,(hr _ _ hx).2,C.val,hv,base,yE,qA,hlv,V.val,W.val]
def jkI {o:zX} {t h i e sz:Nat} {x:zH} {X:XC} {bk:Bool} {ox:O} (hh:HRel U B hp nx w) (hB:Old B w) (hr:jav U nx rd a) (ho:o.op=.load t x) (hx:rd x=some (.w (.c (.p h i e 0)))) (hf:find hp h=some ox) (hxk:ox.xk=some (bk,X))
  (he:e=X.e) (hag:jbj P t=some true) (hs:szT P t=some sz) (hsz:sz=X.e) (hob:i<X.n) :
  jax P U B nx a w o ⟨i<X.n,.w (.a (ncs bk ((zG X.e).map fun m=>X.cell i m) nx hp).1),(ncs bk ((zG X.e).map fun m=>X.cell i m) nx hp).2.1,(ncs bk ((zG X.e).map fun m=>X.cell i m) nx hp).2.2⟩ true:=by
 obtain⟨a2,cap,hv,_,hcells⟩:=jpQ (hh.ok h _ hf).2.2 hxk;obtain⟨b,off,rfl,hx2⟩:=hcells (by omega);subst he;subst hsz
 have hex:∃us:List zF,us.length=X.e∧∀j,j<X.e->∃u,us[j]?=some u∧w.cell? ⟨b,off+(i*X.e+j),none⟩=some u∧(X.cell i j).at (B.sel bk) w u:=by
  refine⟨(zG X.e).map fun j=>(w.cell? ⟨b,off+(i*X.e+j),none⟩).getD qe,by simp,fun j hj=>?_⟩;obtain⟨u,hu,hux⟩:=hx2 i j hob hj;exact⟨u,by simp[hj,hu],hu,hux⟩
 obtain⟨us,hul,hus⟩:=hex
 obtain⟨U',hag2,hm,hlt,hle,hh',hb⟩:=jni (w:=w) hB ((zG X.e).map fun m=>X.cell i m) us nx hp U hh (by simp[hul]) (fun j x u hj hu=>by
  have hjl:j<X.e:=by have:=(zB.1 hj).1;simpa using this
  obtain⟨u',hu',_,hat⟩:=hus j hjl;rw[hu]at hu';cases hu';simp[hjl]at hj;subst hj;exact hat)
 refine jak (U':=U') (w':=w) ?_ ⟨hag2,hlt,hle,hh'.gr,Bel.refl _ _,fun _=>qO _ _,fun _ h' o' k hn hf' hk=>absurd hk (hb h' o' k hn hf')⟩;unfold qr
 have hlv:=jby (P:=P) w (a:=⟨b,off+(i*X.e+0),none⟩) (cs:=us) hag (by rw[hul];exact hs) (fun j v hj=>by
  have hjl:j<X.e:=by rw[<-hul];exact(zB.1 hj).1
  obtain⟨u',hu',hcell,_⟩:=hus j hjl;rw[hj]at hu';cases hu';rw[jaL,qU,qU,zP];exact hcell)
 simp only[qY]at hlv;simp[ho,(hr _ _ hx).2,C.val,hv,base,yE,qA,hlv,V.val,W.val,hm]
def jzu {k:zZ} {E:Nat} {l:List (List Nat)} {i j v:Nat} (hi:i<l.length) (hj:j<E):jon (.frs k E l) (.frs k E (l.set i (jja E (l.getD i []) j v))) i j [D.f k v]:=by
 refine⟨by simp[Cont.n],rfl,by simp[Cont.e];omega,fun q m hm=>?_⟩;simp only[Cont.cell,Cont.e]at *;rw[jaT _ _ _ _ _ hi]
 by_cases hq:q=i
 ·subst hq;rw[if_pos rfl,jr8 hj hm]
  by_cases hmj:m=j
  ·subst hmj;simp
  ·rw[if_neg hmj,if_neg (by simp;omega)]
 ·simp[hq]
def jzv {k:zZ} {E:Nat} {l:List (List Nat)} {i:Nat} {v:List Nat} (hi:i<l.length):jon (.frs k E l) (.frs k E (l.set i v)) i 0 (frD k E v):=by
 refine⟨by simp[Cont.n],rfl,by simp[Cont.e],fun q m hm=>?_⟩;simp only[Cont.cell,Cont.e]at *;rw[jaT _ _ _ _ _ hi]
 by_cases hq:q=i
 ·subst hq;rw[if_pos rfl,if_pos (by simp;omega)];simp[frD,za,hm]
 ·simp[hq]
def jsh:∀(l:List D),jbA (l.map C.d)=some l
 |[]=>rfl
 |x::l=>by simp[jbA,dOf,jsh l]
def jsi (l:List D) (h:∀x∈l,x.one=true):((l.map C.d).all fun c=>c.one hp)=true:=by
 rw[zq];intro c hc;obtain⟨x,hx,rfl⟩:=qu.1 hc;exact h x hx
def jvp (k:zZ) (e:Nat) (r:List Nat):∀x∈frD k e r,x.one=true:=by
 intro x hx;obtain⟨_,_,rfl⟩:=qu.1 hx;rfl
def jeY {o:zX} {t h i e j ty E E':Nat} {k:zZ} {r v':List Nat} {x y:zH} {u:W} (hh:HRel U B hp nx w) (hr:jav U nx rd a) (ho:o.op=.store t x y)
  (hx:rd x=some (.w (.c (.p h i e j)))) (hy:rd y=some (.w u)) (hone:u.one hp=true) (hs:szT P t=some u.cells.length) (hall:(u.cells.all fun c=>c.one hp)=true)
  (hf:find hp h=some (.arr ty k E r)) (hE:E'=E) (hle:i*e+j+u.cells.length<=E)
  (hnew:((frD k E r).map D.val).take (i*e+j)++u.cells.map (C.val U)++((frD k E r).map D.val).drop (i*e+j+u.cells.length)=(frD k E' v').map D.val) :
  jax P U B nx a w o ⟨i*e+j+u.cells.length<=E,vu,(h,.arr ty k E' v')::jah hp,nx⟩ false:=by
 have h1:=hr _ _ hx;have h2:=hr _ _ hy;obtain⟨hlt,hol,g,hk,hBg,hheap⟩:=hh.ok h _ hf;have hc:=W.cells_val hh hone;have hvs:(u.val U).cells.size=u.cells.length:=by rw[hc];simp
 have hst:=jbB (P:=P) (t:=t) (g:=g) (off:=i*e+j) (v:=u.val U) (by rw[hvs];exact hs) hheap (by rw[hvs];simpa using hle) (by rw[hc];exact jcv hh hall);refine jbR (U':=U) (w':=w.setRow g ((((frD k E r).map D.val).toArray.toList.take (i*e+j)++(u.val U).cells.toList++((frD k E r).map D.val).toArray.toList.drop (i*e+j+(u.val U).cells.size)).toArray)) ?_ rfl ?_
 ·unfold qr;have h1v:a.eval x=.pointer (some ⟨g,i*e+j,none⟩):=by rw[h1.2];simp[C.val,hk,base]
  have h2v:a.eval y=u.val U:=h2.2;simp only[ho,h1v,h2v,yh,qA,zn,zp,zh,hst]
 ·refine⟨jae.refl _ _,trivial,zu _,HRel.gr ?_,jbX hBg,(fun h=>by cases h),fun h=>by cases h⟩;refine HRel.write hh hf (g:=g) (by simp[O.blk,hk,base]) (fun k _ hne=>yg w g k _ hne) ?_ trivial (by simp[O.blk,hk,base]);refine⟨g,hk,hBg,?_⟩;rw[yT w g _ _ ty (0,0) hheap,<-hnew,hc];simp
def jzw {k:zZ} {E:Nat} {r:List Nat} {m v:Nat} (hm:m<E) :
  ((frD k E r).map D.val).take m++[(D.f k v).val]++((frD k E r).map D.val).drop (m+1)=(frD k E (jja E r m v)).map D.val:=by
 apply xg;intro t
 by_cases ht:t<E
 ·have hL:((frD k E (jja E r m v)).map D.val)[t]?=some (.float k ((jja E r m v).getD t 0)):=by simp[frD,ht,D.val]
  have hR:((frD k E r).map D.val)[t]?=some (.float k (r.getD t 0)):=by simp[frD,ht,D.val]
  rw[hL,jr8 hm ht];have hlen:((frD k E r).map D.val).length=E:=by simp
  by_cases h1:t=m
  ·subst h1;rw[if_pos rfl,qJ,qa (by simp;omega)];simp[D.val,yY (Nat.le_of_lt hm)]
  ·rw[if_neg h1]
   by_cases h2:t<m
   ·rw[qJ,z7 (by simp;omega),z6,if_pos h2,hR]
   ·rw[qa (by simp;omega),xN];have:m+1+(t-(((frD k E r).map D.val).take m++[(D.f k v).val]).length)=t:=by simp;omega
    rw[this,hR]
 ·rw[z9 (by simp;omega),z9 (by simp;omega)]
def jgP {o:zX} {p q:Prop} {v:V} {hp':Hp} {n:Nat} {M:Bool} (h:jax P U B nx a w o ⟨p,v,hp',n⟩ M):jax P U B nx a w o ⟨q,v,hp',n⟩ M:=by
 intro K Q hK;refine h K Q fun U' w' hl=>hK U' w' ⟨hl.agree,hl.lt,hl.le,hl.heap,hl.below,hl.mono,hl.fresh⟩
def jhT {k:zZ}:∀{cs:List C} {r:List Nat},jd1 k cs=some r->cs=r.map fun n=>C.d (.f k n)
 |[],r,h=>by simp only[jd1,zi]at h;subst h;rfl
 |c::l,r,h=>by
  unfold jd1 at h;split at h
  ·rename_i h0;cases h0
  ·rename_i k' n l' h0;cases h0;split at h
   ·rename_i r' hk hr;cases h;have hk:=jbz hk;subst hk;simp[jhT hr]
   ·cases h
  ·cases h
def jkJ {k:zZ} {U:Env} {cs:List C} {r:List Nat} (h:jd1 k cs=some r):cs.map (C.val U)=r.map (yS k ·):=by
 rw[jhT h];simp[xq,C.val,D.val]
def jvq {k:zZ} (r:List Nat):(frD k r.length r).map D.val=r.map (yS k ·):=by
 apply List.ext_getElem
 ·simp
 ·intro i h1 h2;simp at h1 h2;simp[frD,D.val,h1]
def jcC (a b:Int):zF:=.agg #[.int .i64 a,.int .i64 b]
structure MapT (P:zy) (t k e el:qf):Prop where
 ht:P.underlying t=some (.map k e)
 hk:P.underlying k=some (.array 2 el)
 he:P.underlying e=some (.int .i64)
 hz:(P.info? e).bind (·.zero)=some (.int .i64 0)
 hl:P.underlying el=some (.int .i64)
 hs:szT P el=some 1
 ha:jbj P el=some false
def joq {t:qf} (h:jje P t=true):∃k e el,MapT P t k e el:=by
 unfold jje at h;obtain⟨⟨k,e,el⟩,hm⟩:=Option.isSome_iff_exists.1 h;unfold mapT at hm;split at hm
 ·rename_i k' e' ht;split at hm
  ·rename_i el' hk he hz;split at hm
   ·rename_i hl hs ha;exact⟨_,_,_,ht,hk,he,hz,hl,hs,ha⟩
   ·cases hm
  ·cases hm
 ·cases hm
def jen {t k e el:qf} (T:MapT P t k e el) (a b:Int) :
  jbZ P el [.d (.i .i64 a),.d (.i .i64 b)] 0=some (vi .i64 a)∧jbZ P el [.d (.i .i64 a),.d (.i .i64 b)] 1=some (vi .i64 b):=by
 constructor<;>simp[jbZ,T.ha,T.hs,vi]
def jrb {t k e el:qf} (T:MapT P t k e el) (a b c d:Int):(Op.equal k (jcC a b) (jcC c d)).run P w=.ok (a==c&&b==d) w:=by
 have h:eqV P 16 k (.w (.a [.d (.i .i64 a),.d (.i .i64 b)])) (.w (.a [.d (.i .i64 c),.d (.i .i64 d)]))=some (a==c&&b==d):=by
  have r2:zG 2=[0,1]:=rfl
  have h0:∀x y:Int,eqV P (14+1) el (vi .i64 x) (vi .i64 y)=some (x==y):=fun x y=>by
   unfold eqV;simp only[T.hl,vi,if_true]
  show eqV P (15+1) k _ _=_
  unfold eqV;simp only[T.hk,T.hs,r2,jeR,qQ,Nat.one_mul,(jen T a b).1,(jen T a b).2,(jen T c d).1,(jen T c d).2];simp only[h0]
 exact jis (U:=fun _=>qe) (nx:=0) (w:=w) 9984 16 k _ _ _ h (by simp[V.lt,W.lt,C.lt]) (by simp[V.lt,W.lt,C.lt])
def jd3 {t k e el:qf} (T:MapT P t k e el) (em:Bool) (a b:Int):(Instr.checkKey em 10000 k (jcC a b)).run P w=.ok () w:=by
 have p0:=(jcM (U:=fun _=>qe) (nx:=0) (w:=w) (jen T a b).1 (by simp[C.lt])).1;have p1:=(jcM (U:=fun _=>qe) (nx:=0) (w:=w) (jen T a b).2 (by simp[C.lt])).1;simp only[vi,V.val,W.val,C.val,D.val,zM,qR]at p0 p1
 have c0:∀x:Int,(Instr.checkKey em 9999 el (.int .i64 x)).run P w=.ok () w:=fun x=>by
  rw[show(9999:Nat)=9998+1 from rfl,Instr.checkKey];simp[zI T.hl,Result.andThen]
 rw[show(10000:Nat)=9999+1 from rfl,Instr.checkKey];simp only[jcC,zn,zI T.hk,zh];simp only[je,gS];have hl:List.range' 0 ((2-0+1-1)/1) 1=[0,1]:=rfl;rw[hl];simp[List.forIn_cons,zn,jaD w T.hs,zh,p0,p1,c0]
def jix {t k e el:qf} (T:MapT P t k e el) (a b:Int):∀(ents:List MapEntry) (es:List ((Int × Int) × Int)) (i:Nat),ents.map (fun e=>(e.key,e.val))=es.map jpB ->
  ∃r,(Instr.findAsking k (jcC a b) ents i).run P w=.ok r w ∧
   (
    (r=none∧jcY es a b=none∧∀v,jdl es a b v=es++[((a,b),v)]) ∨
    ∃j v,r=some (i+j,.int .i64 v)∧jcY es a b=some v∧j<ents.length∧(ents[j]?).map (·.key)=some (jcC a b)∧∀v,jdl es a b v=es.set j ((a,b),v))
 |[],es,i,h=>by
  have:es=[]:=List.map_eq_nil_iff.1 h.symm;subst this;exact⟨none,by simp[Instr.findAsking],.inl ⟨rfl,rfl,fun _=>rfl⟩⟩
 |x::ents,[],i,h=>by simp at h
 |x::ents,y::es,i,h=>by
  simp only[zM,jw,jpB,qg]at h;obtain⟨⟨hk,hv⟩,hr⟩:=h;have he:x.key=jcC y.1.1 y.1.2:=hk;unfold Instr.findAsking;simp only[zn,he,jrb T,zh]
  by_cases hc:(a==y.1.1&&b==y.1.2)=true
  ·have hc2:(y.1.1==a&&y.1.2==b)=true:=by
    simp only[zk,beq_iff_eq]at hc ⊢;exact⟨hc.1.symm,hc.2.symm⟩
   have ha:y.1.1=a:=by simp only[zk,beq_iff_eq]at hc2;exact hc2.1
   have hb:y.1.2=b:=by simp only[zk,beq_iff_eq]at hc2;exact hc2.2
   rw[if_pos hc];refine⟨_,rfl,.inr ⟨0,y.2,by rw[hv];rfl,by simp only[jcY,hc2],by simp,by simp[he,ha,hb],fun v=>by simp only[jdl,hc2,List.set_cons_zero]⟩⟩
  ·have hc2:(y.1.1==a&&y.1.2==b)=false:=by
    rw[Bool.eq_false_iff];intro h;simp only[zk,beq_iff_eq]at hc h;exact hc ⟨h.1.symm,h.2.symm⟩
   rw[if_neg hc];obtain⟨r,h1,h2⟩:=jix T a b ents es (i+1) hr;refine⟨r,h1,?_⟩;rcases h2 with ⟨rfl,h3,h4⟩|⟨j,v,rfl,h3,h4,h5,h6⟩
   ·exact .inl ⟨rfl,by simp only[jcY,hc2,h3],fun v=>by simp only[jdl,hc2,h4,List.cons_append]⟩
   ·exact .inr ⟨j+1,v,by simp only[qU,Nat.add_comm 1 j],by simp only[jcY,hc2,h3],by simp;omega,by simpa using h5,fun v=>by simp only[jdl,hc2,h6,List.set_cons_succ]⟩
def jmI {t k e el:qf} (T:MapT P t k e el) (a b:Int) (ents:List MapEntry) (es:List ((Int × Int) × Int)) (h:ents.map (fun e=>(e.key,e.val))=es.map jpB) :
  ∃r,(Instr.findKey k (jcC a b) ents).run P w=.ok r w ∧
   (
    (r=none∧jcY es a b=none∧∀v,jdl es a b v=es++[((a,b),v)]) ∨
    ∃j v,r=some (j,.int .i64 v)∧jcY es a b=some v∧j<ents.length∧(ents[j]?).map (·.key)=some (jcC a b)∧∀v,jdl es a b v=es.set j ((a,b),v)):=by
 unfold Instr.findKey;simp only[zn,zI T.hk,zh];cases ents with
 |nil =>
  have:es=[]:=List.map_eq_nil_iff.1 h.symm;subst this;exact⟨none,by simp[Instr.findNow],.inl ⟨rfl,rfl,fun _=>rfl⟩⟩
 |cons x l =>
  have hn:Instr.findNow (.array 2 el) (jcC a b) (x::l) 0=none:=rfl;rw[hn];obtain⟨r,h1,h2⟩:=jix (w:=w) T a b (x::l) es 0 h;refine⟨r,h1,?_⟩;simpa using h2
def jrc {o:zX} {t:qf} (hh:HRel U B hp nx w) (hB:Old B w) (ho:o.op=.makeMap t none) :
  jax P U B nx a w o ⟨True,.w (.c (.o nx)),(nx,.map [])::hp,nx+1⟩ true:=by
 have hbel:xA w.heap.size w (w.alloc (.map #[] 0)):=(qO _ w).alloc (zu _) _;refine jak (U':=upd U nx (.map (some w.heap.size))) (w':=w.alloc (.map #[] 0)) ?_ ⟨jal _ _ _,zo nx,qt nx,HRel.gr ?_,jbV hbel hB,fun _=>hbel,fun _ h o k hnh hf hk=>?_⟩
 ·unfold qr;simp only[ho,xm,Instr.makeMap,zn,ji,zh,zp];simp[V.val,W.val,C.val]
 ·refine hh.add hbel hB (jal _ _ _) trivial ⟨w.heap.size,#[],0,upd_same _ _ _,fun h=>absurd (hB _ h) (j4 _),by rw[yx],rfl⟩ ?_;simp[O.blk,jfI]
 ·simp only[find]at hf;split at hf
  ·rename_i e;subst e;cases hf;simp only[O.blk,upd_same,jfI,zi]at hk;omega
  ·have:=(hh.ok h o hf).1;omega
def jsj {o:zX} {t h:Nat} {x i:zH} {p q:Int} {es:List ((Int × Int) × Int)} (hh:HRel U B hp nx w) (hr:jav U nx rd a) (ho:o.op=.lookup t x i true) (ht:jje P t=true)
  (hx:rd x=some (.w (.c (.o h)))) (hi:rd i=some (.w (.a [.d (.i .i64 p),.d (.i .i64 q)]))) (hf:find hp h=some (.map es)) :
  jax P U B nx a w o ⟨True,.t [.c (.d (.i .i64 ((jcY es p q).getD 0))),.c (.d (.b (jcY es p q).isSome))],hp,nx⟩ true:=by
 obtain⟨k,e,el,T⟩:=joq ht;obtain⟨hlt,_,b,ents,clock,h1,h2,h3,h4⟩:=hh.ok h _ hf;have hxv:a.eval x=.map (some b):=by rw[(hr _ _ hx).2];exact h1
 have hiv:a.eval i=jcC p q:=(hr _ _ hi).2;obtain⟨r,hr1,hr2⟩:=jmI (w:=w) T p q ents.toList es h4
 have hz:(ym e).run P w=.ok (.int .i64 0) w:=by
  cases hi:P.info? e with
  |none =>
   have:=T.hz;simp[hi]at this
  |some inf =>
   have:=T.hz;simp only[hi,zw]at this;simp[ym,yP,hi,this]
 refine jak (U':=U) (w':=w) ?_ ⟨jae.refl _ _,?_,zu _,hh.gr,Bel.refl _ _,fun _=>qO _ _,fun _ h o k hnh hf hk=>?_⟩
 ·unfold qr;simp only[ho,hxv,hiv,Instr.lookup,zn,zI T.ht,zh,MapKept.run_getObj_map h3,jd3 T,hr1,zp];rcases hr2 with ⟨rfl,h5,_⟩|⟨j,v,rfl,h5,_⟩
  ·simp only[zn,hz,zh,zp,h5];simp[V.val,W.val,C.val,D.val]
  ·simp only[zn,zh,zp,h5];simp[V.val,W.val,C.val,D.val]
 ·intro u hu;simp only[qv,List.not_mem_nil,or_false]at hu;rcases hu with rfl|rfl<;>trivial
 ·have:=(hh.ok h o hf).1;omega
def jor {o:zX} {t h:Nat} {x i y:zH} {p q v:Int} {es:List ((Int × Int) × Int)} (hh:HRel U B hp nx w) (hr:jav U nx rd a) (ho:o.op=.mapUpdate t x i y) (ht:jje P t=true)
  (hx:rd x=some (.w (.c (.o h)))) (hi:rd i=some (.w (.a [.d (.i .i64 p),.d (.i .i64 q)]))) (hy:rd y=some (.w (.c (.d (.i .i64 v))))) (hf:find hp h=some (.map es)) :
  jax P U B nx a w o ⟨True,vu,(h,.map (jdl es p q v))::jah hp,nx⟩ false:=by
 obtain⟨k,e,el,T⟩:=joq ht;obtain⟨hlt,_,b,ents,clock,h1,h2,h3,h4⟩:=hh.ok h _ hf;have hxv:a.eval x=.map (some b):=by rw[(hr _ _ hx).2];exact h1
 have hiv:a.eval i=jcC p q:=(hr _ _ hi).2;have hyv:a.eval y=.int .i64 v:=(hr _ _ hy).2;have hb:=(zA.1 h3).1;obtain⟨r,hr1,hr2⟩:=jmI (w:=w) T p q ents.toList es h4;have hlen:ents.size=es.length:=by simpa using congrArg List.length h4
 have key:∃ents' clock',(Instr.mapUpdate t (.map (some b)) (jcC p q) (.int .i64 v)).run P w=.ok () { w with heap:=w.heap.setIfInBounds b (.map ents' clock') }∧ents'.toList.map (fun e=>(e.key,e.val))=(jdl es p q v).map jpB:=by
  rcases hr2 with ⟨rfl,h5,h6⟩|⟨j,v0,rfl,h5,h6,h7,h8⟩
  ·refine⟨ents.push ⟨jcC p q,.int .i64 v,clock⟩,clock+1,?_,?_⟩
   ·simp only[Instr.mapUpdate,zn,zI T.ht,zh,MapKept.run_getObj_map h3,jd3 T,hr1,MapKept.run_setObj_map _ h3]
   ·rw[h6,Array.toList_push,xb,h4,xb];rfl
  ·refine⟨ents.modify j fun e=>{ e with key:=jcC p q,val:=.int .i64 v },clock,?_,?_⟩
   ·have hj:ents[j]?.map (·.key)=some (jcC p q):=by simpa using h7
    have hst:(Instr.keyThatStays (jcC p q) (jcC p q)).run P w=.ok (jcC p q) w:=by
     simp[Instr.keyThatStays,Instr.sameBits,jcC]
    simp only[Instr.mapUpdate,zn,zI T.ht,zh,MapKept.run_getObj_map h3,jd3 T,hr1,hj,zU,hst,MapKept.run_setObj_map _ h3]
   ·rw[h8];apply xg;intro m;have h4m:=congrArg (·[m]?) h4;simp only[zK,yz]at h4m;simp only[zK,yz,Array.getElem?_modify,xh]
    by_cases hm:j=m
    ·subst hm;have hj2:j<es.length:=by rw[<-hlen];simpa using h6
     have hj3:j<ents.size:=by simpa using h6
     simp[hj2,hj3,jpB,jcC]
    ·rw[if_neg hm]
     by_cases hme:m=j
     ·exact absurd hme.symm hm
     ·simpa [hm]using h4m
 obtain⟨ents',clock',hrun,hents⟩:=key;refine jbR (U':=U) (w':={ w with heap:=w.heap.setIfInBounds b (.map ents' clock') }) ?_ rfl ⟨jae.refl _ _,trivial,zu _,HRel.gr ?_,?_,(fun h=>by cases h),fun h=>by cases h⟩
 ·unfold qr;simp only[ho,hxv,hiv,hyv,zn,hrun,zh,zp]
 ·refine HRel.write hh hf (g:=b) (by simp[O.blk,h1,jfI]) (fun k _ hne=>by simp[yp,yG hne]) ⟨b,ents',clock',h1,h2,by simp[hb],hents⟩ trivial (by simp[O.blk,h1,jfI])
 ·exact⟨rfl,rfl,rfl,by simp,fun k hk=>by
   have hne:b≠k:=fun e=>h2 (.inl (e ▸ hk));simp[yp,hne]⟩
def jul {o:zX} {r:Res} (hh:HRel U B hp nx w) (hB:Old B w) (hr:jav U nx rd a) (h:jdS P o.op rd hp nx=some r) (hob:r.ob) :
  jax P U B nx a w o r (jam sp o.op rd):=by
 unfold jdS at h;split at h
 ·rename_i elem x hop;split at h
  ·rename_i k e r' hx;cases h;simp only[hop,jam];exact jsc hh hB hr hop hx
  ·cases h
 ·rename_i elem hop;split at h
  ·rename_i k r' hz;cases h;simp only[hop,jam];exact jpN hh hB hop hz
  ·cases h
 ·rename_i t n parts hop;split at h
  ·rename_i elem x hu hp1;split at h
   ·rename_i k e r' sz z hx hs hz;split at h
    ·rename_i h1 h2 h3 h4;have h1:=zb h1;have h2:=zb h2;have h3:=zb h3;have h4:=zj h4;subst h1;subst h2;cases h;simp only[hop,jam];exact jb5 (jpO hh hB hr hop hp1 hu hx hs hz h3 h4)
    ·cases h
   ·cases h
  ·cases h
 ·rename_i t x lo hi hop;split at h
  ·rename_i n elem k l m hu hx hl hm;split at h
   ·rename_i ty kf E r' hf hs;split at h
    ·rename_i h1 h2;cases h;simp only[hop,jam];exact jb5 (joo hh hB hr hop hu hx hl hm hf hs (zb h1) (zj h2) hob)
    ·cases h
   ·cases h
  ·rename_i elem k l m hu hx hl hm;split at h
   ·rename_i X sz hf hs;split at h
    ·rename_i h1 h2;cases h;simp only[hop,jam];exact jb5 (jsd hh hB hr hop hu hx hl hm hf hs (zb h1) hob)
    ·cases h
   ·cases h
  ·cases h
 ·rename_i t x lo hi mx hop;split at h
  ·rename_i elem k l km m kq q hu hx hl hm hq;split at h
   ·rename_i ob e hf hs;split at h
    ·rename_i c hc;split at h
     ·rename_i hce;cases h;exact jb5 (jpP hh hB hr hop hu hx hl hm hq hf hs hc hce hob)
     ·cases h
    ·cases h
   ·cases h
  ·cases h
 ·rename_i t x hop;split at h
  ·rename_i k i e j hx;split at h
   ·rename_i bk X hfx;obtain⟨ox,hf,hxk⟩:=zD.1 hfx;split at h
    ·rename_i he hag;split at h
     ·rename_i c hj hc;cases h;simp only[hop,jam];exact jsg hh hB hr hop hx hf hxk (zb he) hag (zC (zo j) (zj hj)) hc hob
     ·cases h
    ·rename_i he hag;split at h
     ·rename_i sz hj hs;split at h
      ·rename_i hsz;have hj:=zb hj;subst hj;cases h;simp only[hop,jam];exact jkI hh hB hr hop hx hf hxk (zb he) hag hs (zb hsz) hob
      ·cases h
     ·cases h
    ·cases h
   ·cases h
  ·cases h
 ·rename_i t x y hop;split at h
  ·rename_i k i e j kf v hx hy;split at h
   ·rename_i ty k' E r' hag hs hf;split at h
    ·rename_i hk;have hk:=jbz hk;subst hk;cases h;simp only[hop,jam];have hob:i*e+j<E:=hob;exact jgP (jeY (E':=E) hh hr hop hx hy rfl (by simpa [W.cells]using hs) rfl hf rfl (by simp[W.cells];omega) (jzw hob))
    ·cases h
   ·rename_i ty k' E l hag hs hf;split at h
    ·rename_i hk he;have hk:=jbz hk;subst hk;have he:=zb he;subst he;cases h;simp only[hop,jam];have hob:i<l.length∧j<E+1:=hob;exact jgP (jeW hh hr hop hx hy rfl (by simpa [W.cells]using hs) rfl hf rfl (jzu hob.1 hob.2) rfl (yH E) hob.1)
    ·cases h
   ·cases h
  ·rename_i k i e kf E' v hx hy;split at h
   ·rename_i sz ty k' E r' hag hs hf;split at h
    ·rename_i h1 h2 h3 h4;have hk:=jbz h1;subst hk;have h2:=zb h2;have h3:=zb h3;have h4:=zb h4;subst h2;subst h3;subst h4;cases h;simp only[hop,jam];exact jgP (jeY (E':=E') hh hr hop hx hy rfl (by simpa [W.cells]using hs) (jsi _ (jvp kf E' v)) hf rfl (by simp[W.cells]) (by simp[W.cells,xq,C.val,yV]))
    ·cases h
   ·rename_i sz ty k' E l hag hs hf;split at h
    ·rename_i h1 h2 h3 h4;have hk:=jbz h1;subst hk;have h2:=zb h2;have h3:=zb h3;have h4:=zb h4;subst h2;subst h3;subst h4;cases h;simp only[hop,jam];have hob:i<l.length:=hob;exact jgP (jeW hh hr hop hx hy rfl (by simpa [W.cells]using hs) (jsi _ (jvp kf _ v)) hf (jsh _) (jzv hob) rfl (yH E) hob)
    ·cases h
   ·cases h
  ·rename_i k i e cs hx hy;split at h
   ·rename_i sz ty kf E r' hag hs hf;split at h
    ·rename_i v hv;split at h
     ·rename_i h2 h3 h4;have h2:=zb h2;have h3:=zb h3;have h4:=zb h4;subst h2;subst h4;cases h;simp only[hop,jam];have hcs:=jhT hv;have hlen:cs.length=sz:=by rw[hcs];simpa using h3
      have hall:((W.a cs).cells.all fun c=>c.one hp)=true:=by
       rw[zq];intro c hc;simp only[W.cells,hcs,qu]at hc;obtain⟨_,_,rfl⟩:=hc;rfl
      refine jgP (jeY (E':=sz) (v':=v) hh hr hop hx hy rfl (by simpa [W.cells,hlen]using hs) hall hf rfl (by simp[W.cells,hlen]) ?_);have hfr:=jvq (k:=kf) v;rw[h3]at hfr;simp only[W.cells,qQ,qY,List.take_zero,qM,zP,hlen];rw[hfr,jkJ hv,yV (by simp),List.append_nil]
     ·cases h
    ·cases h
   ·cases h
  ·cases h
 ·rename_i t hop;split at h
  ·cases h;simp only[hop,jam];exact jrc hh hB hop
  ·cases h
 ·rename_i t x i hop;split at h
  ·rename_i k p q ht hx hi;split at h
   ·rename_i es hf;cases h;simp only[hop,jam];exact jsj hh hr hop ht hx hi hf
   ·cases h
  ·cases h
 ·rename_i t x i y hop;split at h
  ·rename_i k p q v ht hx hi hy;split at h
   ·rename_i es hf;cases h;simp only[hop,jam];exact jor hh hr hop ht hx hi hy hf
   ·cases h
  ·cases h
 ·cases h
end
end Go.Sx
end

section
open Go.RowKit
namespace Go.Sx
def jjf {k k':zZ} (h:jbN k k'=true):k=k':=by cases k<;>cases k' <;> first|rfl|cases h
def jfN {k:NK} {x:NC} (h:jbw k x=true):k.norm x=x:=by
 unfold jbw at h;split at h
 ·have:=of_decide_eq_true h;subst this;rfl
 ·rfl
 ·have:=jjf h;subst this;rfl
 ·rfl
 ·have:=of_decide_eq_true h;subst this;rfl
 ·have:=zb h;subst this;rfl
 ·have:=jjf h;subst this;rfl
 ·rfl
 ·rfl
 ·split at h
  ·rename_i hk;have:=jjf hk;subst this;have:=zb h;subst this;rfl
  ·cases h
 ·cases h
def XC.sh_len (X:XC):X.sh.length=X.e:=by cases X<;>rfl
def jcx (sh:List NK) (r:List NC):Prop:=r.length=sh.length∧∀(j:Nat) (k:NK) (x:NC),sh[j]?=some k->r[j]?=some x->jbw k x=true
def jvr {k:IntKind} {x:NC} (h:jbw (.ints k) x=true):x=.r (.ints k x.toInts):=(jfN h).symm
def jvs {k:zZ} {x:NC} (h:jbw (.flts k) x=true):x=.r (.floats k x.toFlts):=(jfN h).symm
def jx3 {k:zZ} {e:Nat} {x:NC} (h:jbw (.frs k e) x=true):x=.r (.frs k e x.toFrs):=(jfN h).symm
def jvt {e:Nat} {x:NC} (h:jbw (.recs e) x=true):x=.r (.recs e x.toRecs):=(jfN h).symm
def jcN {k:NK} {r:List NC} (h:jcx [k] r):∃x,r=[x]∧jbw k x=true:=by
 obtain⟨h1,h2⟩:=h
 match r,h1 with
 |[x],_=>exact⟨x,rfl,h2 0 k x rfl rfl⟩
def jvu {sh:List NK} {r:List NC} (h:jcx sh r) {j:Nat} (hj:j<sh.length):(sh.getD j .b).norm (r.getD j (.d (.v qe)))=r.getD j (.d (.v qe)):=by
 obtain⟨h1,h2⟩:=h;have hj':j<r.length:=by omega
 have:=h2 j sh[j] r[j] (by simp[hj]) (by simp[hj']);simp only[qB,zJ hj,zJ hj',zU];exact jfN this
def XC.cell_put (X:XC) {i:Nat} {r:List NC} (h:jcx X.sh r) (hi:i<X.n) :
  (X.put i r).n=X.n∧(X.put i r).e=X.e∧(X.put i r).sh=X.sh∧∀i' j,j<X.e->(X.put i r).cell i' j=if i'=i then r.getD j (.d (.v qe))else X.cell i' j:=by
 cases X with
 |st sh l =>
  refine⟨by simp[XC.put,XC.n],rfl,rfl,fun i' j hj=>?_⟩;simp only[XC.put,XC.cell]
  by_cases e:i'=i
  ·subst e;rw[if_pos rfl,show(l.set i' r).getD i' []=r by simp[za,show i'<l.length from hi]];exact jvu h hj
  ·rw[if_neg e,show(l.set i r).getD i' []=l.getD i' [] by simp[za,xh,yG e]]
 |ii k l =>
  obtain⟨x,rfl,hx⟩:=jcN h;refine⟨by simp[XC.put,XC.n],rfl,rfl,fun i' j hj=>?_⟩;obtain rfl:j=0:=by simp only[XC.e]at hj;omega
  simp only[XC.put,XC.cell]
  by_cases e:i'=i
  ·subst e;rw[if_pos rfl];simp only[x5,za,xh,show i'<l.length from hi,if_true,zU,qF];exact(jvr hx).symm
  ·rw[if_neg e];simp[za,xh,yG e]
 |ff k l =>
  obtain⟨x,rfl,hx⟩:=jcN h;refine⟨by simp[XC.put,XC.n],rfl,rfl,fun i' j hj=>?_⟩;obtain rfl:j=0:=by simp only[XC.e]at hj;omega
  simp only[XC.put,XC.cell]
  by_cases e:i'=i
  ·subst e;rw[if_pos rfl];simp only[x5,za,xh,show i'<l.length from hi,if_true,zU,qF];exact(jvs hx).symm
  ·rw[if_neg e];simp[za,xh,yG e]
 |bb k e0 l =>
  obtain⟨x,rfl,hx⟩:=jcN h;refine⟨by simp[XC.put,XC.n],rfl,rfl,fun i' j hj=>?_⟩;obtain rfl:j=0:=by simp only[XC.e]at hj;omega
  simp only[XC.put,XC.cell]
  by_cases e:i'=i
  ·subst e;rw[if_pos rfl];simp only[x5,za,xh,show i'<l.length from hi,if_true,zU,qF];exact(jx3 hx).symm
  ·rw[if_neg e];simp[za,xh,yG e]
 |rr e0 l =>
  obtain⟨x,rfl,hx⟩:=jcN h;refine⟨by simp[XC.put,XC.n],rfl,rfl,fun i' j hj=>?_⟩;obtain rfl:j=0:=by simp only[XC.e]at hj;omega
  simp only[XC.put,XC.cell]
  by_cases e:i'=i
  ·subst e;rw[if_pos rfl];simp only[x5,za,xh,show i'<l.length from hi,if_true,zU,qF];exact(jvt hx).symm
  ·rw[if_neg e];simp[za,xh,yG e]
def XC.cell_mk (X:XC) {rs:List (List NC)} (h:∀r∈rs,jcx X.sh r) :
  (X.mk rs).n=rs.length∧(X.mk rs).e=X.e∧∀i j,i<rs.length->j<X.e->(X.mk rs).cell i j=(rs.getD i []).getD j (.d (.v qe)):=by
 have hrow:∀i,i<rs.length->jcx X.sh (rs.getD i []):=fun i hi=>by
  have:rs.getD i []=rs[i]:=by simp[za,hi]
  rw[this];exact h _ (xC hi)
 cases X with
 |st sh l=>exact⟨rfl,rfl,fun i j hi hj=>jvu (hrow i hi) hj⟩
 |ii k l =>
  refine⟨by simp[XC.mk,XC.n],rfl,fun i j hi hj=>?_⟩;obtain rfl:j=0:=by simp only[XC.e]at hj;omega
  obtain⟨x,hx1,hx⟩:=jcN (hrow i hi);have h2:rs[i]?=some [x]:=by rw[<-hx1];simp[za,hi]
  simp only[XC.mk,XC.cell,za,zK,h2,zQ,zU,x5,qF];exact(jvr hx).symm
 |ff k l =>
  refine⟨by simp[XC.mk,XC.n],rfl,fun i j hi hj=>?_⟩;obtain rfl:j=0:=by simp only[XC.e]at hj;omega
  obtain⟨x,hx1,hx⟩:=jcN (hrow i hi);have h2:rs[i]?=some [x]:=by rw[<-hx1];simp[za,hi]
  simp only[XC.mk,XC.cell,za,zK,h2,zQ,zU,x5,qF];exact(jvs hx).symm
 |bb k e l =>
  refine⟨by simp[XC.mk,XC.n],rfl,fun i j hi hj=>?_⟩;obtain rfl:j=0:=by simp only[XC.e]at hj;omega
  obtain⟨x,hx1,hx⟩:=jcN (hrow i hi);have h2:rs[i]?=some [x]:=by rw[<-hx1];simp[za,hi]
  simp only[XC.mk,XC.cell,za,zK,h2,zQ,zU,x5,qF];exact(jx3 hx).symm
 |rr e l =>
  refine⟨by simp[XC.mk,XC.n],rfl,fun i j hi hj=>?_⟩;obtain rfl:j=0:=by simp only[XC.e]at hj;omega
  obtain⟨x,hx1,hx⟩:=jcN (hrow i hi);have h2:rs[i]?=some [x]:=by rw[<-hx1];simp[za,hi]
  simp only[XC.mk,XC.cell,za,zK,h2,zQ,zU,x5,qF];exact(jvt hx).symm
def XC.rep_mk (X:XC) (n:Nat) (r:List NC):X.rep n r=X.mk (zr n r):=by
 cases X<;>simp[XC.rep,XC.mk]
def jgQ {α β:Type} (f:List α->β) (l l':List (List α)) (i:Nat):f ((l++l').getD i [])=if i<l.length then f (l.getD i [])else f (l'.getD (i-l.length) []):=by
 by_cases hi:i<l.length
 ·rw[if_pos hi];simp[za,z7 hi]
 ·rw[if_neg hi];simp[za,qa (Nat.le_of_not_lt hi)]
def XC.app_spec {X Y Z:XC} (h:X.app Y=some Z):Z.n=X.n+Y.n∧Z.e=X.e∧Y.e=X.e∧Z.sh=X.sh∧∀i j,Z.cell i j=if i<X.n then X.cell i j else Y.cell (i-X.n) j:=by
 unfold XC.app at h;split at h<;>try (cases h;done)
 all_goals
  split at h
  ·rename_i e
   first|subst e|(obtain⟨rfl,rfl⟩:=e)
   cases h;refine⟨by simp[XC.n],rfl,rfl,rfl,fun i j=>?_⟩;simp only[XC.cell,XC.n]
   first
    |exact jgQ (fun r=>(NK.norm _ (r.getD j _))) _ _ _
    |exact jgQ (fun r=>NC.r (.ints _ r)) _ _ _
    |exact jgQ (fun r=>NC.r (.floats _ r)) _ _ _
    |exact jgQ (fun r=>NC.r (.frs _ _ r)) _ _ _
    |exact jgQ (fun r=>NC.r (.recs _ r)) _ _ _
  ·cases h
section
variable [Globs] {P:zy} {U:Env} {B:Kd} {nx:Nat} {hp:Hp} {w:zx} {rd:zH->Option V} {a:Act} {sp:jaa}
def jsk {X:XC} {i j:Nat} {Q:Bd} {u:zF} (h:(X.cell i j).at Q w u):u.oneCell'=true:=by
 have key:∀x:NC,(match x with | .d d=>d.one=true | .r _=>True)->x.at Q w u->u.oneCell'=true:=by
  intro x hx h;cases x with
  |d d=>rw[show u=d.val from h];exact D.one_val hx
  |r c=>obtain⟨⟨a,cap,rfl,_⟩,_⟩:=h;exact jxS
 refine key _ ?_ h;cases X with
 |st sh l=>simp only[XC.cell];cases sh.getD j .b<;>simp only[NK.norm]<;>trivial
 |_=>trivial
def jkK:O->Bool
 | .row _ _=>true
 | .rrow _=>true
 |_=>false
def jBy {h:Nat} {o:O} {c:Cont} (hh:HRel U B hp nx w) (hf:find hp h=some o) (hc:o.cont=some c) (ho:jkK o=true∨∃c',o=.fext c'):∃B',Grow B B' false w w∧HRel U B' ((h,.fext c)::hp) nx w:=by
 have hok:=hh.ok h o hf
 let B':Kd:=⟨fun k=>B.kp k∨o.blk (U h)=some k,fun k=>B.fr k∨o.blk (U h)=some k,B.mu,fun k hk=>hk.imp (B.sub k) id,fun k hk=>hk.elim (B.dis k) fun e=>Classical.byContradiction fun hc=>(O.blk_lt hok.2.2 e).2 (.inr hc)⟩
 have hle:B.Le B':=⟨fun k hk=>.inl hk,fun k hk=>.inl hk⟩
 have hlm:B.LeM B':=fun _ _ h=>h;refine⟨B',⟨hle,fun k hk=>hk.elim (fun h=>h.elim (fun h=>.inl (.inl h)) fun e=>.inr (O.blk_lt hok.2.2 e).1) fun h=>.inl (.inr h),fun k hk=>hk.imp id fun e hc=>(O.blk_lt hok.2.2 e).2 (.inl hc),fun h=>by cases h⟩,?_,?_,hh.glob.sub hle.kp⟩
 ·intro k o1 hk;simp only[find]at hk;split at hk
  ·rename_i e;subst e;cases hk;refine⟨hok.1,trivial,jaX hok.2.2 hc,fun a n cap hv hn=>?_⟩;cases o with
   |row ty c'=>exact .inr (by simp[O.blk,hv,zL])
   |rrow c'=>exact .inr (by simp[O.blk,hv,zL])
   |fext c'=>exact .inl (hok.2.2.2 a n cap hv hn)
   |_=>rcases ho with ho|⟨_,ho⟩<;>cases ho
  ·rename_i hne;have h1:=hh.ok k o1 hk;refine⟨h1.1,h1.2.1,O.ok_moreB hle hlm h1.2.2 fun b hb hB=>?_⟩;rcases hB with (hB|hB)|hB
   ·exact(O.blk_lt h1.2.2 hb).2 (.inl hB)
   ·exact hh.apart h o k o1 b hf hk hne hB hb
   ·exact(O.blk_lt h1.2.2 hb).2 (.inr hB)
 ·intro k o1 k' o1' b hk hk' hne hb hb';simp only[find]at hk hk';split at hk
  ·cases hk;cases hb
  ·split at hk'
   ·cases hk';cases hb'
   ·exact hh.apart k o1 k' o1' b hk hk' hne hb hb'
def jnj (hh:HRel U B hp nx w):∀hs:List Nat,(∀h∈hs,∃o c,find hp h=some o∧o.cont=some c∧jkK o=true) ->
  ∃B',Grow B B' false w w∧HRel U B' (frz hp hs) nx w∧(∀h∈hs,∀o c,find hp h=some o->o.cont=some c->find (frz hp hs) h=some (.fext c))∧∀h,h∉hs->find (frz hp hs) h=find hp h
 |[],_=>⟨B,Grow.refl _ _ _ _,hh,(fun _ h=>by cases h),fun _ _=>rfl⟩
 |h::r,hr=>by
  obtain⟨B1,g1,h1,h2,h3⟩:=jnj hh r fun x hx=>hr x (zR _ hx);obtain⟨o,c,hf,hc,ho⟩:=hr h zV
  have key:∃o1,find (frz hp r) h=some o1∧o1.cont=some c∧(jkK o1=true∨∃c',o1=.fext c'):=by
   by_cases hm:h∈r
   ·exact⟨_,h2 h hm o c hf hc,rfl,.inr ⟨c,rfl⟩⟩
   ·exact⟨o,(h3 h hm).trans hf,hc,.inl ho⟩
  obtain⟨o1,k1,k2,k3⟩:=key;obtain⟨B2,g2,h4⟩:=jBy h1 k1 k2 k3
  have e:frz hp (h::r)=(h,.fext c)::frz hp r:=by
   show(match(find (frz hp r) h).bind O.cont with|some c=>(h,O.fext c)::frz hp r|none=>frz hp r)=_
   rw[k1];simp only[zw,k2]
  refine⟨B2,g1.trans g2 (zu _) (zu _),by rw[e];exact h4,fun x hx o' c' hf' hc'=>?_,fun x hx=>?_⟩
  ·rw[e];simp only[find];split
   ·rename_i e1;subst e1;rw[hf]at hf';cases hf';rw[hc]at hc';cases hc';rfl
   ·rename_i hne;rcases qv.1 hx with rfl|hx
    ·exact absurd rfl hne
    ·exact h2 x hx o' c' hf' hc'
  ·rw[e];simp only[find];rw[if_neg (fun e=>hx (by rw[e];exact zV))];exact h3 x fun hm=>hx (zR _ hm)
def jjg {k:NK} {x:NC} (h:jl9 k=some x):jbw k x=true∧∀(Q:Bd) (w:zx),x.at Q w (.slice none 0 0):=by
 have key:∀(c:Cont),c.n=0->∀(Q:Bd) (w:zx),(NC.r c).at Q w (.slice none 0 0):=fun c hc Q w =>
  ⟨⟨none,0,by rw[hc],⟨by omega,fun _=>rfl⟩,fun h=>by omega⟩,fun a n cap hv _=>by cases hv⟩
 unfold jl9 at h;split at h<;>cases h
 ·exact⟨by simp[jbw],key _ rfl⟩
 ·exact⟨by simp[jbw],key _ rfl⟩
 ·rename_i k;exact⟨by cases k<;>rfl,key _ rfl⟩
 ·exact⟨rfl,key _ rfl⟩
 ·exact⟨rfl,key _ rfl⟩
 ·rename_i k e;exact⟨by cases k<;>simp[jbw,jbN],key _ rfl⟩
def jmJ (hh:HRel U B hp nx w) {k:NK} {c:C} {x:NC} {g:Option Nat} (h:jiv hp k c=some (x,g)):jbw k x=true∧(∀h,g=some h->∃o c',find hp h=some o∧o.cont=some c'∧jkK o=true) ∧
  ∀B' hp',HRel U B' hp' nx w->(∀k,B.fr k->B'.fr k)->(∀h,g=some h->∀o c',find hp h=some o->o.cont=some c'->find hp' h=some (.fext c'))->x.at B'.fr w (c.val U):=by
 unfold jiv at h;split at h
 ·split at h
  ·rename_i y hy;cases h;have:=jjg hy;exact⟨this.1,(fun _ h=>by cases h),fun B' hp' _ _ _=>this.2 _ _⟩
  ·cases h
 ·split at h
  ·rename_i hk;cases h;exact⟨hk,(fun _ h=>by cases h),fun B' hp' _ _ _=>rfl⟩
  ·cases h
 ·rename_i h0;split at h
  ·rename_i ty c0 hf;split at h
   ·rename_i hk;cases h;refine⟨hk,fun h e=>?_,fun B' hp' hh' _ hfr=>?_⟩
    ·cases e;exact⟨_,_,hf,rfl,rfl⟩
    ·exact(hh'.ok _ _ (hfr h0 rfl _ _ hf rfl)).2.2
   ·cases h
  ·rename_i c0 hf;split at h
   ·rename_i hk;cases h;refine⟨hk,fun h e=>?_,fun B' hp' hh' _ hfr=>?_⟩
    ·cases e;exact⟨_,_,hf,rfl,rfl⟩
    ·exact(hh'.ok _ _ (hfr h0 rfl _ _ hf rfl)).2.2
   ·cases h
  ·rename_i c0 hf;split at h
   ·rename_i hk;cases h;refine⟨hk,(fun _ h=>by cases h),fun B' hp' hh' hle _=>?_⟩;have:=(hh.ok _ _ hf).2.2;exact⟨this.1,jaS hle this.2⟩
   ·cases h
  ·cases h
 ·cases h
def jdn (hh:HRel U B hp nx w):∀{sh:List NK} {cs:List C} {r:List NC} {hs:List Nat},jbP hp sh cs=some (r,hs) ->
  jcx sh r∧cs.length=sh.length∧(∀h∈hs,∃o c',find hp h=some o∧o.cont=some c'∧jkK o=true) ∧
  ∀B' hp',HRel U B' hp' nx w->(∀k,B.fr k->B'.fr k)->(∀h∈hs,∀o c',find hp h=some o->o.cont=some c'->find hp' h=some (.fext c'))->∀(j:Nat) (x:NC) (c:C),r[j]?=some x->cs[j]?=some c->x.at B'.fr w (c.val U)
 |[],[],r,hs,h=>by
  simp only[jbP,zi,qg]at h;obtain⟨rfl,rfl⟩:=h;exact⟨⟨rfl,fun j k x h=>by simp at h⟩,rfl,(fun _ h=>by cases h),fun _ _ _ _ _ j x c h=>by simp at h⟩
 |[],c::cs,r,hs,h=>by simp[jbP]at h
 |k::sh,[],r,hs,h=>by simp[jbP]at h
 |k::sh,c::cs,r,hs,h=>by
  simp only[jbP]at h;split at h
  ·rename_i x g l gs hx hl;simp only[zi,qg]at h;obtain⟨rfl,rfl⟩:=h;obtain⟨a1,a2,a3⟩:=jmJ hh hx;obtain⟨b1,b2,b3,b4⟩:=jdn hh hl
   have hmem:∀h,h∈(match g with|some h=>h::gs|none=>gs)<->g=some h∨h∈gs:=fun h=>by
    cases g with
    |none=>simp
    |some y=>simp[eq_comm]
   refine⟨⟨by simp[b1.1],fun j k' x' hj hx'=>?_⟩,by simp[b2],fun h hm=>?_,fun B' hp' hh' hle hfr j x' c' hj hc=>?_⟩
   ·cases j with
    |zero=>simp at hj hx';subst hj;subst hx';exact a1
    |succ j=>exact b1.2 j k' x' (by simpa using hj) (by simpa using hx')
   ·rcases(hmem h).1 hm with e|e
    ·exact a2 h e
    ·exact b3 h e
   ·cases j with
    |zero =>
     simp at hj hc;subst hj;subst hc;exact a3 B' hp' hh' hle fun h e=>hfr h ((hmem h).2 (.inl e))
    |succ j=>exact b4 B' hp' hh' hle (fun h hm=>hfr h ((hmem h).2 (.inr hm))) j x' c' (by simpa using hj) (by simpa using hc)
  ·cases h
def jgR (hh:HRel U B hp nx w):HRel U B (jah hp) nx w:=by
 refine⟨fun h o hf=>?_,fun k o1 k' o1' b hk hk' hne hb hb'=>?_,hh.glob⟩
 ·obtain⟨_,_,h3,h4,h5,_,_⟩:=jaO hh hf;exact⟨h3,h4,h5⟩
 ·obtain⟨o2,h2,_,_,_,_,h7⟩:=jaO hh hk;obtain⟨o3,h3,_,_,_,_,h8⟩:=jaO hh hk';exact hh.apart k o2 k' o3 b h2 h3 hne (h7 b hb) (h8 b hb')
def jvv {X:XC} {ty:Nat} {us:List zF} (hB:Old B w) (hm:X.n<=9223372036854775807) (hl:us.length=X.n*X.e) (hat:∀i j,i<X.n->j<X.e->∃u,us[i*X.e+j]?=some u∧(X.cell i j).at B.fr w u) :
  (O.xrow ty X).ok (upd U nx (.slice (some ⟨w.heap.size,0,none⟩) X.n X.n)) B (w.alloc (.cells us.toArray ty)) nx:=by
 have hbel:xA w.heap.size w (w.alloc (.cells us.toArray ty)):=(qO _ w).alloc (zu _) _;refine⟨us,⟨by omega,.inr ⟨w.heap.size,X.n,_,by simp,qI _,yx w _,zu _,by simpa [gY]using hm,by simp[hl],?_⟩⟩,fun i j hi hj=>?_,fun k hk hc=>?_⟩
 ·rw[<-hl];exact yv (by simp)
 ·obtain⟨u,hu,hux⟩:=hat i j hi hj;exact⟨u,hu,NC.at_bel hux (jrV hbel hB)⟩
 ·simp[zL]at hk;have:=hB k hc;omega
def jfO {α:Type} {e:Nat}:∀{l:List (List α)},(∀r∈l,r.length=e)->∀{i j:Nat},j<e->l.flatten[i*e+j]?=(l[i]?).bind fun r=>r[j]?
 |[],_,i,j,_=>by simp
 |r::l,h,0,j,hj=>by
  have hr:=h r zV;rw[yo,qQ,zP,z7 (by omega)];simp
 |r::l,h,i+1,j,hj=>by
  have hr:=h r zV;have e1:(i+1)*e+j=r.length+(i*e+j):=by rw[hr,qo];omega
  rw[yo,e1,qa (by omega)];have:=jfO (l:=l) (fun x hx=>h x (zR _ hx)) (i:=i) hj;simpa using this
def jum {o:zX} {t elem e b:Nat} {x y:zH} {k k':IntKind} {n m:Int} {u u':V} {z:List C} {X0:XC} {r:List NC} {hs:List Nat} (hh:HRel U B hp nx w) (hB:Old B w) (hr:jav U nx rd a) (ho:o.op=.makeSlice t x y)
  (hu:P.underlying t=some (.slice elem)) (hx:rd x=some u) (hx':u.int?=some (k,n)) (hy:rd y=some u') (hy':u'.int?=some (k',m))
  (hz:jaB P elem=some z) (hsz:szT P elem=some (e+1)) (hb:jaQ P elem=some b) (hzl:z.length=e+1) (hc:jbP [] X0.sh z=some (r,hs))
  (hob:0<=n∧n=m∧(b:Int)*n<=281474976710656∧n<=9223372036854775807) :
  jax P U B nx a w o ⟨0<=n∧n=m∧(b:Int)*n<=281474976710656∧n<=9223372036854775807,.w (.c (.o nx)),(nx,.xrow elem (X0.rep n.toNat r))::hp,nx+1⟩ true:=by
 obtain⟨h0,rfl,h2,h3⟩:=hob;have h1:=hr _ _ hx;have h1':=hr _ _ hy;rw[V.int?_eq hx']at h1;rw[V.int?_eq hy']at h1';have hh0:HRel U B [] nx w:=hh.sub fun _ _ h=>by cases h
 obtain⟨c1,c2,_,c4⟩:=jdn hh0 hc
 have hs0:hs=[]:=by
  cases hs with
  |nil=>rfl
  |cons y l=>obtain⟨o,c',hf,_⟩:=(jdn hh0 hc).2.2.1 y zV;cases hf
 subst hs0;have hat0:=c4 B [] hh0 (fun _ h=>h) (fun _ h=>by cases h);have hmk:=X0.cell_mk (rs:=zr n.toNat r) (fun x hx=>by rw[xx hx];exact c1);rw[<-XC.rep_mk]at hmk;simp only[jR]at hmk;have hXe:X0.e=e+1:=by rw[<-X0.sh_len,<-c2,hzl]
 cases hi:P.info? elem with
 |none=>simp[szT,hi]at hsz
 |some i =>
  have hsz':i.size=e+1:=by simpa [szT,hi]using hsz
  have hby:i.bytes=b:=by simpa [jaQ,hi]using hb
  cases hzz:i.zero with
  |none=>simp[jaB,hi,hzz]at hz
  |some zv =>
   obtain⟨v,hv,hvc,_⟩:=jaW (P:=P) (w:=w) (U:=U) hz
   have hvz:v=zv:=by
    simp[ym,yP,hi,hzz]at hv;exact hv.symm
   subst hvz;have hm:=run_make (P:=P) w t elem i v hu hi hzz k k' n n h0 (j8 _) (by rw[hby];exact h2) h3
   have hcells:ja v.cells (n.toNat*i.size)=((zr n.toNat (z.map (C.val U))).flatten).toArray:=by
    apply qy;have:=jel v.cells n.toNat;have hvs:v.cells.size=e+1:=by rw[hvc];simp[hzl]
    rw[hvs]at this;rw[hsz',this,hvc]
   rw[hcells]at hm
   have hlen:((zr n.toNat (z.map (C.val U))).flatten).length=(X0.rep n.toNat r).n*(X0.rep n.toNat r).e:=by
    rw[hmk.1,hmk.2.1,hXe,jmG];simp[hzl]
   have hok:=jvv (U:=U) (nx:=nx) (ty:=elem) hB (show(X0.rep n.toNat r).n<=_ by rw[hmk.1];omega) hlen (fun i j hi hj=>by
    rw[hmk.1]at hi;rw[hmk.2.1]at hj ⊢;rw[hmk.2.2 i j hi hj];have hz':j<z.length:=by omega
    have hr':j<r.length:=by rw[c1.1,X0.sh_len];exact hj
    refine⟨(z[j]).val U,?_,?_⟩
    ·rw[hXe];have:=jfO (e:=e+1) (l:=zr n.toNat (z.map (C.val U))) (fun x hx=>by rw[xx hx];simp[hzl]) (i:=i) (j:=j) (by omega);rw[this];simp[hi,hz']
    ·have:((zr n.toNat r).getD i []).getD j (.d (.v qe))=r[j]:=by simp[za,hi,hr']
     rw[this];exact hat0 j r[j] z[j] (by simp) (by simp))
   rw[hmk.1]at hok
   refine jak (U':=upd U nx (.slice (some ⟨w.heap.size,0,none⟩) n.toNat n.toNat)) (w':=w.alloc (.cells ((zr n.toNat (z.map (C.val U))).flatten).toArray elem)) ?_
    (jbi hh hB _ _ _ (.xrow elem (X0.rep n.toNat r)) rfl rfl (show V.lt (nx+1) (.w (.c (.o nx)))from zo nx) true trivial hok (by simp[O.blk,zL]))
   unfold qr;simp only[ho,h1.2,h1'.2,vi_val,zn,hm,zh,zp];simp[V.val,W.val,C.val]
def jx4 (off:Nat):∀(vs:List C) (k:Nat) (pre mid post:List C),pre.length=off+k->mid.length=vs.length ->
  (vs.zipIdx k).foldl (fun cs (c,j)=>cs.set (off+j) c) (pre++mid++post)=pre++vs++post
 |[],k,pre,mid,post,hp,hm=>by
  have:mid=[]:=qk (by simpa using hm);subst this;rfl
 |v::vs,k,pre,mid,post,hp,hm=>by
  cases mid with
  |nil=>simp at hm
  |cons m mid =>
   simp only[jU,hG]
   have e1:(pre++m::mid++post).set (off+k) v=(pre++[v])++mid++post:=by
    rw[<-hp,qJ,gT _ _ (zu _)];simp
   rw[e1,jx4 off vs (k+1) (pre++[v]) mid post (by simp;omega) (by simpa using hm)];simp
def jnk {e:Nat}:∀(parts:List (Nat × W)) (m:Nat) (pre post:List C),pre.length=m*e->post.length=parts.length*e->(∀(i:Nat) (p:Nat × W),parts[i]?=some p->p.1=m+i∧p.2.cells.length=e) ->
  jde (fun i=>some (i*e,e)) (pre++post) parts=some (pre++parts.flatMap fun p=>p.2.cells)
 |[],m,pre,post,_,hl,_=>by
  have:post=[]:=qk (by simpa using hl);subst this;rfl
 |(i,u)::parts,m,pre,post,hp,hl,h=>by
  have h0:=h 0 (i,u) rfl;obtain⟨rfl,hu⟩:i=m∧u.cells.length=e:=by simpa using h0
  have hpl:post=post.take e++post.drop e:=(xi e post).symm;have hle:e<=post.length:=by rw[hl];simp[qo]
  simp only[jde];rw[if_pos ⟨hu,by simp only[qb];omega⟩];have e1:=jx4 (i*e) u.cells 0 pre (post.take e) (post.drop e) (by omega) (by simp;omega);rw[qJ,xi]at e1
  rw[e1,jnk parts (i+1) (pre++u.cells) (post.drop e) (by simp[hu,hp,qo]) (by simp[hl,qo]) (fun j p hj=>by
   have:=h (j+1) p (by simpa using hj);exact⟨by omega,this.2⟩)]
  simp
def jkL (hh:HRel U B hp nx w) {sh:List NK}:∀{l:List (Nat × W)} {n:Nat} {rs:List (List NC)} {hs:List Nat},jgD hp sh n l=some (rs,hs) ->
  rs.length=l.length∧(∀r∈rs,jcx sh r)∧(∀(i:Nat) (p:Nat × W),l[i]?=some p->p.1=n+i∧p.2.cells.length=sh.length)∧(∀h∈hs,∃o c',find hp h=some o∧o.cont=some c'∧jkK o=true) ∧
  ∀B' hp',HRel U B' hp' nx w->(∀k,B.fr k->B'.fr k)->(∀h∈hs,∀o c',find hp h=some o->o.cont=some c'->find hp' h=some (.fext c')) ->
   ∀(i j:Nat) (r:List NC) (p:Nat × W) (x:NC) (c:C),rs[i]?=some r->l[i]?=some p->r[j]?=some x->p.2.cells[j]?=some c->x.at B'.fr w (c.val U)
 |[],n,rs,hs,h=>by
  simp only[jgD,zi,qg]at h;obtain⟨rfl,rfl⟩:=h;exact⟨rfl,(fun _ h=>by cases h),(fun _ _ h=>by simp at h),(fun _ h=>by cases h),fun _ _ _ _ _ i j r p x c h=>by simp at h⟩
 |(i,u)::l,n,rs,hs,h=>by
  simp only[jgD]at h;split at h
  ·rename_i x g rest gs hin hx hl;simp only[zi,qg]at h;obtain⟨rfl,rfl⟩:=h;have hin:=zb hin;subst hin;obtain⟨a1,a2,a3,a4⟩:=jdn hh hx;obtain⟨b1,b2,b3,b4,b5⟩:=jkL hh hl;refine⟨by simp[b1],fun r hr=>?_,fun j p hj=>?_,fun h hm=>?_,fun B' hp' hh' hle hfr i' j r p y c h1 h2 h3 h4=>?_⟩
   ·rcases qv.1 hr with rfl|hr
    ·exact a1
    ·exact b2 r hr
   ·cases j with
    |zero=>simp at hj;subst hj;exact⟨rfl,a2⟩
    |succ j=>have:=b3 j p (by simpa using hj);exact⟨by omega,this.2⟩
   ·rcases qq.1 hm with hm|hm
    ·exact a3 h hm
    ·exact b4 h hm
   ·cases i' with
    |zero =>
     simp at h1 h2;subst h1;subst h2;exact a4 B' hp' hh' hle (fun h hm=>hfr h (yk _ hm)) j y c h3 h4
    |succ i'=>exact b5 B' hp' hh' hle (fun h hm=>hfr h (x6 _ hm)) i' j r p y c (by simpa using h1) (by simpa using h2) h3 h4
  ·cases h
def jiy {elem n e:Nat} {parts:List (Nat × W)} {z out:List C} (hh:HRel U B hp nx w) (hz:jaB P elem=some z) (hs:szT P elem=some (e+1)) (hzl:z.length=e+1) (hle:n*(e+1)<=4096)
  (hout:jde (fun i=>some (i*(e+1),e+1)) (zr n z).flatten parts=some out) (hp':∀x∈parts,x.2.one hp=true∧x.2.lt nx) (t:Nat) (hu:P.underlying t=some (.slice elem)) :
  (xP t n (parts.map fun x=>(x.1,x.2.val U)).toArray).run P w=.ok (.slice (some ⟨w.heap.size,0,none⟩) n n) (w.alloc (.cells (out.map (C.val U)).toArray elem)):=by
 obtain⟨v,hv,hvc,hlt⟩:=jaW (P:=P) (w:=w) (U:=U) hz
 have hf:=jdk (U:=U) _ hh parts _ out hout hp' (fun c hc=>by
  obtain⟨l,hl,hc'⟩:=jV.1 hc;rw[xx hl]at hc';exact hlt nx c hc')
 have hvs:v.cells.size=e+1:=by rw[hvc];simp[hzl]
 have e1:¬(n*(e+1)>2^24):=by omega
 have hcells:∀zz:Array zF,(n*(e+1)≠0->zz=v.cells)->(gZ (n*(e+1))).map (zz[· % zz.size]!)=((zr n z).flatten.map (C.val U)).toArray:=by
  intro zz hzz
  by_cases h0:n*(e+1)=0
  ·have hn0:n=0:=by
    rcases yX.1 h0 with h|h
    ·exact h
    ·omega
   subst hn0;simp
  ·rw[hzz h0];have:=jel v.cells n;apply qy;simp only[ja,hvs]at this;simp only[hvs];rw[this,hvc];simp
 have hfin:(do
   let some cells:=gL (fun i=>some (i*(e+1),e+1)) ((zr n z).flatten.map (C.val U)).toArray (parts.map fun x=>(x.1,x.2.val U))|stuck "buildSlice: a part of the wrong size"
   pure (.slice (some (<-gz elem cells)) n n):Sem zF).run P w=.ok (.slice (some ⟨w.heap.size,0,none⟩) n n) (w.alloc (.cells (out.map (C.val U)).toArray elem)):=by
  simp only[hf.1,gz,zn,ji,zh,zp];rfl
 by_cases h0:n*(e+1)=0
 ·have hn0:n=0:=by
   rcases yX.1 h0 with h|h
   ·exact h
   ·omega
  subst hn0;have h3:=hcells #[] (fun h=>absurd h0 h);have e2:¬(0*(e+1)>2^24):=by omega
  simp only[xP,zn,zI hu,zh,jaD w hs,yq];rw[if_neg e2,if_pos h0];simp only[zn,zp,zh,h3];exact hfin
 ·simp only[xP,zn,zI hu,zh,jaD w hs,yq];rw[if_neg e1,if_neg h0];simp only[zn,zp,zh,hv,hcells v.cells (fun _=>rfl)];exact hfin
def jsl {o:zX} {t n elem e:Nat} {parts:Array (Nat × zH)} {l:List (Nat × W)} {z:List C} {X0:XC} {rs:List (List NC)} {hs:List Nat} (hh:HRel U B hp nx w) (hB:Old B w) (hr:jav U nx rd a) (ho:o.op=.buildSlice t n parts)
  (hu:P.underlying t=some (.slice elem)) (hl:jcp rd hp parts.toList=some l) (hz:jaB P elem=some z) (hsz:szT P elem=some (e+1)) (hzl:z.length=e+1) (hXe:X0.sh.length=e+1) (hn:l.length=n) (hle:n*(e+1)<=4096)
  (hc:jgD hp X0.sh 0 l=some (rs,hs)) :
  jax P U B nx a w o ⟨True,.w (.c (.o nx)),(nx,.xrow elem (X0.mk rs))::frz hp hs,nx+1⟩ false:=by
 have hps:=jc3 hr parts.toList l hl;obtain⟨c1,c2,c3,c4,c5⟩:=jkL hh hc;obtain⟨B',g,hh',f1,f2⟩:=jnj hh hs c4;have hat:=c5 B' _ hh' g.le.fr f1;have hmk:=X0.cell_mk c2;have he:X0.e=e+1:=by rw[<-X0.sh_len,hXe]
 have hfill:=jnk (e:=e+1) l 0 [] (zr n z).flatten (by simp) (by simp[hn,hzl]) (fun i p hi=>by have:=c3 i p hi;rw[hXe]at this;exact this);rw[qM,qM]at hfill;have hrun:=jiy (U:=U) hh hz hsz hzl hle hfill hps.2 t hu;have hB':=g.old hB;have hfl:(l.flatMap fun p=>p.2.cells)=(l.map fun p=>p.2.cells).flatten:=by rw[fK]
 have hok:=jvv (U:=U) (nx:=nx) (ty:=elem) (X:=X0.mk rs) (us:=(l.flatMap fun p=>p.2.cells).map (C.val U)) hB' (by rw[hmk.1,c1,hn];have:=qx (yR n (yH e)) hle;omega) (by
   rw[hmk.1,hmk.2.1,he,c1];simp only[qG,fm]
   have:(l.map fun p=>p.2.cells.length)=zr l.length (e+1):=by
    apply xg;intro i;rw[zK];cases hi:l[i]? with
    |none=>rw[z9 (by simpa using hi)];rfl
    |some p =>
     have:=(c3 i p hi).2;have hlt:=(zB.1 hi).1;simp[hlt,this,hXe]
   rw[this];simp) (fun i j hi hj=>by
   rw[hmk.1]at hi;rw[hmk.2.1]at hj ⊢;rw[hmk.2.2 i j hi hj];have hil:i<l.length:=by omega
   have hp:=c3 i l[i] (by simp[hil]);have hjc:j<(l[i]).2.cells.length:=by omega
   have hrr:=c2 rs[i] (xC hi);have hjr:j<(rs[i]).length:=by rw[hrr.1,X0.sh_len];exact hj
   refine⟨((l[i]).2.cells[j]).val U,?_,?_⟩
   ·rw[zK,hfl,he]
    have:=jfO (e:=e+1) (l:=l.map fun p=>p.2.cells) (fun x hx=>by
     obtain⟨p,hp,rfl⟩:=qu.1 hx;obtain⟨q,hq,rfl⟩:=jt hp;have:=(c3 q l[q] (by simp[hq])).2;omega) (i:=i) (j:=j) (by omega)
    rw[this];simp[hil,hjc]
   ·have e2:(rs.getD i []).getD j (.d (.v qe))=(rs[i])[j]:=by simp[za,hi,hjr]
    rw[e2];exact hat i j rs[i] l[i] (rs[i])[j] ((l[i]).2.cells[j]) (by simp[hi]) (by simp[hil]) (by simp[hjr]) (by simp[hjc]))
 rw[hmk.1,c1,hn]at hok;have hla:=jbi (r:=⟨True,.w (.c (.o nx)),(nx,.xrow elem (X0.mk rs))::frz hp hs,nx+1⟩) hh' hB' (.slice (some ⟨w.heap.size,0,none⟩) n n) ((l.flatMap fun p=>p.2.cells).map (C.val U)).toArray elem (.xrow elem (X0.mk rs)) rfl rfl (show V.lt (nx+1) (.w (.c (.o nx)))from zo nx) false trivial hok (by simp[O.blk,zL]);refine jak (U':=upd U nx (.slice (some ⟨w.heap.size,0,none⟩) n n)) (w':=w.alloc (.cells ((l.flatMap fun p=>p.2.cells).map (C.val U)).toArray elem)) ?_ ⟨hla.agree,hla.lt,hla.le,?_,hla.below.mono g.le.kp,hla.mono,hla.fresh⟩
 ·unfold qr
  have he2:(parts.map fun(i,x)=>(i,a.eval x))=(l.map fun x=>(x.1,x.2.val U)).toArray:=by
   rw[<-hps.1];apply qy;simp
  simp only[ho,he2,zn,hrun,zh,zp];simp[V.val,W.val,C.val]
 ·obtain⟨B2,g2,h2⟩:=hla.heap;exact⟨B2,g.weak.trans g2.weak (zu _) hla.below.size,h2⟩
def jb6 {us vs:List zF} {off t:Nat} (h:off+vs.length<=us.length):(us.take off++vs++us.drop (off+vs.length))[t]?=if off<=t∧t<off+vs.length then vs[t-off]? else us[t]?:=by
 have hl:(us.take off).length=off:=by simp;omega
 by_cases h1:t<off
 ·rw[if_neg (by omega),qJ,z7 (by omega),z6,if_pos h1]
 ·by_cases h2:t<off+vs.length
  ·rw[if_pos ⟨by omega,h2⟩,qJ,qa (by omega),z7 (by omega),hl]
  ·rw[if_neg (by omega),qa (by simp;omega),xN]
   congr 1
   simp only[qb,hl];omega
def jx5 {hs:List Nat}:∀{k:Nat} {r:Nat} {c:Cont} {fl:Bool},find (frz (jah hp) hs) k≠some (.view r c fl):=by
 induction hs with
 |nil =>
  intro k r c fl h;simp only[frz,jaz]at h;cases hf:find hp k with
  |none=>simp[hf]at h
  |some o=>cases o<;>simp[hf]at h
 |cons h0 hs ih =>
  intro k r c fl h;simp only[frz]at h;split at h
  ·simp only[find]at h;split at h
   ·cases h
   ·exact ih h
  ·exact ih h
def jzx {hs:List Nat}:∀{k r i e j ty:Nat} {c:Cont},find (frz (jah hp) hs) k≠some (.sub r i e j ty c):=by
 induction hs with
 |nil =>
  intro k r i e j ty c h;simp only[frz,jaz]at h;cases hf:find hp k with
  |none=>simp[hf]at h
  |some o=>cases o<;>simp[hf]at h
 |cons h0 hs ih =>
  intro k r i e j ty c h;simp only[frz]at h;split at h
  ·simp only[find]at h;split at h
   ·cases h
   ·exact ih h
  ·exact ih h
def jwf {hs:List Nat}:∀{k r e n:Nat} {cs:List C},find (frz (jah hp) hs) k≠some (.lview r e n cs):=by
 induction hs with
 |nil =>
  intro k r e n cs h;simp only[frz,jaz]at h;cases hf:find hp k with
  |none=>simp[hf]at h
  |some o=>cases o<;>simp[hf]at h
 |cons h0 hs ih =>
  intro k r e n cs h;simp only[frz]at h;split at h
  ·simp only[find]at h;split at h
   ·cases h
   ·exact ih h
  ·exact ih h
def jkM {o:zX} {t h i j ty:Nat} {x y:zH} {u:W} {X X':XC} {hs:List Nat} (hh:HRel U B hp nx w) (hB:Old B w) (hr:jav U nx rd a) (ho:o.op=.store t x y)
  (hx:rd x=some (.w (.c (.p h i X.e j)))) (hy:rd y=some (.w u)) (hone:u.one hp=true) (hall:(u.cells.all fun c=>c.one hp)=true) (hs1:szT P t=some u.cells.length) (hf:find hp h=some (.xrow ty X)) (hi:i<X.n)
  (hjl:j+u.cells.length<=X.e) (hcs:∀g∈hs,∃o c',find hp g=some o∧o.cont=some c'∧jkK o=true) (hX:X'.n=X.n∧X'.e=X.e)
  (hcell:∀B' hp',HRel U B' hp' nx w->(∀k,B.fr k->B'.fr k)->(∀g∈hs,∀o c',find hp g=some o->o.cont=some c'->find hp' g=some (.fext c')) ->
   ∀i' j',i'<X.n->j'<X.e->if i'=i∧j<=j'∧j'<j+u.cells.length then ∃c,u.cells[j' - j]?=some c∧(X'.cell i' j').at B'.fr w (c.val U)else X'.cell i' j'=X.cell i' j') :
  jax P U B nx a w o ⟨i<X.n,vu,(h,.xrow ty X')::frz (jah hp) hs,nx⟩ false:=by
 have h1:=hr _ _ hx;have h2:=hr _ _ hy;obtain⟨hlt,hol,us,⟨hlen,hcase⟩,hat,hBk⟩:=hh.ok h _ hf;rcases hcase with ⟨_,hn⟩|⟨g,cap,cur,hk,_,hheap,hncap,hcapm,hcsz,htk⟩
 ·omega
 have hvf:∀g∈hs,∃o c',find (jah hp) g=some o∧o.cont=some c'∧jkK o=true:=fun g hg=>by
  obtain⟨o,c',h3,h4,h5⟩:=hcs g hg;refine⟨o,c',?_,h4,h5⟩;rw[jaz,h3];cases o<;>first|rfl|cases h5
 obtain⟨B',gr,hh',f1,f2⟩:=jnj (jgR hh) hs hvf
 have hcell:=hcell B' _ hh' gr.le.fr (fun g hg o c' h3 h4=>by
  obtain⟨o2,c2,h5,h6,h7⟩:=hcs g hg;rw[h3]at h5;cases h5;refine f1 g hg o c' ?_ h4;rw[jaz,h3];cases o<;>first|rfl|cases h7)
 have hhs:h∉hs:=fun hm=>by
  obtain⟨o2,c2,h5,h6,h7⟩:=hcs h hm;rw[hf]at h5;cases h5;cases h7
 have hf':find (frz (jah hp) hs) h=some (.xrow ty X):=by rw[f2 h hhs,jaz,hf];rfl
 have hB'g:¬B'.all g:=by
  have:=(hh'.ok h _ hf').2.2;obtain⟨_,_,_,h9⟩:=this;exact h9 g (by rw[hk];rfl)
 have hc:=W.cells_val hh hone;have hvs:(u.val U).cells.size=u.cells.length:=by rw[hc];simp
 have hin:i*X.e+j+u.cells.length<=X.n*X.e:=by
  have:(i+1)*X.e<=X.n*X.e:=zW _ hi;rw[qo]at this;omega
 have hcapsz:X.n*X.e<=cap*X.e:=zW _ hncap;have hst:=jbB (P:=P) (t:=t) (g:=g) (off:=i*X.e+j) (v:=u.val U) (by rw[hvs];exact hs1) hheap (by rw[hvs,hcsz];omega) (by rw[hc];exact jcv hh hall);refine jbR (U':=U) (w':=w.setRow g ((cur.toList.take (i*X.e+j)++(u.val U).cells.toList++cur.toList.drop (i*X.e+j+(u.val U).cells.size)).toArray)) ?_ rfl ?_
 ·unfold qr;have h1v:a.eval x=.pointer (some ⟨g,i*X.e+j,none⟩):=by rw[h1.2];simp[C.val,hk,base]
  have h2v:a.eval y=u.val U:=h2.2;simp only[ho,h1v,h2v,yh,qA,zn,zp,zh,hst]
 ·have hbel:Bel B' w (w.setRow g ((cur.toList.take (i*X.e+j)++(u.val U).cells.toList++cur.toList.drop (i*X.e+j+(u.val U).cells.size)).toArray)):=jbX hB'g;refine⟨jae.refl _ _,trivial,zu _,⟨B',gr.later (by simp),?_⟩,hbel.mono gr.le.kp,(fun h=>by cases h),fun h=>by cases h⟩;have hul:us.length=X.n*X.e:=hlen;have hcur:cur.toList=us++cur.toList.drop (X.n*X.e):=by rw[<-htk];exact(xi _ _).symm
  have hvl:(u.val U).cells.toList=u.cells.map (C.val U):=by rw[hc]
  have htake:(cur.toList.take (i*X.e+j)++(u.val U).cells.toList++cur.toList.drop (i*X.e+j+(u.val U).cells.size)).take (X.n*X.e)=us.take (i*X.e+j)++u.cells.map (C.val U)++us.drop (i*X.e+j+(u.cells.map (C.val U)).length):=by
   rw[hvl,hvs];apply xg;intro t;have hcl:cur.toList.length=cap*X.e:=by simp[hcsz]
   have s1:=jb6 (us:=cur.toList) (vs:=u.cells.map (C.val U)) (off:=i*X.e+j) (t:=t) (by simp only[qG];omega);have s2:=jb6 (us:=us) (vs:=u.cells.map (C.val U)) (off:=i*X.e+j) (t:=t) (by simp only[qG];omega);simp only[qG]at s1 s2 ⊢;rw[z6,s1,s2]
   by_cases ht:t<X.n*X.e
   ·rw[if_pos ht];have:us[t]?=cur.toList[t]?:=by rw[<-htk,z6,if_pos ht]
    rw[this]
   ·rw[if_neg ht,if_neg (by omega)];exact(z9 (by omega)).symm
  have hw:=HRel.write (w':=w.setRow g ((cur.toList.take (i*X.e+j)++(u.val U).cells.toList++cur.toList.drop (i*X.e+j+(u.val U).cells.size)).toArray)) (o':=.xrow ty X') hh' hf' (g:=g) (by simp[O.blk,hk,zL]) (fun k _ hne=>yg w g k _ hne) ?_ trivial (by simp[O.blk,hk,zL])
  ·refine hw.sub fun k o1 hk1=>?_;simp only[find]at hk1 ⊢;split at hk1
   ·rename_i e;rw[if_pos e];exact hk1
   ·rename_i e;rw[if_neg e,jaz,hk1];cases o1 with
    |view r c fl=>exact absurd hk1 jx5
    |sub r i e j ty c=>exact absurd hk1 jzx
    |lview r e n cs=>exact absurd hk1 jwf
    |_=>rfl
  ·refine⟨us.take (i*X.e+j)++u.cells.map (C.val U)++us.drop (i*X.e+j+(u.cells.map (C.val U)).length),⟨?_,.inr ⟨g,cap,_,by rw[hX.1];exact hk,qI _,yT w g _ _ ty (0,0) hheap,by rw[hX.1];exact hncap,hcapm,?_,by rw[hX.1,hX.2];exact htake⟩⟩,fun i' j' hi' hj'=>?_,fun k hk2=>?_⟩
   ·simp only[hX.1,hX.2,qb,qP,xf,qG];omega
   ·simp only[hX.2,xE,qb,qP,xf,yr,hvs];omega
   ·rw[hX.1]at hi';rw[hX.2]at hj' ⊢;have s2:=jb6 (us:=us) (vs:=u.cells.map (C.val U)) (off:=i*X.e+j) (t:=i' * X.e+j') (by simp only[qG];omega);have hc':=hcell i' j' hi' hj'
    have hiff:(i*X.e+j<=i' * X.e+j'∧i' * X.e+j'<i*X.e+j+u.cells.length)<->(i'=i∧j<=j'∧j'<j+u.cells.length):=by
     constructor
     ·rintro ⟨a1,a2⟩
      have:i'=i:=by
       rcases gv i' i with h3|h3|h3
       ·have:(i' + 1)*X.e<=i*X.e:=zW _ h3;rw[qo]at this;omega
       ·exact h3
       ·have:(i+1)*X.e<=i' * X.e:=zW _ h3;rw[qo]at this;omega
      subst this;exact⟨rfl,by omega,by omega⟩
     ·rintro ⟨rfl,a1,a2⟩;exact⟨by omega,by omega⟩
    simp only[qG]at s2 ⊢;rw[s2]
    by_cases hin2:i'=i∧j<=j'∧j'<j+u.cells.length
    ·rw[if_pos (hiff.2 hin2)];rw[if_pos hin2]at hc';obtain⟨c,hc1,hc2⟩:=hc';obtain⟨rfl,a1,a2⟩:=hin2;refine⟨c.val U,?_,NC.at_bel hc2 (hbel.mono B'.sub)⟩;rw[zK,show i' * X.e+j' - (i' * X.e+j)=j' - j by omega,hc1];rfl
    ·rw[if_neg (fun h=>hin2 (hiff.1 h))];rw[if_neg hin2]at hc';obtain⟨v,hv,hvx⟩:=hat i' j' hi' hj';refine⟨v,hv,?_⟩;rw[hc'];exact NC.at_bel (NC.at_mono gr.le.fr hvx) (hbel.mono B'.sub)
   ·have:=(hh'.ok h _ hf').2.2;obtain⟨_,_,_,h9⟩:=this;exact h9 k hk2
def jdA {t ty elem e b:Nat} {i:TypeInfo} {z:zF} (hu:P.underlying t=some (.slice elem)) (hi:P.info? elem=some i) (hz:i.zero=some z) (hsz:i.size=e+1) (hby:i.bytes=b) (hzs:z.cells.size=e+1)
  {v xv:zF} {n m:Nat} {xs news:List zF} (hown:w.ownsRow 0 elem (e+1) v n xs) (hl:news.length=m*(e+1)) (h1:∀u∈news,u.oneCell'=true)
  (hx:(xv=.slice none 0 0∧m=0)∨∃ad c,xv=.slice (some ad) m c∧∀j u,news[j]?=some u->w.cell? (ad.add j)=some u)
  (h63:n+m<=9223372036854775807) (hbytes:(n+m)*b<=140737488355328) :
  ∃v' w',(hH #[t,t] ty #[v,xv]).run P w=.ok v' w'∧w'.ownsRow 0 elem (e+1) v' (n+m) (xs++news)∧w.grownBy w' v.ownBlock ∧
   ∀k,v'.ownBlock=some k->v.ownBlock=some k∨w.heap.size<=k:=by
 rcases hx with ⟨rfl,rfl⟩|⟨ad,c,rfl,hnews⟩
 ·-- nothing is appended
  have hne:news=[]:=qk (by simpa using hl);subst hne;have hszT:szT P elem=some (e+1):=by simp[szT,hi,hsz]
  refine⟨v,w,?_,by simpa using hown,⟨rfl,rfl,rfl,zu _,fun _ _ _=>rfl⟩,fun k hk=>.inl hk⟩;rcases hown.2 with ⟨rfl,rfl⟩|⟨g,cap,cur,rfl,hb,hg,hnc,_⟩
  ·simp[hH,zI hu,jaD w hszT,kw,fq]
  ·simp[hH,zI hu,jaD w hszT,kw,fq,hnc,storeCells]
 ·obtain⟨v',w',hrun,hown',hgrown,hnil⟩:=run_append_own (P:=P) w 0 t ty elem i z (e+1) b hu hi hz hsz hby hzs (yH e) v n xs hown ad m c news hl hnews h1 (by simpa [gY]using h63) hbytes (qI _);refine⟨v',w',hrun,hown',hgrown,fun k hk=>?_⟩;rcases hown.2 with ⟨rfl,rfl⟩|⟨g,cap,cur,rfl,hbg,hg,hnc,hcm,hcs,htk⟩
  ·by_cases hm:m=0
   ·have:=hnil.2 ⟨rfl,hm⟩;subst this;simp[zL]at hk
   ·have hr2:=run_append_nil (P:=P) w t ty elem i z hu hi hz ad m c news (by rw[hsz];exact hl) hnews (by omega) (by omega) (by rw[hby];have hb:=hbytes;simp only[zP]at hb;omega);rw[hrun]at hr2;cases hr2;simp[zL]at hk;exact .inr (by omega)
  ·by_cases hroom:n+m<=cap
   ·have hfit:n*i.size+news.length<=cur.size:=by rw[hl,hcs,hsz,<-qo];exact zW _ hroom
    have hr2:=run_append_room (P:=P) w t ty elem i hu hi g n cap cur hg ad m c news (by rw[hsz];exact hl) hnews h1 hroom hfit;rw[hrun]at hr2;cases hr2;exact .inl hk
   ·have holds:∀j u,xs[j]?=some u->w.cell? ((⟨g,0,none⟩:Addr).add j)=some u:=hown.cells (g:=g) rfl;have hr2:=f6 (P:=P) w t ty elem i z hu hi hz ⟨g,0,none⟩ n cap xs (by rw[hsz];exact hown.1) holds ad m c news (by rw[hsz];exact hl) hnews (by omega) (by omega) (kj (by omega) (by rw[hby];exact hbytes));rw[hrun]at hr2;cases hr2;simp[zL]at hk;exact .inr (by omega)
def jc6 {w':zx} {row:Option Nat} (hg:w.grownBy w' row) (h:∀k,row=some k->¬B.all k) (hB:Old B w):Bel B w w' :=
 ⟨hg.os,hg.tape,hg.output,hg.size,fun k hk=>hg.block k (hB k (.inl hk)) (fun e=>h k e.symm (.inl hk))⟩
def HRel.grow {w':zx} {v v':zF} {o':O} {hp1:Hp} (hh:HRel U B hp nx w) (hB:Old B w) (hg:w.grownBy w' v.ownBlock) (hgB:∀k,v.ownBlock=some k->¬B.all k)
  (hp1s:∀k o,find hp1 k=some o->find (jah hp) k=some o∨o=.dead∧k<nx) (hfree:∀k o g,find hp1 k=some o->o.blk (U k)=some g->v.ownBlock≠some g)
  (ho:o'.ok (upd U nx v') B w' nx) (hl:o'.lt (nx+1)) (hb:∀k,o'.blk v'=some k->v.ownBlock=some k∨w.heap.size<=k) :
  HRel (upd U nx v') B ((nx,o')::hp1) (nx+1) w':=by
 have hag:=jal U nx v'
 have old:∀k o,find hp1 k=some o->k<nx∧o.lt nx∧o.ok U B w k∧o.isV=false:=by
  intro k o hk;rcases hp1s k o hk with h|⟨h,h2⟩
  ·obtain⟨_,_,h3,h4,h5,h6,_⟩:=jaO hh h;exact⟨h3,h4,h5,h6⟩
  ·subst h;exact⟨h2,trivial,trivial,rfl⟩
 have blklt:∀k o g,find hp1 k=some o->o.blk (U k)=some g->g<w.heap.size:=fun k o g hk hbk=>(O.blk_lt (old k o hk).2.2.1 hbk).1;refine⟨?_,?_,hh.glob.bel (jc6 hg hgB hB)⟩
 ·intro k o hk;simp only[find]at hk;split at hk
  ·rename_i e;subst e;cases hk;exact⟨by omega,hl,ho⟩
  ·obtain⟨h3,h4,h5,h6⟩:=old k o hk;refine⟨by omega,O.lt_mono (qt nx) h4,?_⟩;refine O.ok_agree hag h3 h4 ?_;cases hv:v.ownBlock with
   |none =>
    exact O.ok_except (g:=w.heap.size) (fun b hb2 _=>hg.block b hb2 (by rw[hv];simp)) (fun hc=>j4 _ (hB _ hc)) h5 (fun e=>by have:=blklt k o _ hk e;omega) h6
   |some g =>
    exact O.ok_except (g:=g) (fun b hb2 hne=>hg.block b hb2 (by rw[hv];simpa using hne)) (hgB g hv) h5 (fun e=>hfree k o g hk e hv) h6
 ·intro k o1 k' o1' b hk hk' hne hbk hbk';simp only[find]at hk hk';split at hk
  ·rename_i e;subst e;cases hk;rw[if_neg hne]at hk';obtain⟨h3,_,_,_⟩:=old k' o1' hk';rw[upd_same]at hbk;rw[hag k' h3]at hbk';rcases hb b hbk with h|h
   ·exact hfree k' o1' b hk' hbk' h
   ·have:=blklt k' o1' b hk' hbk';omega
  ·split at hk'
   ·rename_i e;subst e;cases hk';obtain⟨h3,_,_,_⟩:=old k o1 hk;rw[upd_same]at hbk';rw[hag k h3]at hbk;rcases hb b hbk' with h|h
    ·exact hfree k o1 b hk hbk h
    ·have:=blklt k o1 b hk hbk;omega
   ·obtain⟨h3,_,_,_⟩:=old k o1 hk;obtain⟨h3',_,_,_⟩:=old k' o1' hk';rw[hag k h3]at hbk;rw[hag k' h3']at hbk';rcases hp1s k o1 hk with h|⟨h,_⟩
    ·rcases hp1s k' o1' hk' with h' | ⟨h',_⟩
     ·obtain⟨o2,h2,_,_,_,_,h7⟩:=jaO hh h;obtain⟨o3,h3,_,_,_,_,h8⟩:=jaO hh h';exact hh.apart k o2 k' o3 b h2 h3 hne (h7 b hbk) (h8 b hbk')
     ·subst h';simp[O.blk]at hbk'
    ·subst h;simp[O.blk]at hbk
def jdo {v:V} {hs:Option Nat} {cs:Option Cont} (hh:HRel U B hp nx w) (h:jcg hp v=some (hs,cs)) :
  (hs=none∧cs=none∧v.val U=.slice none 0 0)∨∃k o c,hs=some k∧cs=some c∧v.val U=U k∧find hp k=some o∧o.cont=some c∧jaJ w (U k) c:=by
 unfold jcg at h;split at h
 ·rename_i k;split at h
  ·rename_i c hc;cases h;cases hf:find hp k with
   |none=>simp[hf]at hc
   |some o =>
    simp only[hf,zw]at hc;exact .inr ⟨k,o,c,rfl,rfl,rfl,hf,hc,jaX (hh.ok k o hf).2.2 hc⟩
  ·cases h
 ·cases h;exact .inl ⟨rfl,rfl,rfl⟩
 ·cases h
def Cont.one_all {c:Cont} (h:c.one=true):∀x∈c.flat,x.val.oneCell'=true:=by
 intro x hx;cases c with
 |ints k l=>simp[Cont.flat]at hx;obtain⟨y,_,rfl⟩:=hx;rfl
 |floats k l=>simp[Cont.flat]at hx;obtain⟨y,_,rfl⟩:=hx;rfl
 |strs l=>simp[Cont.flat]at hx;obtain⟨y,_,rfl⟩:=hx;rfl
 |bools l=>simp[Cont.flat]at hx;rcases hx with ⟨_,rfl⟩|⟨_,rfl⟩<;>rfl
 |recs e l=>simp[Cont.flat,ji3]at hx;obtain⟨y,_,i,_,rfl⟩:=hx;rfl
 |lits e l=>exact D.one_val (zq.1 h x hx)
 |frs k e l=>simp[Cont.flat,frD]at hx;obtain⟨y,_,i,_,rfl⟩:=hx;rfl
def jnl {v:V} {X0 X:XC} {hs:Option Nat} {ty:Nat} (hh:HRel U B hp nx w) (h:xOf hp X0 v=some (hs,ty,X)) :
  (hs=none∧X=X0∧v.val U=.slice none 0 0)∨∃k,hs=some k∧v.val U=U k∧find hp k=some (.xrow ty X):=by
 unfold xOf at h;split at h
 ·rename_i k;split at h
  ·rename_i ty' X' hf;simp only[zi,qg]at h;obtain⟨rfl,rfl,rfl⟩:=h;exact .inr ⟨k,rfl,rfl,hf⟩
  ·cases h
 ·simp only[zi,qg]at h;obtain⟨rfl,rfl,rfl⟩:=h;exact .inl ⟨rfl,rfl,rfl⟩
 ·cases h
def jvw {P:zy} {t:qf} {X:XC} (h:xcT P t=some X):X.n=0:=by
 unfold xcT at h;split at h
 ·split at h
  ·split at h<;>cases h;rfl
  ·split at h<;>cases h<;>rfl
  ·cases h
 ·cases h
def jrd {o:zX} {t elem e b:Nat} {s x:zH} {c:Call} {us ux:V} {hs hx:Option Nat} {ty ty':Nat} {X0 X1 X2 X3:XC} {z:List C} (hh:HRel U B hp nx w) (hB:Old B w) (hr:jav U nx rd a)
  (ho:o.op=.call c) (hcal:c.callee=.builtin .append) (hargs:c.args=#[s,x]) (hts:c.argTypes=#[t,t]) (hu:P.underlying t=some (.slice elem))
  (hrs:rd s=some us) (hrx:rd x=some ux) (hX0:xcT P elem=some X0) (hss:xOf hp X0 us=some (hs,ty,X1)) (hsx:xOf hp X0 ux=some (hx,ty',X2)) (hz:jaB P elem=some z) (hsz:szT P elem=some (e+1)) (hby:jaQ P elem=some b)
  (hty:∀h,hs=some h->ty=elem) (h3:X1.app X2=some X3) (hzl:z.length=e+1) (he1:X1.sh.length=e+1)
  (hob:(X1.n+X2.n)*b<=140737488355328∧X1.n+X2.n<=9223372036854775807) (r:Res) (hrn:r.nx=nx+1) (hrv:r.v=.w (.c (.o nx)))
  (hrh:r.hp=(nx,.xrow elem X3)::(match hs with|some h=>(h,.dead)::jah hp|none=>jah hp)) :
  jax P U B nx a w o r false:=by
 obtain⟨a1,a2,a3,a4,a5⟩:=XC.app_spec h3;have he:X1.e=e+1:=by rw[<-X1.sh_len,he1]
 have hvs:=(hr _ _ hrs).2;have hvx:=(hr _ _ hrx).2;have h00:=jvw hX0;cases hi:P.info? elem with
 |none=>simp[szT,hi]at hsz
 |some i =>
  have hsz':i.size=e+1:=by simpa [szT,hi]using hsz
  have hby':i.bytes=b:=by simpa [jaQ,hi]using hby
  cases hzz:i.zero with
  |none=>simp[jaB,hi,hzz]at hz
  |some zv =>
   obtain⟨v0,hv0,hvc,_⟩:=jaW (P:=P) (w:=w) (U:=U) hz
   have hvz:v0=zv:=by
    simp[ym,yP,hi,hzz]at hv0;exact hv0.symm
   subst hvz;have hzs:v0.cells.size=e+1:=by rw[hvc];simp[hzl]
   obtain⟨us1,hown,hat1,hblk⟩:∃us1,w.ownsRow 0 elem (e+1) (us.val U) X1.n us1∧(∀i j,i<X1.n->j<X1.e->∃u,us1[i*X1.e+j]?=some u∧(X1.cell i j).at B.fr w u) ∧
     (∀k,(us.val U).ownBlock=some k->∃h o,hs=some h∧find hp h=some o∧o.blk (U h)=some k):=by
    rcases jnl hh hss with ⟨rfl,rfl,hv⟩|⟨k,rfl,hv,hf⟩
    ·rw[hv,h00];exact⟨[],xt w 0 elem (e+1),(fun i j hi=>absurd hi (xZ _)),fun k hk=>by simp[zL]at hk⟩
    ·have hte:=hty k rfl;subst hte;obtain⟨us1,q1,q2,q3⟩:=(hh.ok k _ hf).2.2;rw[hv];exact⟨us1,by rw[<-he];exact q1,q2,fun g hg=>⟨k,_,rfl,hf,hg⟩⟩
   obtain⟨us2,hlen2,hat2,hsrc⟩:∃us2:List zF,us2.length=X2.n*(e+1)∧(∀i j,i<X2.n->j<X2.e->∃u,us2[i*X2.e+j]?=some u∧(X2.cell i j).at B.fr w u) ∧
     (((ux.val U)=.slice none 0 0∧X2.n=0)∨∃ad cc,(ux.val U)=.slice (some ad) X2.n cc∧∀j u,us2[j]?=some u->w.cell? (ad.add j)=some u):=by
    rcases jnl hh hsx with ⟨rfl,rfl,hv⟩|⟨k,rfl,hv,hf⟩
    ·exact⟨[],by simp[h00],(fun i j hi=>by omega),.inl ⟨hv,h00⟩⟩
    ·obtain⟨us2,q1,q2,q3⟩:=(hh.ok k _ hf).2.2;rcases q1 with ⟨ql,⟨q4,q5⟩|⟨g,cap,cur,q4,q5,q6,q7,q8,q9,q10⟩⟩
     ·exact⟨[],by simp[q5],(fun i j hi=>by omega),.inl ⟨by rw[hv,q4],q5⟩⟩
     ·refine⟨us2,by rw[ql,a3,he],q2,.inr ⟨⟨g,0,none⟩,cap,by rw[hv,q4],fun j u hj=>?_⟩⟩;rw[jaL,zP,xj w g _ cur ty' (0,0) q6];rw[<-q10,z6]at hj;split at hj
      ·simpa using hj
      ·cases hj
   have hone:∀u∈us2,u.oneCell'=true:=fun u hu2=>by
    obtain⟨q,hq,rfl⟩:=jt hu2;have he0:0<X2.e:=by omega
    have hql:q<X2.n*X2.e:=by rw[a3,he,<-hlen2];exact hq
    have hdiv:q/X2.e<X2.n:=xW (by rw[xJ];exact hql);obtain⟨u,hu3,hux⟩:=hat2 (q/X2.e) (q%X2.e) hdiv (ya _ he0);rw[show q/X2.e*X2.e+q%X2.e=q by rw[xJ];exact yC q X2.e,zJ hq]at hu3;cases hu3;exact jsk hux
   obtain⟨v',w',hrun,hown',hgrown,hwhere⟩:=jdA (ty:=o.type) hu hi hzz hsz' hby' hzs hown (news:=us2) (m:=X2.n) hlen2 hone hsrc hob.2 hob.1
   have hgB:∀k,(us.val U).ownBlock=some k->¬B.all k:=fun k hk=>by
    obtain⟨h,ob,_,hf,hbo⟩:=hblk k hk;exact(O.blk_lt (hh.ok h ob hf).2.2 hbo).2
   have hbl:=jc6 hgrown hgB hB;have hl1:us1.length=X1.n*(e+1):=hown.1;refine jak (U':=upd U nx v') (w':=w') ?_ ?_
   ·unfold qr;simp only[ho,hcal,yF,hargs,hts,xX,zM,qR,zn,zp,zh,jg,builtin,hvs,hvx,hrun];simp[hrv,V.val,W.val,C.val]
   ·refine⟨jal _ _ _,by rw[hrv,hrn];exact zo nx,by omega,HRel.gr ?_,hbl,(fun h=>by cases h),fun h=>by cases h⟩;rw[hrh,hrn];refine HRel.grow hh hB hgrown hgB ?_ ?_ ?_ trivial (fun k hk=>hwhere k hk)
    ·intro k o1 hk;cases hs with
     |none=>exact .inl hk
     |some h =>
      simp only[find]at hk;split at hk
      ·rename_i e;cases hk;refine .inr ⟨rfl,?_⟩;rcases jnl hh hss with ⟨h',_,_⟩|⟨k2,h',_,hf⟩
       ·cases h'
       ·cases h';rw[<-e];exact(hh.ok _ _ hf).1
      ·exact .inl hk
    ·intro k o1 g hk hbk hvg;obtain⟨h,ob,rfl,hf,hbo⟩:=hblk g hvg;simp only[find]at hk;split at hk
     ·cases hk;simp[O.blk]at hbk
     ·rename_i hne;obtain⟨o2,h2',_,_,_,_,h7⟩:=jaO hh hk;exact hh.apart h ob k o2 g hf h2' hne hbo (h7 g hbk)
    ·refine⟨us1++us2,?_,fun i' j' hi' hj'=>?_,fun k hk hc=>?_⟩
     ·rw[upd_same,a1,a2,he];exact hown'
     ·rw[a1]at hi';rw[a2]at hj' ⊢;rw[a5];split
      ·rename_i hlt;obtain⟨u,q1,q2⟩:=hat1 i' j' hlt hj';refine⟨u,?_,NC.at_bel q2 (hbl.mono B.sub)⟩;rw[z7 (zB.1 q1).1];exact q1
      ·rename_i hge;obtain⟨u,q1,q2⟩:=hat2 (i' - X1.n) j' (by omega) (by rw[a3];exact hj');refine⟨u,?_,NC.at_bel q2 (hbl.mono B.sub)⟩
       have e2:i' * X1.e+j'=us1.length+((i' - X1.n)*X2.e+j'):=by
        rw[hl1,a3,he,<-qU,<-qo]
        congr 2
        omega
       rw[e2,qa (by omega),gF];exact q1
     ·rw[upd_same]at hk;rcases hwhere k hk with h|h
      ·exact hgB k h hc
      ·have:=hB k hc;omega
def jvx {sh:List NK} {r:List NC} {j:Nat} {x:NC} {k:NK} (hk:sh[j]?=some k) (hx:jbw k x=true):jcx sh (jd2 sh r j x)∧∀m,m<sh.length->(jd2 sh r j x).getD m (.d (.v qe))=if m=j then x else(sh.getD m .b).norm (r.getD m (.d (.v qe))):=by
 have hg:∀m,m<sh.length->(jd2 sh r j x)[m]?=some (if m=j then x else(sh.getD m .b).norm (r.getD m (.d (.v qe)))):=fun m hm=>by
  unfold jd2;rw[zK,List.getElem?_range hm];simp only[zQ,zi]
  by_cases e:m=j
  ·subst e;simp
  ·rw[if_neg e];have:zt m j=false:=by cases hb:zt m j with|false=>rfl|true=>exact absurd (zb hb) e
   rw[this];rfl
 have hnorm:∀(k:NK) (y:NC),jbw k (k.norm y)=true:=fun k y=>by
  cases k<;>simp[NK.norm,jbw]<;>(try (rename_i k;cases k<;>rfl))
  all_goals (rename_i k e;cases k<;>simp[jbN])
 refine⟨⟨by simp[jd2],fun m k' y hm hy=>?_⟩,fun m hm=>by rw[qB,hg m hm];rfl⟩;have hml:=(zB.1 hm).1;rw[hg m hml]at hy;cases hy;split
 ·rename_i e;subst e;rw[hk]at hm;cases hm;exact hx
 ·rw[show sh.getD m .b=k' by simp[za,hm]];exact hnorm k' _
def jun {o:zX} {r:Res} (hh:HRel U B hp nx w) (hB:Old B w) (hr:jav U nx rd a) (h:jdT P o.op rd hp nx=some r) (hob:r.ob) :
  jax P U B nx a w o r (jam sp o.op rd):=by
 unfold jdT at h;split at h
 ·rename_i t l c hop;split at h
  ·rename_i elem k n k' m hu hl hc;split at h
   ·rename_i X0 z b e hX hz hb hs;split at h
    ·rename_i r0 hs0 hcs hzl;cases h;obtain⟨ul,hul,hul'⟩:=zD.1 hl;obtain⟨uc,huc,huc'⟩:=zD.1 hc;simp only[hop,jam];exact jum hh hB hr hop hu hul hul' huc huc' hz hs hb (zb hzl) hcs hob
    ·cases h
   ·cases h
  ·cases h
 ·rename_i t n parts hop;split at h
  ·rename_i elem l hnt hu hl;split at h
   ·rename_i X0 z e hX hz hs;split at h
    ·rename_i rs hs0 hcs hn hzl hXe hle;cases h;simp only[hop,jam,hnt];exact jsl hh hB hr hop hu hl hz hs (zb hzl) (zb hXe) (zb hn) (zj hle) hcs
    ·cases h
   ·cases h
  ·cases h
 ·rename_i t x y hop;split at h
  ·rename_i h0 i e j u hx hy;split at h
   ·rename_i ty X sz hf hs;split at h
    ·rename_i hone hall he hXe he1 hsu;have he:=zb he;subst he;have hXe:=zb hXe;have he1:=zj he1;have hsu:=zb hsu;subst hsu;split at h
     ·rename_i hse;have hse:=zb hse;split at h
      ·rename_i r0 hs0 hj hcs;have hj:=zb hj;subst hj;cases h;obtain⟨c1,c2,c3,c4⟩:=jdn hh hcs;have hput:=X.cell_put c1 hob;simp only[hop,jam];refine jkM hh hB hr hop hx hy hone hall hs hf hob (by omega) c3 ⟨hput.1,hput.2.1⟩ fun B' hp' hh' hle hfr i' j' hi' hj'=>?_;rw[hput.2.2.2 i' j' hj']
       by_cases e:i'=i
       ·subst e;rw[if_pos ⟨rfl,qI _,by omega⟩,if_pos rfl];have hju:j'<u.cells.length:=by omega
        have hjr:j'<r0.length:=by rw[c1.1,hXe];exact hj'
        refine⟨u.cells[j'],by simp[hju],?_⟩;rw[show r0.getD j' (.d (.v qe))=r0[j'] by simp[za,hjr]];exact c4 B' hp' hh' hle hfr j' r0[j'] u.cells[j'] (by simp[hjr]) (by simp[hju])
       ·rw[if_neg (fun h=>e h.1),if_neg e]
      ·cases h
     ·split at h
      ·rename_i c0 k huc hk;split at h
       ·rename_i x0 g0 hc0;cases h;obtain⟨c1,c2,c3⟩:=jmJ hh hc0;have hjl:j<X.e:=by rw[<-X.sh_len];exact(zB.1 hk).1
        have hrow:jcx X.sh (X.row i j x0)∧∀m,m<X.e->(X.row i j x0).getD m (.d (.v qe))=if m=j then x0 else X.cell i m:=by
         cases X with
         |st sh l=>exact jvx hk c1
         |_ =>
          all_goals
           simp only[XC.e]at hjl;obtain rfl:j=0:=by omega
           simp only[XC.sh,qF,zi]at hk;subst hk;refine⟨⟨rfl,fun m k' y hm hy=>?_⟩,fun m hm=>?_⟩
           ·cases m with
            |zero=>simp[XC.sh]at hm;simp[XC.row]at hy;subst hm;subst hy;exact c1
            |succ m=>simp[XC.sh]at hm
           ·simp only[XC.e]at hm;obtain rfl:m=0:=by omega
            rfl
        have hput:=X.cell_put hrow.1 hob;simp only[hop,jam];refine jkM hh hB hr hop hx hy hone hall hs hf hob (by rw[huc];simp;omega) (fun g hg=>?_) ⟨hput.1,hput.2.1⟩ fun B' hp' hh' hle hfr i' j' hi' hj'=>?_
        ·cases g0 with
         |none=>simp at hg
         |some y=>simp at hg;subst hg;exact c2 _ rfl
        ·rw[hput.2.2.2 i' j' hj',huc]
         by_cases e:i'=i
         ·subst e;rw[if_pos rfl,hrow.2 j' hj']
          by_cases e2:j'=j
          ·subst e2;rw[if_pos ⟨rfl,zu _,by simp⟩,if_pos rfl];refine⟨c0,by simp,c3 B' hp' hh' hle fun g hg=>hfr g ?_⟩;rw[hg];simp
          ·rw[if_neg (by simp;omega),if_neg e2]
         ·rw[if_neg (fun h=>e h.1),if_neg e]
       ·cases h
      ·cases h
    ·cases h
   ·cases h
  ·cases h
 ·rename_i c hop;split at h
  ·rename_i s x t t' hcal hargs hts;split at h
   ·rename_i elem htt hu;have htt:=zb htt;subst htt;split at h
    ·rename_i X0 z e b hX hz hs hb;split at h
     ·rename_i hs0 ty X1 hx0 ty' X2 h1 h2;split at h
      ·rename_i X3 h3 hty hty' hzl he1;cases h;obtain⟨us,hus,hus'⟩:=zD.1 h1;obtain⟨ux,hux,hux'⟩:=zD.1 h2;have e1:c.args=#[s,x]:=by apply qy;simpa using hargs
       have e2:c.argTypes=#[t,t]:=by apply qy;simpa using hts
       simp only[hop,jam,hcal];exact jrd hh hB hr hop hcal e1 e2 hu hus hux hX hus' hux' hz hs hb (fun h e=>by subst e;exact zb hty) h3 (zb hzl) (zb he1) hob _ rfl rfl rfl
      ·cases h
     ·cases h
    ·cases h
   ·cases h
  ·cases h
 ·cases h
end
end Go.Sx
end

section
open Go.RowKit
namespace Go.Sx
def jhU:∀{l:List Nat},jfL l=true->l.Nodup
 |[],_=>List.nodup_nil
 |h::r,hd=>by
  simp only[jfL]at hd;split at hd
  ·cases hd
  ·rename_i hc;exact jx.2 ⟨(fun hm=>by rw[List.contains_iff_mem.2 hm]at hc;cases hc),jhU hd⟩
def jdp {hp:Hp} {k:Nat}:∀{hs:List Nat},find (jdm hp hs) k=if k∈hs then some .dead else find hp k
 |[]=>by simp[jdm]
 |h::r=>by
  simp only[jdm,find,jdp (hs:=r),qv]
  by_cases e:h=k
  ·subst e;simp
  ·rw[if_neg e];have:(k=h∨k∈r)<->k∈r:=⟨fun x=>x.resolve_left (fun y=>e y.symm),.inr⟩
   simp only[this]
def jb7 {w w':zx} {ty e n:Nat} {v:zF} {cs:List zF} (h:w.ownsRow 0 ty e v n cs) (hw:∀k,v.ownBlock=some k->w'.heap[k]?=w.heap[k]?):w'.ownsRow 0 ty e v n cs:=by
 refine⟨h.1,?_⟩;rcases h.2 with hn|⟨g,cap,cur,h1,h2,h3,h4⟩
 ·exact .inl hn
 ·exact .inr ⟨g,cap,cur,h1,h2,(hw g (by simp[h1,zL])).trans h3,h4⟩
def jcc {B:Kd} {w w':zx} {g ty:Nat} {v:zF} {x:NC} (h:x.own B w g ty v) (hw:∀k,v.ownBlock=some k->w'.heap[k]?=w.heap[k]?):x.own B w' g ty v:=by
 cases x with
 |d x=>exact h
 |r c=>exact⟨jb7 h.1 hw,h.2⟩
def jeZ {B B':Kd} {w:zx} {g g' ty:Nat} {v:zF} {x:NC} (h:x.own B w g ty v) (hm:∀k,v.ownBlock=some k->B.mu k=some g->B'.mu k=some g'):x.own B' w g' ty v:=by
 cases x with
 |d x=>exact h
 |r c=>exact⟨h.1,fun k hk=>hm k hk (h.2 k hk)⟩
def jcy {B:Kd} {w:zx} {g ty k:Nat} {v:zF} {X:XC} {i j:Nat} (h:(X.cell i j).own B w g ty v) (hk:v.ownBlock=some k):B.mu k=some g:=by
 cases hc:X.cell i j with
 |r c=>rw[hc]at h;exact h.2 k hk
 |d d =>
  rw[hc]at h;have e:v=d.val:=h;subst e;exfalso
  have key:∀x:NC,(match x with | .d (.i _ _) | .d (.b _) | .d (.f _ _) | .d (.s _)=>True | .d _=>False | .r _=>True)->x=.d d->False:=fun x hx e=>by
   subst e;cases d<;>first|exact hx|cases hk
  refine key (X.cell i j) ?_ hc;cases X with
  |st sh l=>simp only[XC.cell];cases sh.getD j .b<;>simp only[NK.norm]
  |_=>trivial
section
variable [Globs] {P:zy} {U:Env} {B:Kd} {nx:Nat} {hp:Hp} {w:zx} {rd:zH->Option V} {a:Act} {sp:jaa}
def jkN {k:NK} {t q:Nat} {x:NC} {g:Option Nat} (h:jch hp k t (.o q)=some (x,g)):g=some q:=by
 simp only[jch]at h;split at h
 ·split at h
  ·cases h;rfl
  ·cases h
 ·cases h
def jgS (hh:HRel U B hp nx w) {k:NK} {t:Nat} {c:C} {x:NC} {g:Option Nat} (h:jch hp k t c=some (x,g)):jbw k x=true ∧
  (∀q,g=some q->c=.o q∧∃t' c',find hp q=some (.row t' c'))∧(∀q,(c.val U).ownBlock=some q->∃h,g=some h∧c=.o h) ∧
  ∀(B':Kd) (go:Nat),(∀q,g=some q->∀b,(U q).ownBlock=some b->B'.mu b=some go)->x.own B' w go t (c.val U):=by
 unfold jch at h;split at h
 ·split at h
  ·rename_i y hy;cases h;have:=jjg hy;refine⟨this.1,(fun _ h=>by cases h),(fun q hq=>by cases hq),fun B' go _=>?_⟩
   have hn:∃c0,x=.r c0∧c0.n=0:=by
    unfold jl9 at hy;split at hy<;>cases hy<;>exact⟨_,rfl,rfl⟩
   obtain⟨c0,rfl,h0⟩:=hn;refine⟨?_,fun q hq=>by cases hq⟩;have hfl:c0.flat=[]:=qk (by rw[Cont.flat_length,h0,qQ]);rw[hfl,h0];exact xt w 0 t c0.e
  ·cases h
 ·rename_i d _;split at h
  ·rename_i hk;cases h;refine⟨hk,(fun _ h=>by cases h),(fun q hq=>?_),fun B' go _=>rfl⟩;unfold jbw at hk;split at hk<;>first|(rename_i e1 e2;cases e2;cases hq)|(rename_i e2;cases e2;done)|skip
   all_goals first|cases hq|cases hk
  ·cases h
 ·rename_i h0;split at h
  ·rename_i ty c0 hf;split at h
   ·rename_i hk ht;have ht:=zb ht;subst ht;cases h;refine⟨hk,fun q e=>?_,fun q hq=>⟨h0,rfl,rfl⟩,fun B' go hm=>?_⟩
    ·cases e;exact⟨rfl,_,_,hf⟩
    ·exact⟨(hh.ok h0 _ hf).2.2.1,fun b hb=>hm h0 rfl b hb⟩
   ·cases h
  ·cases h
 ·cases h
def jcZ (hh:HRel U B hp nx w):∀{sh:List NK} {ts:List Nat} {cs:List C} {r:List NC} {hs:List Nat},jaP hp sh ts cs=some (r,hs) ->
  jcx sh r∧cs.length=sh.length∧(∀q∈hs,C.o q∈cs∧∃t' c',find hp q=some (.row t' c'))∧(∀(j:Nat) (c:C) (q:Nat),cs[j]?=some c->(c.val U).ownBlock=some q->∃h∈hs,c=.o h) ∧
  (hs.Nodup->∀(j j' h:Nat),cs[j]?=some (.o h)->cs[j']?=some (.o h)->h∈hs->j=j') ∧
  ∀(B':Kd) (go:Nat),(∀q∈hs,∀b,(U q).ownBlock=some b->B'.mu b=some go)->∀(j:Nat) (x:NC) (c:C),r[j]?=some x->cs[j]?=some c->x.own B' w go (ts.getD j 0) (c.val U)
 |[],ts,[],r,hs,h=>by
  simp only[jaP,zi,qg]at h;obtain⟨rfl,rfl⟩:=h;exact⟨⟨rfl,fun j k x h=>by simp at h⟩,rfl,(fun _ h=>by cases h),(fun j c q h=>by simp at h),(fun _ j j' h hj=>by simp at hj),fun _ _ _ j x c h=>by simp at h⟩
 |[],ts,c::cs,r,hs,h=>by simp[jaP]at h
 |k::sh,ts,[],r,hs,h=>by simp[jaP]at h
 |k::sh,ts,c::cs,r,hs,h=>by
  simp only[jaP]at h;split at h
  ·rename_i x g l gs hx hl;simp only[zi,qg]at h;obtain⟨rfl,rfl⟩:=h;obtain⟨a1,a2,a3,a4⟩:=jgS hh hx;obtain⟨b1,b2,b3,b4,b5,b6⟩:=jcZ hh hl
   have hmem:∀h,h∈(match g with|some h=>h::gs|none=>gs)<->g=some h∨h∈gs:=fun h=>by
    cases g with
    |none=>simp
    |some y=>simp[eq_comm]
   have hts:∀j,ts.tail.getD j 0=ts.getD (j+1) 0:=fun j=>by cases ts<;>simp[za]
   refine⟨⟨by simp[b1.1],fun j k' x' hj hx'=>?_⟩,by simp[b2],fun q hq=>?_,fun j c' q hj hq=>?_,fun hnd j j' h hj hj' hm=>?_,fun B' go hm j x' c' hj hc=>?_⟩
   ·cases j with
    |zero=>simp at hj hx';subst hj;subst hx';exact a1
    |succ j=>exact b1.2 j k' x' (by simpa using hj) (by simpa using hx')
   ·rcases(hmem q).1 hq with e|e
    ·have:=a2 q e;exact⟨by rw[this.1];exact zV,this.2⟩
    ·exact⟨zR _ (b3 q e).1,(b3 q e).2⟩
   ·cases j with
    |zero =>
     simp at hj;subst hj;obtain⟨h,e1,e2⟩:=a3 q hq;exact⟨h,(hmem h).2 (.inl e1),e2⟩
    |succ j =>
     obtain⟨h,e1,e2⟩:=b4 j c' q (by simpa using hj) hq;exact⟨h,(hmem h).2 (.inr e1),e2⟩
   ·-- positions
    have hnd2:gs.Nodup:=by
     cases g with
     |none=>exact hnd
     |some y=>exact(jx.1 hnd).2
    have head_in:∀{cs':List C} {q:Nat},c=.o q->g=some q:=fun e=>by
     subst e;exact jkN hx
    have tail_in:∀{sh:List NK} {ts:List Nat} {cs:List C} {r:List NC} {hs:List Nat},jaP hp sh ts cs=some (r,hs)->∀(j q:Nat),cs[j]?=some (.o q)->q∈hs:=by
     intro sh
     induction sh with
     |nil=>intro ts cs r hs h j q hj;cases cs with
      |nil=>simp at hj
      |cons=>simp[jaP]at h
     |cons k sh ih =>
      intro ts cs r hs h j q hj;cases cs with
      |nil=>simp at hj
      |cons c cs =>
       simp only[jaP]at h;split at h
       ·rename_i x g l gs hx hl;simp only[zi,qg]at h;obtain⟨rfl,rfl⟩:=h;cases j with
        |zero =>
         simp at hj;subst hj;rw[jkN hx];simp
        |succ j =>
         have:=ih hl j q (by simpa using hj);cases g with
         |none=>exact this
         |some y=>exact zR _ this
       ·cases h
    cases j with
    |zero =>
     cases j' with
     |zero=>rfl
     |succ j' =>
      simp at hj hj';have e1:=head_in (cs':=[]) hj;have e2:=tail_in hl j' h hj';subst e1;exact absurd e2 (jx.1 hnd).1
    |succ j =>
     cases j' with
     |zero =>
      simp at hj hj';have e1:=head_in (cs':=[]) hj';have e2:=tail_in hl j h hj;subst e1;exact absurd e2 (jx.1 hnd).1
     |succ j' =>
      simp at hj hj';rw[b5 hnd2 j j' h hj hj' (tail_in hl j h hj)]
   ·cases j with
    |zero =>
     simp at hj hc;subst hj;subst hc;have:=a4 B' go fun q e=>hm q ((hmem q).2 (.inl e))
     rwa [show ts.headD 0=ts.getD 0 0 by cases ts<;>rfl]at this
    |succ j =>
     have:=b6 B' go (fun q e=>hm q ((hmem q).2 (.inr e))) j x' c' (by simpa using hj) (by simpa using hc)
     rwa [hts]at this
  ·cases h
def jwg (hh:HRel U B hp nx w) {hs:List Nat} (hr:∀h∈hs,∃t c,find hp h=some (.row t c)) (go:Nat) :
  ∃B',Grow B B' false w w∧B.LeM B'∧HRel U B' (jdm hp hs) nx w∧(∀h∈hs,∀k,(U h).ownBlock=some k->B'.mu k=some go)∧(∀k,B'.all k->B.all k∨∃h∈hs,(U h).ownBlock=some k)∧∀k,B'.kp k<->B.kp k:=by
 have hout:∀h∈hs,∀k,(U h).ownBlock=some k->¬B.all k∧k<w.heap.size:=fun h hm k hk=>by
  obtain⟨t,c,hf⟩:=hr h hm;have:=O.blk_lt (hh.ok h _ hf).2.2 (show(O.row t c).blk (U h)=some k from hk);exact⟨this.2,this.1⟩
 have dec:∀k,Decidable (∃h∈hs,(U h).ownBlock=some k):=fun k=>jC _
 let B':Kd:=⟨B.kp,B.fr,fun k=>@ite _ (∃h∈hs,(U h).ownBlock=some k) (dec k) (some go) (B.mu k),B.sub,fun k hk=>by
  show(if ∃h∈hs,(U h).ownBlock=some k then some go else B.mu k)=none
  rw[if_neg (fun⟨h,hm,hb⟩=>(hout h hm k hb).1 (.inl hk))];exact B.dis k hk⟩
 have hmu:∀k,B'.mu k=if ∃h∈hs,(U h).ownBlock=some k then some go else B.mu k:=fun k=>rfl
 have hlm:B.LeM B':=fun k g hk=>by
  rw[hmu,if_neg (fun⟨h,hm,hb⟩=>(hout h hm k hb).1 (.inr (by rw[hk];simp)))];exact hk
 have hle:B.Le B':=⟨fun _ h=>h,fun _ h=>h⟩
 have hall:∀k,B'.all k->B.all k∨∃h∈hs,(U h).ownBlock=some k:=fun k hk=>by
  rcases hk with hk|hk
  ·exact .inl (.inl hk)
  ·rw[hmu]at hk;split at hk
   ·rename_i h;exact .inr h
   ·exact .inl (.inr hk)
 refine⟨B',⟨hle,fun k hk=>(hall k hk).imp id fun⟨h,hm,hb⟩=>(hout h hm k hb).2,fun k hk=>.inl hk,fun h=>by cases h⟩,hlm,⟨fun k o hk=>?_,fun k o k' o' b hk hk' hne hb hb'=>?_,hh.glob⟩,fun h hm k hb=>by rw[hmu,if_pos ⟨h,hm,hb⟩],hall,fun k=>ke⟩
 ·rw[jdp]at hk;split at hk
  ·rename_i hm;cases hk;obtain⟨t,c,hf⟩:=hr k hm;exact⟨(hh.ok k _ hf).1,trivial,trivial⟩
  ·rename_i hm;have h1:=hh.ok k o hk;refine⟨h1.1,h1.2.1,O.ok_moreB hle hlm h1.2.2 fun b hb hB=>?_⟩;rcases hall b hB with h2|⟨h,hm2,h2⟩
   ·exact(O.blk_lt h1.2.2 hb).2 h2
   ·obtain⟨t,c,hf⟩:=hr h hm2;exact hh.apart h _ k o b hf hk (fun e=>hm (e ▸ hm2)) (show(O.row t c).blk (U h)=some b from h2) hb
 ·rw[jdp]at hk hk';split at hk
  ·cases hk;cases hb
  ·split at hk'
   ·cases hk';cases hb'
   ·exact hh.apart k o k' o' b hk hk' hne hb hb'
def jos (hh:HRel U B hp nx w) {h h' k:Nat} {t t':Nat} {c c':Cont} (hf:find hp h=some (.row t c)) (hf':find hp h'=some (.row t' c')) (hne:h≠h') (hk:(U h).ownBlock=some k):(U h').ownBlock≠some k :=
 hh.apart h _ h' _ k hf hf' hne hk
def jx6 {h i j ty:Nat} {ts:List Nat} {X:XC} {c:Cont} (hok:(O.mrow ty ts X none).ok U B w h) (hi:i<X.n) (hj:j<X.e) (hc:X.cell i j=.r c) (hlt:h<nx) :
  ∃u,w.cell? ⟨(base (U h)).block,(base (U h)).off+(i*X.e+j),none⟩=some u∧(O.sub h i X.e j (ts.getD j 0) c).ok (upd U nx u) B w nx:=by
 obtain⟨us,hr,hat,hd,hk⟩:=hok;rcases hr.2 with ⟨h1,hn⟩|⟨g,cap,cur,h1,h2,h3,h4,h5,h6,h7⟩
 ·omega
 ·obtain⟨u,hu,hux⟩:=hat i j hi hj (by simp);rw[hc]at hux
  have hcell:w.cell? ⟨(base (U h)).block,(base (U h)).off+(i*X.e+j),none⟩=some u:=by
   rw[h1];simp only[base,zP];rw[xj w g _ cur ty (0,0) h3];have h2:(cur.toList.take (X.n*X.e))[i*X.e+j]?=some u:=by rw[h7,hu]
   rw[z6]at h2;split at h2
   ·simpa using h2
   ·cases h2
  have hne:upd U nx u h=U h:=jal U nx u h hlt;refine⟨u,hcell,?_⟩;unfold O.ok;simp only;rw[upd_same,hne];exact⟨hux.1,hj,⟨_,_,_,h1,hi⟩,hcell,hux.2⟩
def jsm {o:zX} {t h i e j ty:Nat} {ts:List Nat} {x:zH} {X:XC} {c:Cont} (hh:HRel U B hp nx w) (hB:Old B w) (hr:jav U nx rd a) (ho:o.op=.load t x) (hx:rd x=some (.w (.c (.p h i e j)))) (hf:find hp h=some (.mrow ty ts X none))
  (he:e=X.e) (hag:jbj P t=some false) (hj:j<X.e) (hc:X.cell i j=.r c) (hob:i<X.n) :
  jax P U B nx a w o ⟨i<X.n,.w (.c (.o nx)),(nx,.sub h i X.e j (ts.getD j 0) c)::hp,nx+1⟩ true:=by
 subst he;have hlt:=(hh.ok h _ hf).1;obtain⟨u,hu,hok⟩:=jx6 (nx:=nx) (hh.ok h _ hf).2.2 hob hj hc hlt;refine jak (U':=upd U nx u) (w':=w) ?_ (jcQ hh hB u (.sub h i X.e j (ts.getD j 0) c) rfl rfl (show V.lt (nx+1) (.w (.c (.o nx)))from zo nx) true (yI hlt) hok rfl);unfold qr;have hlv:=jaV (P:=P) w hag hu;simp[ho,(hr _ _ hx).2,C.val,yE,qA,hlv,V.val,W.val]
def jkO {h i ty:Nat} {ts:List Nat} {X:XC} (hB:Old B w) (hi:i<X.n):∀(l:List NC) (us:List zF) (j nx:Nat) (hp:Hp) (U:Env),HRel U B hp nx w->h<nx->(O.mrow ty ts X none).ok U B w h->l.length=us.length->j+l.length=X.e ->
  (∀(m:Nat) (x:NC),l[m]?=some x->x=X.cell i (j+m))->(∀(m:Nat) (u:zF),us[m]?=some u->w.cell? ⟨(base (U h)).block,(base (U h)).off+(i*X.e+(j+m)),none⟩=some u∧∀d,X.cell i (j+m)=.d d->u=d.val) ->
  ∃U',jae nx U U'∧(jcI h i X.e ts j l nx hp).1.map (C.val U')=us∧(∀c∈(jcI h i X.e ts j l nx hp).1,C.lt (jcI h i X.e ts j l nx hp).2.2 c)∧nx<=(jcI h i X.e ts j l nx hp).2.2∧HRel U' B (jcI h i X.e ts j l nx hp).2.1 (jcI h i X.e ts j l nx hp).2.2 w ∧
   (∀q o k,nx<=q->find (jcI h i X.e ts j l nx hp).2.1 q=some o->o.blk (U' q)≠some k)∧∀q,q<nx->find (jcI h i X.e ts j l nx hp).2.1 q=find hp q
 |[],us,j,nx,hp,U,hh,_,_,hl,_,_,_=>by
  have:us=[]:=qk hl.symm;subst this;exact⟨U,jae.refl _ _,rfl,(fun c hc=>by cases hc),zu _,hh,(fun h o k hn hf=>by have:=(hh.ok h o hf).1;omega),fun _ _=>rfl⟩
 |x::l,[],j,nx,hp,U,_,_,_,hl,_,_,_=>by simp at hl
 |x::l,u::us,j,nx,hp,U,hh,hlt,hok,hl,hje,hx,hu=>by
  have hx0:=hx 0 x rfl;have hu0:=hu 0 u rfl;have hj:j<X.e:=by simp at hje;omega
  have hx2:∀(m:Nat) (y:NC),l[m]?=some y->y=X.cell i (j+1+m):=fun m y hy=>by
   have:=hx (m+1) y (by simpa using hy)
   rwa [show j+(m+1)=j+1+m by omega]at this
  have hu2:∀(m:Nat) (v:zF),us[m]?=some v->w.cell? ⟨(base (U h)).block,(base (U h)).off+(i*X.e+(j+1+m)),none⟩=some v∧∀d,X.cell i (j+1+m)=.d d->v=d.val:=fun m v hv=>by
   have:=hu (m+1) v (by simpa using hv)
   rwa [show j+(m+1)=j+1+m by omega]at this
  cases x with
  |d y =>
   obtain⟨U',hag,hm,hlt',hle,hh',hb,hfd⟩:=jkO hB hi l us (j+1) nx hp U hh hlt hok (by simpa using hl) (by simp at hje;omega) hx2 hu2;refine⟨U',hag,?_,?_,hle,hh',hb,hfd⟩
   ·have:u=y.val:=hu0.2 y (by rw[qY]at hx0 ⊢;exact hx0.symm);simp only[jcI,zM,hm,C.val,this]
   ·intro c hc;simp only[jcI,qv]at hc;rcases hc with rfl|hc
    ·trivial
    ·exact hlt' c hc
  |r c =>
   obtain⟨u',hu',hsub⟩:=jx6 (nx:=nx) hok hi hj (by rw[qY]at hx0;exact hx0.symm) hlt;rw[qY]at hu0;rw[hu0.1]at hu';cases hu';have hh1:HRel (upd U nx u) B ((nx,.sub h i X.e j (ts.getD j 0) c)::hp) (nx+1) w:=hh.add (qO _ w) hB (jal _ _ _) (yI hlt) hsub (fun k hk=>by cases hk);have hUh:upd U nx u h=U h:=jal U nx u h hlt;obtain⟨U',hag,hm,hlt',hle,hh',hb,hfd⟩:=jkO hB hi l us (j+1) (nx+1) _ _ hh1 (yI hlt) (by unfold O.ok at hok ⊢;rw[hUh];exact hok) (by simpa using hl) (by simp at hje;omega) hx2 (by rw[hUh];exact hu2);have hag2:jae nx U U':=(jal U nx u).trans hag (qt nx);refine⟨U',hag2,?_,?_,fA hle,hh',fun q o k hn hf hk=>?_,fun q hq=>?_⟩
   ·simp only[jcI,zM,hm,C.val];rw[hag nx (zo nx),upd_same]
   ·intro d hd;simp only[jcI,qv]at hd;rcases hd with rfl|hd
    ·exact hle
    ·exact hlt' d hd
   ·by_cases e:q=nx
    ·subst e;have hf2:find (jcI h i X.e ts (j+1) l (q+1) ((q,.sub h i X.e j (ts.getD j 0) c)::hp)).2.1 q=some o:=hf;rw[hfd q (zo q)]at hf2;simp only[find,if_true,zi]at hf2;subst hf2;cases hk
    ·exact hb q o k (by omega) hf hk
   ·simp only[jcI];rw[hfd q (by omega)];simp only[find];rw[if_neg (by omega)]
def jsn {o:zX} {t h i e sz ty:Nat} {ts:List Nat} {x:zH} {X:XC} (hh:HRel U B hp nx w) (hB:Old B w) (hr:jav U nx rd a) (ho:o.op=.load t x) (hx:rd x=some (.w (.c (.p h i e 0)))) (hf:find hp h=some (.mrow ty ts X none))
  (he:e=X.e) (hag:jbj P t=some true) (hs:szT P t=some sz) (hsz:sz=X.e) (hob:i<X.n) :
  jax P U B nx a w o ⟨i<X.n,.w (.a (jcI h i X.e ts 0 ((zG X.e).map fun m=>X.cell i m) nx hp).1),(jcI h i X.e ts 0 ((zG X.e).map fun m=>X.cell i m) nx hp).2.1,(jcI h i X.e ts 0 ((zG X.e).map fun m=>X.cell i m) nx hp).2.2⟩ true:=by
 subst he;subst hsz;have hok:=hh.ok h _ hf;obtain⟨us0,hown,hat,_⟩:=hok.2.2
 obtain⟨b,cap,hv,hcells⟩:∃g cap,U h=.slice (some ⟨g,0,none⟩) X.n cap∧∀j,j<X.e->∃u,w.cell? ⟨g,i*X.e+j,none⟩=some u∧∀d,X.cell i j=.d d->u=d.val:=by
  rcases hown.2 with ⟨h1,hn⟩|⟨g,cap,cur,h1,h2,h3,h4,h5,h6,h7⟩
  ·omega
  ·refine⟨g,cap,h1,fun j hj=>?_⟩;obtain⟨u,hu,hux⟩:=hat i j hob hj (by simp);refine⟨u,?_,fun d hd=>by rw[hd]at hux;exact hux⟩;rw[xj w g _ cur ty (0,0) h3];have h2:(cur.toList.take (X.n*X.e))[i*X.e+j]?=some u:=by rw[h7,hu]
   rw[z6]at h2;split at h2
   ·simpa using h2
   ·cases h2
 obtain⟨us,hul,hus⟩:∃us:List zF,us.length=X.e∧∀j,j<X.e->∃u,us[j]?=some u∧w.cell? ⟨b,i*X.e+j,none⟩=some u∧∀d,X.cell i j=.d d->u=d.val:=by
  refine⟨(zG X.e).map fun j=>(w.cell? ⟨b,i*X.e+j,none⟩).getD qe,by simp,fun j hj=>?_⟩;obtain⟨u,hu,hux⟩:=hcells j hj;exact⟨u,by simp[hj,hu],hu,hux⟩
 have hbase:base (U h)=⟨b,0,none⟩:=by rw[hv];rfl
 obtain⟨U',hag2,hm,hlt,hle,hh',hb,_⟩:=jkO (w:=w) hB hob ((zG X.e).map fun m=>X.cell i m) us 0 nx hp U hh hok.1 hok.2.2 (by simp[hul]) (by simp) (fun m x hm=>by
  have hml:m<X.e:=by have:=(zB.1 hm).1;simpa using this
  simp[hml]at hm;rw[zP];exact hm.symm) (fun m u hu=>by
  have hml:m<X.e:=by rw[<-hul];exact(zB.1 hu).1
  obtain⟨u',hu',h2,h3⟩:=hus m hml;rw[hu]at hu';cases hu';rw[hbase,zP,zP];exact⟨h2,h3⟩)
 refine jak (U':=U') (w':=w) ?_ ⟨hag2,hlt,hle,hh'.gr,Bel.refl _ _,fun _=>qO _ _,fun _ h' o' k hn hf' hk=>absurd hk (hb h' o' k hn hf')⟩;unfold qr
 have hlv:=jby (P:=P) w (a:=⟨b,i*X.e,none⟩) (cs:=us) hag (by rw[hul];exact hs) (fun j v hj=>by
  have hjl:j<X.e:=by rw[<-hul];exact(zB.1 hj).1
  obtain⟨u',hu',hcell,_⟩:=hus j hjl;rw[hj]at hu';cases hu';rw[jaL];exact hcell)
 simp[ho,(hr _ _ hx).2,C.val,hv,base,yE,qA,hlv,V.val,W.val,hm]
end
end Go.Sx
end

section
open Go.RowKit
namespace Go.Sx
section
variable [Globs] {P:zy} {U:Env} {B:Kd} {nx:Nat} {hp:Hp} {w:zx} {rd:zH->Option V} {a:Act} {sp:jaa}
def XC.row_spec (X:XC) {i j:Nat} {k:NK} {x:NC} (hk:X.sh[j]?=some k) (c1:jbw k x=true):jcx X.sh (X.row i j x)∧∀m,m<X.e->(X.row i j x).getD m (.d (.v qe))=if m=j then x else X.cell i m:=by
 have hjl:j<X.e:=by rw[<-X.sh_len];exact(zB.1 hk).1
 cases X with
 |st sh l=>exact jvx hk c1
 |_ =>
  all_goals
   simp only[XC.e]at hjl;obtain rfl:j=0:=by omega
   simp only[XC.sh,qF,zi]at hk;subst hk;refine⟨⟨rfl,fun m k' y hm hy=>?_⟩,fun m hm=>?_⟩
   ·cases m with
    |zero=>simp[XC.sh]at hm;simp[XC.row]at hy;subst hm;subst hy;exact c1
    |succ m=>simp[XC.sh]at hm
   ·simp only[XC.e]at hm;obtain rfl:m=0:=by omega
    rfl
def jvy {i j i' j' e:Nat} (hj:j<e) (hj':j'<e) (h:i*e+j=i' * e+j'):i=i'∧j=j':=by
 have h1:i=i':=by
  rcases gv i i' with h3|h3|h3
  ·have:(i+1)*e<=i' * e:=zW _ h3;rw[qo]at this;omega
  ·exact h3
  ·have:(i' + 1)*e<=i*e:=zW _ h3;rw[qo]at this;omega
 subst h1;exact⟨rfl,by omega⟩
def jkP {o:zX} {t h i j ty:Nat} {ts ts1:List Nat} {x y:zH} {u:W} {X X':XC} {ho:Option (Nat × Nat)} {sh1:List NK} {r:List NC} {hs:List Nat} {q:Prop} (hh:HRel U B hp nx w) (hr:jav U nx rd a) (hop:o.op=.store t x y)
  (hx:rd x=some (.w (.c (.p h i X.e j)))) (hy:rd y=some (.w u)) (hone:u.one hp=true) (hall:(u.cells.all fun c=>c.one hp)=true) (hs1:szT P t=some u.cells.length) (hf:find hp h=some (.mrow ty ts X ho)) (hi:i<X.n)
  (hjl:j+u.cells.length<=X.e) (hco:jaP hp sh1 ts1 u.cells=some (r,hs)) (hnd:jfL hs=true) (hts:∀m,m<u.cells.length->ts1.getD m 0=ts.getD (j+m) 0) (hX:X'.n=X.n∧X'.e=X.e)
  (hcell:∀i' j',j'<X.e->X'.cell i' j'=if i'=i∧j<=j'∧j'<j+u.cells.length then r.getD (j' - j) (.d (.v qe))else X.cell i' j')
  (hho:∀i0 j0,ho=some (i0,j0)->i0=i∧j<=j0∧j0<j+u.cells.length) :
  jax P U B nx a w o ⟨q,vu,(h,.mrow ty ts X' none)::jdm (jah hp) hs,nx⟩ false:=by
 have h1:=hr _ _ hx;have h2:=hr _ _ hy;obtain⟨hlt,hol,us,⟨hlen,hcase⟩,hat,hd,hBk⟩:=hh.ok h _ hf;rcases hcase with ⟨_,hn⟩|⟨g,cap,cur,hk,_,hheap,hncap,hcapm,hcsz,htk⟩
 ·omega
 have hbase:(base (U h)).block=g:=by rw[hk];rfl
 rw[hbase]at hat;obtain⟨c1,c2,c3,c4,c5,c6⟩:=jcZ hh hco;have c5:=c5 (jhU hnd)
 have hvf:∀q∈hs,∃t c,find (jah hp) q=some (.row t c):=fun q hq=>by
  obtain⟨t',c',h3⟩:=(c3 q hq).2;exact⟨t',c',by rw[jaz,h3];rfl⟩
 obtain⟨B',gr,hlm,hh',htag,hallB,hkp⟩:=jwg (jgR hh) hvf g
 have hhs:h∉hs:=fun hm=>by
  obtain⟨t',c',h3⟩:=(c3 h hm).2;rw[hf]at h3;cases h3
 have hf':find (jdm (jah hp) hs) h=some (.mrow ty ts X ho):=by rw[jdp,if_neg hhs,jaz,hf];rfl
 have hB'g:¬B'.all g:=by
  obtain⟨_,_,_,_,h9⟩:=(hh'.ok h _ hf').2.2;exact h9 g (by rw[hk];rfl)
 have hc:=W.cells_val hh hone;have hvs:(u.val U).cells.size=u.cells.length:=by rw[hc];simp
 have hin:i*X.e+j+u.cells.length<=X.n*X.e:=by
  have:(i+1)*X.e<=X.n*X.e:=zW _ hi;rw[qo]at this;omega
 have hcapsz:X.n*X.e<=cap*X.e:=zW _ hncap;have hst:=jbB (P:=P) (t:=t) (g:=g) (off:=i*X.e+j) (v:=u.val U) (by rw[hvs];exact hs1) hheap (by rw[hvs,hcsz];omega) (by rw[hc];exact jcv hh hall);obtain⟨w',hw'⟩:∃w',w'=w.setRow g ((cur.toList.take (i*X.e+j)++(u.val U).cells.toList++cur.toList.drop (i*X.e+j+(u.val U).cells.size)).toArray):=⟨_,rfl⟩
 rw[<-hw']at hst;refine jbR (U':=U) (w':=w') ?_ rfl ?_
 ·unfold qr;have h1v:a.eval x=.pointer (some ⟨g,i*X.e+j,none⟩):=by rw[h1.2];simp[C.val,hk,base]
  have h2v:a.eval y=u.val U:=h2.2;simp only[hop,h1v,h2v,yh,qA,zn,zp,zh,hst]
 ·have hbel:Bel B' w w':=by rw[hw'];exact jbX hB'g
  have hsize:w'.heap.size=w.heap.size:=by rw[hw'];simp
  refine⟨jae.refl _ _,trivial,zu _,⟨B',gr.later (by omega),?_⟩,hbel.mono gr.le.kp,(fun h=>by cases h),fun h=>by cases h⟩;have hoth:∀k,k≠g->w'.heap[k]?=w.heap[k]?:=fun k hne=>by rw[hw'];exact yg w g k _ hne
  have hul:us.length=X.n*X.e:=hlen;have hvl:(u.val U).cells.toList=u.cells.map (C.val U):=by rw[hc]
  have htake:(cur.toList.take (i*X.e+j)++(u.val U).cells.toList++cur.toList.drop (i*X.e+j+(u.val U).cells.size)).take (X.n*X.e)=us.take (i*X.e+j)++u.cells.map (C.val U)++us.drop (i*X.e+j+(u.cells.map (C.val U)).length):=by
   rw[hvl,hvs];apply xg;intro t;have hcl:cur.toList.length=cap*X.e:=by simp[hcsz]
   have s1:=jb6 (us:=cur.toList) (vs:=u.cells.map (C.val U)) (off:=i*X.e+j) (t:=t) (by simp only[qG];omega);have s2:=jb6 (us:=us) (vs:=u.cells.map (C.val U)) (off:=i*X.e+j) (t:=t) (by simp only[qG];omega);simp only[qG]at s1 s2 ⊢;rw[z6,s1,s2]
   by_cases ht:t<X.n*X.e
   ·rw[if_pos ht];have:us[t]?=cur.toList[t]?:=by rw[<-htk,z6,if_pos ht]
    rw[this]
   ·rw[if_neg ht,if_neg (by omega)];exact(z9 (by omega)).symm
  have hiff:∀i' j',j'<X.e->((i*X.e+j<=i' * X.e+j'∧i' * X.e+j'<i*X.e+j+u.cells.length)<->(i'=i∧j<=j'∧j'<j+u.cells.length)):=fun i' j' hj'=>by
   constructor
   ·rintro ⟨a1,a2⟩
    have:i'=i:=by
     rcases gv i' i with h3|h3|h3
     ·have:(i' + 1)*X.e<=i*X.e:=zW _ h3;rw[qo]at this;omega
     ·exact h3
     ·have:(i+1)*X.e<=i' * X.e:=zW _ h3;rw[qo]at this;omega
    subst this;exact⟨rfl,by omega,by omega⟩
   ·rintro ⟨rfl,a1,a2⟩;exact⟨by omega,by omega⟩
  have hget:∀i' j',j'<X.e->(us.take (i*X.e+j)++u.cells.map (C.val U)++us.drop (i*X.e+j+(u.cells.map (C.val U)).length))[i' * X.e+j']? =
    if i'=i∧j<=j'∧j'<j+u.cells.length then(u.cells[j' - j]?).map (C.val U)else us[i' * X.e+j']?:=fun i' j' hj'=>by
   have s2:=jb6 (us:=us) (vs:=u.cells.map (C.val U)) (off:=i*X.e+j) (t:=i' * X.e+j') (by simp only[qG];omega);simp only[qG]at s2 ⊢;rw[s2]
   by_cases hin2:i'=i∧j<=j'∧j'<j+u.cells.length
   ·rw[if_pos ((hiff i' j' hj').2 hin2),if_pos hin2,zK];obtain⟨rfl,_,_⟩:=hin2;rw[show i' * X.e+j' - (i' * X.e+j)=j' - j by omega]
   ·rw[if_neg (fun h=>hin2 ((hiff i' j' hj').1 h)),if_neg hin2]
  have hnew:∀(j':Nat) (k:Nat),(∃v,(u.cells[j' - j]?).map (C.val U)=some v∧v.ownBlock=some k)->∃q∈hs,u.cells[j' - j]?=some (.o q)∧(U q).ownBlock=some k:=fun j' k ⟨v,hv,hk'⟩=>by
   obtain⟨c,hc1,rfl⟩:=z5.1 hv;obtain⟨q,hq,rfl⟩:=c4 _ c k hc1 hk';exact⟨q,hq,hc1,hk'⟩
  have hrowout:∀q∈hs,∀k,(U q).ownBlock=some k->¬B.all k:=fun q hq k hk'=>by
   obtain⟨t',c',h3⟩:=(c3 q hq).2;exact(O.blk_lt (hh.ok q _ h3).2.2 (show(O.row t' c').blk (U q)=some k from hk')).2
  have hhole:∀i' j',¬(i'=i∧j<=j'∧j'<j+u.cells.length)->ho≠some (i',j'):=fun i' j' hn e=>hn (hho i' j' e);refine HRel.write (o':=.mrow ty ts X' none) hh' hf' (g:=g) (by simp[O.blk,hk,zL]) (fun k _ hne=>hoth k hne) ?_ trivial (by simp[O.blk,hk,zL]) |>.sub fun k o1 hk1=>?_
  ·refine⟨us.take (i*X.e+j)++u.cells.map (C.val U)++us.drop (i*X.e+j+(u.cells.map (C.val U)).length),⟨?_,.inr ⟨g,cap,_,by rw[hX.1];exact hk,qI _,by rw[hw'];exact yT w g _ _ ty (0,0) hheap,by rw[hX.1];exact hncap,hcapm,?_,by rw[hX.1,hX.2];exact htake⟩⟩,fun i' j' hi' hj' _=>?_,fun i1 j1 i2 j2 v1 v2 k hi1 hj1 hi2 hj2 hne _ _ hg1 hg2 hk1 hk2=>?_,fun k hk2=>?_⟩
   ·simp only[hX.1,hX.2,qb,qP,xf,qG];omega
   ·simp only[hX.2,xE,qb,qP,xf,yr,hvs];omega
   ·rw[hX.1]at hi';rw[hX.2]at hj' ⊢;rw[hbase,hget i' j' hj',hcell i' j' hj']
    by_cases hin2:i'=i∧j<=j'∧j'<j+u.cells.length
    ·rw[if_pos hin2,if_pos hin2];obtain⟨rfl,a1,a2⟩:=hin2;have hju:j' - j<u.cells.length:=by omega
     have hjr:j' - j<r.length:=by rw[c1.1,<-c2];exact hju
     have hown:=c6 B' g htag (j' - j) r[j' - j] u.cells[j' - j] (by simp[hjr]) (by simp[hju]);refine⟨(u.cells[j' - j]).val U,by simp[hju],?_⟩;rw[show r.getD (j' - j) (.d (.v qe))=r[j' - j] by simp[za,hjr]];rw[hts _ hju,show j+(j' - j)=j' by omega]at hown;refine jcc hown fun k hk'=>hoth k fun e=>?_;obtain⟨q,hq,hcq⟩:=c4 (j' - j) u.cells[j' - j] k (by simp[hju]) hk';rw[hcq]at hk';exact hB'g (.inr (by rw[<-e,htag q hq k hk'];simp))
    ·rw[if_neg hin2,if_neg hin2];obtain⟨v,hv,hvx⟩:=hat i' j' hi' hj' (hhole i' j' hin2);refine⟨v,hv,jcc (jeZ hvx fun k _ hm=>hlm k g hm) fun k hk'=>hoth k fun e=>?_⟩;have:=jcy hvx hk';exact hB'g (.inr (by rw[<-e,hlm k g this];simp))
   ·rw[hX.1]at hi1 hi2;rw[hX.2]at hj1 hj2 hg1 hg2;rw[hget i1 j1 hj1]at hg1;rw[hget i2 j2 hj2]at hg2
    by_cases hin1:i1=i∧j<=j1∧j1<j+u.cells.length
    ·rw[if_pos hin1]at hg1;obtain⟨q1,hq1,hc1,hb1⟩:=hnew j1 k ⟨v1,hg1,hk1⟩
     by_cases hin2:i2=i∧j<=j2∧j2<j+u.cells.length
     ·rw[if_pos hin2]at hg2;obtain⟨q2,hq2,hc2,hb2⟩:=hnew j2 k ⟨v2,hg2,hk2⟩
      by_cases e:q1=q2
      ·subst e;have:=c5 _ _ q1 hc1 hc2 hq1;exact hne (by rw[hin1.1,hin2.1];congr 1;omega)
      ·obtain⟨t1,d1,h3⟩:=(c3 q1 hq1).2;obtain⟨t2,d2,h4⟩:=(c3 q2 hq2).2;exact jos hh h3 h4 e hb1 hb2
     ·rw[if_neg hin2]at hg2;obtain⟨v,hv,hvx⟩:=hat i2 j2 hi2 hj2 (hhole i2 j2 hin2);rw[hv]at hg2;cases hg2;exact hrowout q1 hq1 k hb1 (.inr (by rw[jcy hvx hk2];simp))
    ·rw[if_neg hin1]at hg1
     by_cases hin2:i2=i∧j<=j2∧j2<j+u.cells.length
     ·rw[if_pos hin2]at hg2;obtain⟨q2,hq2,hc2,hb2⟩:=hnew j2 k ⟨v2,hg2,hk2⟩;obtain⟨v,hv,hvx⟩:=hat i1 j1 hi1 hj1 (hhole i1 j1 hin1);rw[hv]at hg1;cases hg1;exact hrowout q2 hq2 k hb2 (.inr (by rw[jcy hvx hk1];simp))
     ·rw[if_neg hin2]at hg2;exact hd i1 j1 i2 j2 v1 v2 k hi1 hj1 hi2 hj2 hne (hhole i1 j1 hin1) (hhole i2 j2 hin2) hg1 hg2 hk1 hk2
   ·obtain⟨_,_,_,_,h9⟩:=(hh'.ok h _ hf').2.2;exact h9 k hk2
  ·simp only[find]at hk1 ⊢;split at hk1
   ·rename_i e;rw[if_pos e];exact hk1
   ·rename_i e;rw[if_neg e,jaz,hk1];rw[jdp]at hk1;split at hk1
    ·cases hk1;rfl
    ·rw[jaz]at hk1;cases hfk:find hp k with
     |none=>simp[hfk]at hk1
     |some ok =>
      simp only[hfk,zQ,zi]at hk1;subst hk1;cases ok<;>rfl
def O.ok_in {h g g1:Nat} {w':zx} (hw:∀k,k≠g1->w'.heap[k]?=w.heap[k]?) (hg:B.mu g1=some g):∀{o:O},o.ok U B w h->o.blk (U h)≠some g->o.isV=false->o.ok U B w' h:=by
 intro o hok hb hv;have hall:∀k,¬B.all k->k≠g1:=fun k hk e=>hk (.inr (by rw[e,hg];simp));have hkpn:∀k,B.kp k->k≠g1:=fun k hk e=>by rw[e]at hk;rw[B.dis g1 hk]at hg;cases hg
 have hrow:∀{v:zF} {c:Cont},jaJ w v c->jbW B.kp v->jaJ w' v c:=fun hr ho=>by
  obtain⟨a',cap,h1,h2,h3⟩:=hr;refine⟨a',cap,h1,h2,fun hn=>?_⟩;obtain⟨b,off,hab,hx⟩:=h3 hn;subst hab;exact⟨b,off,rfl,fun j x hj=>(qp (w:=w) (hw b (hkpn b (ho _ _ _ h1 hn)))).trans (hx j x hj)⟩
 have hatm:∀{v:zF} {x:NC},x.at B.kp w v->x.at B.kp w' v:=fun {v x} h=>by
  cases x with
  |d x=>exact h
  |r c=>exact⟨hrow h.1 h.2,h.2⟩
 cases o with
 |view=>cases hv
 |sub=>cases hv
 |lview=>cases hv
 |elist e n cs =>
  obtain⟨h1,h2,h3,h4⟩:=hok;refine⟨h1,h2,h3,fun m c hc=>?_⟩;obtain⟨a,cap,hv,_,hadr⟩:=h1
  have hn:0<n:=by
   rcases x9 n with h0|h0
   ·have:=(zB.1 hc).1;rw[h3,h0,qQ]at this;omega
   ·exact h0
  obtain⟨b,off,rfl⟩:=hadr hn;have hlt:=h2 _ _ _ hv hn;have h5:=h4 m c hc;rw[hv]at h5 ⊢;exact(qp (w:=w) (hw b (hkpn b hlt))).trans h5
 |lbox ty e n cs=>exact⟨jb7 hok.1 fun k hk=>hw k (hall k (hok.2 k hk)),hok.2⟩
 |dead=>trivial
 |nan=>exact hok
 |err=>exact hok
 |atom=>exact hok
 |box ty cs =>
  obtain⟨k,h1,h2,h3⟩:=hok;exact⟨k,h1,h2,(hw k (hall k h2)).trans h3⟩
 |row ty c=>exact⟨jb7 hok.1 fun k hk=>hw k (hall k (hok.2 k hk)),hok.2⟩
 |ext c=>exact⟨hrow hok.1 hok.2,hok.2⟩
 |ebox cs =>
  obtain⟨k,o,h1,h2,h3⟩:=hok;exact⟨k,o,h1,h2,fun j c hj=>(qp (w:=w) (hw k (hkpn k h2))).trans (h3 j c hj)⟩
 |arr ty k0 e r =>
  obtain⟨k,h1,h2,h3⟩:=hok;exact⟨k,h1,h2,(hw k (hall k h2)).trans h3⟩
 |xext X =>
  obtain⟨a',cap,h1,h2,h3⟩:=hok;refine⟨a',cap,h1,h2,fun hn=>?_⟩;obtain⟨b,off,hab,hB,hx⟩:=h3 hn;refine⟨b,off,hab,hB,fun i j hi hj=>?_⟩;obtain⟨u,hu,hux⟩:=hx i j hi hj;exact⟨u,(qp (w:=w) (hw b (hkpn b hB))).trans hu,hatm hux⟩
 |map es =>
  obtain⟨b,ents,clock,h1,h2,h3,h4⟩:=hok;exact⟨b,ents,clock,h1,h2,(hw b (hall b h2)).trans h3,h4⟩
 |rrow c =>
  refine⟨?_,fun k hk=>⟨(hok.2 k hk).1,?_⟩⟩
  ·obtain⟨a',cap,h1,h2,h3⟩:=hok.1;refine⟨a',cap,h1,h2,fun hn=>?_⟩;obtain⟨b,off,hab,hx⟩:=h3 hn;subst hab;have:=(hok.2 b (by rw[h1];rfl)).1;exact⟨b,off,rfl,fun j x hj=>(qp (w:=w) (hw b (hall b this))).trans (hx j x hj)⟩
  ·have h1:=(hok.2 k hk)
   have:w'.heap[k]?=w.heap[k]?:=hw k (hall k h1.1);have h2:k<w.heap.size:=h1.2;rw[Array.getElem?_eq_getElem h2]at this;exact(zA.1 this).1
 |fext c=>exact⟨hrow hok.1 (jaS B.sub hok.2),hok.2⟩
 |xrow ty X =>
  obtain⟨us,hr,hi,hk⟩:=hok;refine⟨us,jb7 hr fun k h1=>hw k (hall k (hk k h1)),fun i j h1 h2=>?_,hk⟩;obtain⟨u,hu,hux⟩:=hi i j h1 h2;refine⟨u,hu,?_⟩;cases hc:X.cell i j with
  |d x=>rw[hc]at hux;exact hux
  |r c=>rw[hc]at hux;exact⟨hrow hux.1 (jaS B.sub hux.2),hux.2⟩
 |trow ty ts X m =>
  obtain⟨us,hr,hi,hd,hk⟩:=hok;refine⟨us,jb7 hr fun k h1=>hw k (hall k (hk k h1)),fun i j h1 h2=>?_,hd,hk⟩;obtain⟨u,hu,hux,hua⟩:=hi i j h1 h2;refine⟨u,hu,fun h3=>jcc (hux h3) fun k hk'=>hw k fun e=>?_,fun h3=>hatm (hua h3)⟩;have:=jcy (hux h3) hk';rw[e,hg]at this;apply hb;rcases hr.2 with ⟨_,hn⟩|⟨q,cap,cur,q1,_⟩
  ·omega
  ·rw[q1]at this ⊢;simp only[base,zi]at this;simp[O.blk,zL,this]
 |mrow ty ts X ho =>
  obtain⟨us,hr,hi,hd,hk⟩:=hok;refine⟨us,jb7 hr fun k h1=>hw k (hall k (hk k h1)),fun i j h1 h2 h3=>?_,hd,hk⟩;obtain⟨u,hu,hux⟩:=hi i j h1 h2 h3;refine⟨u,hu,jcc hux fun k hk'=>hw k fun e=>?_⟩;have:=jcy hux hk';rw[e,hg]at this;apply hb;rcases hr.2 with ⟨_,hn⟩|⟨q,cap,cur,q1,_⟩
  ·omega
  ·rw[q1]at this ⊢;simp only[base,zi]at this;simp[O.blk,zL,this]
def jwh {r e j k:Nat}:find (jma r e j hp) k=(find hp k).map fun o=>match o with
 | .view _ _ _=>.dead
 | .sub r2 i2 e2 j2 t2 c2=>match zt r2 r,zt e2 e,zt j2 j with
  |true,true,false=>.sub r2 i2 e2 j2 t2 c2
  |_,_,_=>.dead
 | .lview _ _ _ _=>.dead
 |o=>o:=by
 induction hp with
 |nil=>rfl
 |cons x l ih =>
  obtain⟨q,o⟩:=x;simp only[jma,zM,find]at *;split
  ·rfl
  ·exact ih
def jso {o:zX} {t h i j r i0 e0 j0 t0 ty:Nat} {ts:List Nat} {x y:zH} {u:W} {c c':Cont} {ds:List D} {X:XC} {k:NK} (hh:HRel U B hp nx w) (hr:jav U nx rd a) (hop:o.op=.store t x y)
  (hx:rd x=some (.w (.c (.p h i c.e j)))) (hy:rd y=some (.w u)) (hone:u.one hp=true) (hs:szT P t=some u.cells.length) (hall:(u.cells.all fun c=>c.one hp)=true)
  (hf:find hp h=some (.sub r i0 e0 j0 t0 c)) (hds:jbA u.cells=some ds) (hupd:jon c c' i j ds) (he0:0<c.e) (hi:i<c.n) (hfr:find hp r=some (.mrow ty ts X none)) (he:e0=X.e) (hk:X.sh[j0]?=some k) (hnk:jbw k (.r c')=true) (htt:ts.getD j0 0=t0) :
  jax P U B nx a w o ⟨i<c.n,vu,(r,.mrow ty ts (X.put i0 (X.row i0 j0 (.r c'))) none)::(h,.sub r i0 e0 j0 t0 c')::jma r e0 j0 hp,nx⟩ false:=by
 subst he;have h1:=hr _ _ hx;have h2:=hr _ _ hy;obtain⟨hlt,hol,⟨hlen1,hcase1⟩,hj0,⟨a0,n0,cap0,hUr,hi0⟩,hcell,htag⟩:=hh.ok h _ hf;obtain⟨hltr,_,us,⟨hlen,hcase⟩,hat,hd,hBk⟩:=hh.ok r _ hfr;rcases hcase1 with ⟨_,hn⟩|⟨g1,cap1,cur1,hk1,_,hheap1,hncap1,hcapm1,hcs1,htk1⟩
 ·omega
 rcases hcase with ⟨hU,hn⟩|⟨g,cap,cur,hkr,_,hheap,hncap,hcapm,hcsz,htk⟩
 ·rw[hU]at hUr;cases hUr;omega
 have hi0':i0<X.n:=by rw[hkr]at hUr;cases hUr;exact hi0
 have hbase:base (U r)=⟨g,0,none⟩:=by rw[hkr];rfl
 rw[hbase]at hat htag hcell;have hmu1:B.mu g1=some g:=htag g1 (by rw[hk1];rfl);have hBg:¬B.all g:=hBk g (by rw[hkr];rfl);have hgg:g≠g1:=fun e=>hBg (.inr (by rw[e,hmu1];simp))
 have hus:∀i' j',i'<X.n->j'<X.e->us[i' * X.e+j']?=w.cell? ⟨g,i' * X.e+j',none⟩:=fun i' j' hi' hj'=>by
  rw[xj w g _ cur ty (0,0) hheap]
  have hin:i' * X.e+j'<X.n*X.e:=by
   have:(i' + 1)*X.e<=X.n*X.e:=zW _ hi';rw[qo]at this;omega
  rw[<-htk,z6,if_pos hin];simp
 have hus0:us[i0*X.e+j0]?=some (U h):=by rw[hus i0 j0 hi0' hj0];simpa using hcell
 obtain⟨hn',hee,hle,_⟩:=id hupd;have hc:=W.cells_val hh hone;have hdse:=jcf hds;have hul:u.cells.length=ds.length:=by rw[hdse];simp
 have hvs:(u.val U).cells.size=u.cells.length:=by rw[hc];simp
 have hin:i*c.e+j+ds.length<=c.n*c.e:=by
  have:(i+1)*c.e<=c.n*c.e:=zW _ hi;rw[qo]at this;omega
 have hcapsz:c.n*c.e<=cap1*c.e:=zW _ hncap1;have hst:=jbB (P:=P) (t:=t) (g:=g1) (off:=i*c.e+j) (v:=u.val U) (by rw[hvs];exact hs) hheap1 (by rw[hvs,hul,hcs1];omega) (by rw[hc];exact jcv hh hall);obtain⟨w',hw'⟩:∃w',w'=w.setRow g1 ((cur1.toList.take (i*c.e+j)++(u.val U).cells.toList++cur1.toList.drop (i*c.e+j+(u.val U).cells.size)).toArray):=⟨_,rfl⟩
 rw[<-hw']at hst;have hoth:∀k,k≠g1->w'.heap[k]?=w.heap[k]?:=fun k hne=>by rw[hw'];exact yg w g1 k _ hne
 refine jbR (U':=U) (w':=w') ?_ rfl ?_
 ·unfold qr;have h1v:a.eval x=.pointer (some ⟨g1,i*c.e+j,none⟩):=by rw[h1.2];simp[C.val,hk1,base]
  have h2v:a.eval y=u.val U:=h2.2;simp only[hop,h1v,h2v,yh,qA,zn,zp,zh,hst]
 ·have hkp1:¬B.kp g1:=fun h=>by rw[B.dis g1 h]at hmu1;cases hmu1
  have hbel:Bel B w w':=by
   rw[hw'];exact⟨rfl,rfl,rfl,by simp,fun k hk=>yg w g1 k _ (fun e=>hkp1 (e ▸ hk))⟩
  refine⟨jae.refl _ _,trivial,zu _,HRel.gr ?_,hbel,(fun h=>by cases h),fun h=>by cases h⟩
  have hownN:w'.ownsRow 0 t0 c'.e (U h) c'.n (c'.flat.map D.val):=by
   refine⟨by simp[Cont.flat_length],.inr ⟨g1,cap1,_,by rw[hn'];exact hk1,qI _,by rw[hw'];exact yT w g1 _ _ t0 (0,0) hheap1,by rw[hn'];exact hncap1,hcapm1,?_,?_⟩⟩
   ·simp only[xE,qb,qP,xf,yr,hvs,hul,hee];omega
   ·have hcur:cur1.toList=c.flat.map D.val++cur1.toList.drop (c.n*c.e):=by rw[<-htk1];exact(xi _ _).symm
    have hvl:(u.val U).cells.toList=ds.map D.val:=by rw[hc,hdse];simp[xq,C.val]
    rw[hvs,hul,hvl,hcur];exact jsb hupd hi he0 _
  have hrow:=X.row_spec (i:=i0) hk hnk;have hput:=X.cell_put hrow.1 hi0'
  have hcellN:∀i' j',j'<X.e->(X.put i0 (X.row i0 j0 (.r c'))).cell i' j'=if i'=i0∧j'=j0 then .r c' else X.cell i' j':=fun i' j' hj'=>by
   rw[hput.2.2.2 i' j' hj']
   by_cases e:i'=i0
   ·subst e;rw[if_pos rfl,hrow.2 j' hj']
    by_cases e2:j'=j0
    ·subst e2;rw[if_pos rfl,if_pos ⟨rfl,rfl⟩]
    ·rw[if_neg e2,if_neg (fun h=>e2 h.2)]
   ·rw[if_neg e,if_neg (fun h=>e h.1)]
  have hfk:∀k o1,find ((r,O.mrow ty ts (X.put i0 (X.row i0 j0 (.r c'))) none)::(h,.sub r i0 X.e j0 t0 c')::jma r X.e j0 hp) k=some o1 ->
    (k=r∧o1=.mrow ty ts (X.put i0 (X.row i0 j0 (.r c'))) none)∨(k≠r∧k=h∧o1=.sub r i0 X.e j0 t0 c')∨(k≠r∧k≠h∧∃o2,find hp k=some o2∧((o1=.dead)∨(o1=o2∧o2.isV=false)∨∃i2 j2 t2 c2,o1=.sub r i2 X.e j2 t2 c2∧o2=o1∧j2≠j0)):=by
   intro k o1 hk1;simp only[find]at hk1;split at hk1
   ·rename_i e;cases hk1;exact .inl ⟨e.symm,rfl⟩
   ·rename_i e;split at hk1
    ·rename_i e2;cases hk1;exact .inr (.inl ⟨fun x=>e x.symm,e2.symm,rfl⟩)
    ·rename_i e2;rw[jwh]at hk1;obtain⟨o2,h3,h4⟩:=z5.1 hk1;refine .inr (.inr ⟨fun x=>e x.symm,fun x=>e2 x.symm,o2,h3,?_⟩);cases o2 with
     |view=>exact .inl h4.symm
     |lview=>exact .inl h4.symm
     |sub r2 i2 e2 j2 t2 c2 =>
      simp only at h4;split at h4
      ·rename_i q1 q2 q3;have q1:=zb q1;have q2:=zb q2;subst q1;subst q2;refine .inr (.inr ⟨i2,j2,t2,c2,h4.symm,h4,fun e=>?_⟩);subst e;rw[show zt j2 j2=true from Nat.beq_refl j2]at q3;cases q3
      ·exact .inl h4.symm
     |_=>exact .inr (.inl ⟨h4.symm,rfl⟩)
  refine⟨fun k1 o1 hk1'=>?_,fun k1 o1 k2 o2 b hk1' hk2' hne hb1 hb2=>?_,jj9 (g:=g1) (fun k _ hne=>hoth k hne) hkp1 hh.glob⟩
  ·rcases hfk k1 o1 hk1' with ⟨rfl,rfl⟩|⟨_,rfl,rfl⟩|⟨hne1,hne2,o2,h3,h4⟩
   ·refine⟨hltr,trivial,us,?_,fun i' j' hi' hj' _=>?_,?_,hBk⟩
    ·rw[hput.1,hput.2.1]
     exact jb7 ⟨hlen,.inr ⟨g,cap,cur,hkr,qI _,hheap,hncap,hcapm,hcsz,htk⟩⟩ fun k hk'=>by
      rw[hkr]at hk';simp only[zL,zi]at hk';subst hk';exact hoth g hgg
    ·rw[hput.1]at hi';rw[hput.2.1]at hj' ⊢;rw[hcellN i' j' hj',hbase]
     by_cases e:i'=i0∧j'=j0
     ·obtain⟨rfl,rfl⟩:=e;rw[if_pos ⟨rfl,rfl⟩];exact⟨U h,hus0,by rw[htt];exact hownN,htag⟩
     ·rw[if_neg e];obtain⟨v,hv,hvx⟩:=hat i' j' hi' hj' (by simp);refine⟨v,hv,jcc hvx fun k hk'=>hoth k fun e2=>?_⟩;subst e2;exact hd i' j' i0 j0 v (U h) k hi' hj' hi0' hj0 (fun e3=>e (by cases e3;exact⟨rfl,rfl⟩)) (by simp) (by simp) hv hus0 hk' (by rw[hk1];rfl)
    ·rw[hput.1,hput.2.1];exact hd
   ·refine⟨hlt,hltr,hownN,hj0,⟨a0,n0,cap0,hUr,hi0⟩,?_,by rw[hbase];exact htag⟩;rw[hbase];exact(qp (w:=w) (hoth g hgg)).trans hcell
   ·have hok2:=hh.ok k1 o2 h3;rcases h4 with rfl|⟨rfl,hv⟩|⟨i2,j2,t2,c2,rfl,rfl,hj2⟩
    ·exact⟨hok2.1,trivial,trivial⟩
    ·refine⟨hok2.1,hok2.2.1,O.ok_in hoth hmu1 hok2.2.2 (fun e=>?_) hv⟩;exact hh.apart r _ k1 o1 g hfr h3 (fun e=>hne1 e.symm) (by simp[O.blk,hkr,zL]) e
    ·obtain⟨q1,q2,q3,q4,q5⟩:=hok2.2.2;rw[hbase]at q4 q5
     have hi2:i2<X.n:=by
      obtain⟨a2,n2,cap2,q6,q7⟩:=q3;rw[hkr]at q6;cases q6;exact q7
     have hus2:us[i2*X.e+j2]?=some (U k1):=by rw[hus i2 j2 hi2 q2];simpa using q4
     refine⟨hok2.1,hok2.2.1,jb7 q1 fun k hk'=>hoth k fun e=>?_,q2,q3,?_,by rw[hbase];exact q5⟩
     ·subst e;exact hd i2 j2 i0 j0 (U k1) (U h) k hi2 q2 hi0' hj0 (fun e3=>hj2 (by cases e3;rfl)) (by simp) (by simp) hus2 hus0 hk' (by rw[hk1];rfl)
     ·rw[hbase];exact(qp (w:=w) (hoth g hgg)).trans q4
  ·have hbk:∀k o1 b,find ((r,O.mrow ty ts (X.put i0 (X.row i0 j0 (.r c'))) none)::(h,.sub r i0 X.e j0 t0 c')::jma r X.e j0 hp) k=some o1->o1.blk (U k)=some b->∃o2,find hp k=some o2∧o2.blk (U k)=some b:=by
    intro k o1 b hk hb;rcases hfk k o1 hk with ⟨rfl,rfl⟩|⟨_,rfl,rfl⟩|⟨hne1,hne2,o2,h3,h4⟩
    ·exact⟨_,hfr,hb⟩
    ·cases hb
    ·rcases h4 with rfl|⟨rfl,_⟩|⟨_,_,_,_,rfl,rfl,_⟩
     ·cases hb
     ·exact⟨_,h3,hb⟩
     ·cases hb
   obtain⟨p1,h3,h4⟩:=hbk k1 o1 b hk1' hb1;obtain⟨p2,h5,h6⟩:=hbk k2 o2 b hk2' hb2;exact hh.apart k1 p1 k2 p2 b h3 h5 hne h4 h6
end
end Go.Sx
end

section
open Go.RowKit
namespace Go.Sx
section
variable [Globs] {P:zy} {U:Env} {B:Kd} {nx:Nat} {hp:Hp} {w:zx} {rd:zH->Option V} {a:Act} {sp:jaa}
def jvz {X:XC} {ty:Nat} {ts:List Nat} {us:List zF} (hB:Old B w) (hm:X.n<=9223372036854775807) (hl:us.length=X.n*X.e)
  (hat:∀i j,i<X.n->j<X.e->∃u,us[i*X.e+j]?=some u∧(X.cell i j).own B w w.heap.size (ts.getD j 0) u)
  (hd:∀i j i' j' u v k,i<X.n->j<X.e->i'<X.n->j'<X.e->(i,j)≠(i',j')->us[i*X.e+j]?=some u->us[i' * X.e+j']?=some v->u.ownBlock=some k->v.ownBlock≠some k) :
  (O.mrow ty ts X none).ok (upd U nx (.slice (some ⟨w.heap.size,0,none⟩) X.n X.n)) B (w.alloc (.cells us.toArray ty)) nx:=by
 have hbel:xA w.heap.size w (w.alloc (.cells us.toArray ty)):=(qO _ w).alloc (zu _) _;refine⟨us,⟨by omega,.inr ⟨w.heap.size,X.n,_,by simp,qI _,yx w _,zu _,by simpa [gY]using hm,by simp[hl],?_⟩⟩,fun i j hi hj _=>?_,fun i j i' j' u v k h1 h2 h3 h4 h5 _ _=>hd i j i' j' u v k h1 h2 h3 h4 h5,fun k hk hc=>?_⟩
 ·rw[<-hl];exact yv (by simp)
 ·obtain⟨u,hu,hux⟩:=hat i j hi hj;rw[upd_same];refine⟨u,hu,jcc hux fun k hk=>hbel.block k ?_⟩;have:=jcy hux hk;exact hB k (.inr (by rw[this];simp))
 ·simp[zL]at hk;have:=hB k hc;omega
def juo {o:zX} {t elem e b:Nat} {ts:List Nat} {x y:zH} {k k':IntKind} {n m:Int} {u u':V} {z:List C} {X0:XC} {r:List NC} {hs:List Nat} (hh:HRel U B hp nx w) (hB:Old B w) (hr:jav U nx rd a) (ho:o.op=.makeSlice t x y)
  (hu:P.underlying t=some (.slice elem)) (hx:rd x=some u) (hx':u.int?=some (k,n)) (hy:rd y=some u') (hy':u'.int?=some (k',m))
  (hz:jaB P elem=some z) (hsz:szT P elem=some (e+1)) (hb:jaQ P elem=some b) (hzl:z.length=e+1) (hc:jaP [] X0.sh ts z=some (r,hs))
  (hob:0<=n∧n=m∧(b:Int)*n<=281474976710656∧n<=9223372036854775807) :
  jax P U B nx a w o ⟨0<=n∧n=m∧(b:Int)*n<=281474976710656∧n<=9223372036854775807,.w (.c (.o nx)),(nx,.mrow elem ts (X0.rep n.toNat r) none)::hp,nx+1⟩ true:=by
 obtain⟨h0,rfl,h2,h3⟩:=hob;have h1:=hr _ _ hx;have h1':=hr _ _ hy;rw[V.int?_eq hx']at h1;rw[V.int?_eq hy']at h1';have hh0:HRel U B [] nx w:=hh.sub fun _ _ h=>by cases h
 obtain⟨c1,c2,c3,c4,_,c6⟩:=jcZ hh0 hc
 have hno:∀q∈hs,False:=fun q hq=>by
  obtain⟨_,_,hf⟩:=(c3 q hq).2;cases hf
 have hown:=c6 B w.heap.size (fun q hq=>(hno q hq).elim)
 have hblk:∀(j:Nat) (c:C) (q:Nat),z[j]?=some c->(c.val U).ownBlock≠some q:=fun j c q hj hq=>by
  obtain⟨h,hm,_⟩:=c4 j c q hj hq;exact hno h hm
 have hmk:=X0.cell_mk (rs:=zr n.toNat r) (fun x hx=>by rw[xx hx];exact c1);rw[<-XC.rep_mk]at hmk;simp only[jR]at hmk;have hXe:X0.e=e+1:=by rw[<-X0.sh_len,<-c2,hzl]
 cases hi:P.info? elem with
 |none=>simp[szT,hi]at hsz
 |some i =>
  have hsz':i.size=e+1:=by simpa [szT,hi]using hsz
  have hby:i.bytes=b:=by simpa [jaQ,hi]using hb
  cases hzz:i.zero with
  |none=>simp[jaB,hi,hzz]at hz
  |some zv =>
   obtain⟨v,hv,hvc,_⟩:=jaW (P:=P) (w:=w) (U:=U) hz
   have hvz:v=zv:=by
    simp[ym,yP,hi,hzz]at hv;exact hv.symm
   subst hvz;have hm:=run_make (P:=P) w t elem i v hu hi hzz k k' n n h0 (j8 _) (by rw[hby];exact h2) h3
   have hcells:ja v.cells (n.toNat*i.size)=((zr n.toNat (z.map (C.val U))).flatten).toArray:=by
    apply qy;have:=jel v.cells n.toNat;have hvs:v.cells.size=e+1:=by rw[hvc];simp[hzl]
    rw[hvs]at this;rw[hsz',this,hvc]
   rw[hcells]at hm
   have hlen:((zr n.toNat (z.map (C.val U))).flatten).length=(X0.rep n.toNat r).n*(X0.rep n.toNat r).e:=by
    rw[hmk.1,hmk.2.1,hXe,jmG];simp[hzl]
   have hget:∀i j,i<n.toNat->j<e+1->((zr n.toNat (z.map (C.val U))).flatten)[i*(e+1)+j]?=(z[j]?).map (C.val U):=fun i j hi hj=>by
    have:=jfO (e:=e+1) (l:=zr n.toNat (z.map (C.val U))) (fun x hx=>by rw[xx hx];simp[hzl]) (i:=i) (j:=j) hj;rw[this];simp[hi]
   have hok:=jvz (U:=U) (nx:=nx) (ty:=elem) (ts:=ts) (X:=X0.rep n.toNat r) hB (show(X0.rep n.toNat r).n<=_ by rw[hmk.1];omega) hlen (fun i j hi hj=>by
    rw[hmk.1]at hi;rw[hmk.2.1]at hj ⊢;rw[hmk.2.2 i j hi hj];have hz':j<z.length:=by omega
    have hr':j<r.length:=by rw[c1.1,X0.sh_len];exact hj
    refine⟨(z[j]).val U,?_,?_⟩
    ·rw[hXe,hget i j hi (by omega)];simp[hz']
    ·have:((zr n.toNat r).getD i []).getD j (.d (.v qe))=r[j]:=by simp[za,hi,hr']
     rw[this];exact hown j r[j] z[j] (by simp) (by simp)) (fun i j i' j' u v k hi hj hi' hj' _ hu1 hv1 hk=>by
    rw[hmk.1]at hi;rw[hmk.2.1]at hj hu1;rw[hXe]at hj hu1;rw[hget i j hi hj]at hu1;obtain⟨c,hc1,rfl⟩:=z5.1 hu1;exact absurd hk (hblk j c k hc1))
   rw[hmk.1]at hok
   refine jak (U':=upd U nx (.slice (some ⟨w.heap.size,0,none⟩) n.toNat n.toNat)) (w':=w.alloc (.cells ((zr n.toNat (z.map (C.val U))).flatten).toArray elem)) ?_
    (jbi hh hB _ _ _ (.mrow elem ts (X0.rep n.toNat r) none) rfl rfl (show V.lt (nx+1) (.w (.c (.o nx)))from zo nx) true trivial hok (by simp[O.blk,zL]))
   unfold qr;simp only[ho,h1.2,h1'.2,vi_val,zn,hm,zh,zp];simp[V.val,W.val,C.val]
def jkb (hh:HRel U B hp nx w) {sh:List NK} {ts:List Nat}:∀{l:List (Nat × W)} {n:Nat} {rs:List (List NC)} {hs:List Nat},jeV hp sh ts n l=some (rs,hs) ->
  rs.length=l.length∧(∀r∈rs,jcx sh r)∧(∀(i:Nat) (p:Nat × W),l[i]?=some p->p.1=n+i∧p.2.cells.length=sh.length)∧(∀h∈hs,∃t' c',find hp h=some (.row t' c')) ∧
  (∀(i j:Nat) (p:Nat × W) (c:C) (q:Nat),l[i]?=some p->p.2.cells[j]?=some c->(c.val U).ownBlock=some q->∃h∈hs,c=.o h) ∧
  (hs.Nodup->∀(i j i' j':Nat) (p p':Nat × W) (h:Nat),l[i]?=some p->l[i']?=some p'->p.2.cells[j]?=some (.o h)->p'.2.cells[j']?=some (.o h)->h∈hs->i=i'∧j=j') ∧
  (∀(i j:Nat) (p:Nat × W) (h:Nat),l[i]?=some p->p.2.cells[j]?=some (.o h)->h∈hs) ∧
  ∀(B':Kd) (go:Nat),(∀q∈hs,∀b,(U q).ownBlock=some b->B'.mu b=some go) ->
   ∀(i j:Nat) (r:List NC) (p:Nat × W) (x:NC) (c:C),rs[i]?=some r->l[i]?=some p->r[j]?=some x->p.2.cells[j]?=some c->x.own B' w go (ts.getD j 0) (c.val U)
 |[],n,rs,hs,h=>by
  simp only[jeV,zi,qg]at h;obtain⟨rfl,rfl⟩:=h;exact⟨rfl,(fun _ h=>by cases h),(fun _ _ h=>by simp at h),(fun _ h=>by cases h),(fun i j p c q h=>by simp at h),(fun _ i j i' j' p p' h hi=>by simp at hi),(fun i j p h hi=>by simp at hi),fun _ _ _ i j r p x c h=>by simp at h⟩
 |(i,u)::l,n,rs,hs,h=>by
  simp only[jeV]at h;split at h
  ·rename_i x g rest gs hin hx hl;simp only[zi,qg]at h;obtain⟨rfl,rfl⟩:=h;have hin:=zb hin;subst hin;obtain⟨a1,a2,a3,a4,a5,a6⟩:=jcZ hh hx;obtain⟨b1,b2,b3,b4,b5,b6,b7,b8⟩:=jkb hh hl
   have a7:∀(j h:Nat),u.cells[j]?=some (.o h)->h∈g:=by
    have:∀{sh:List NK} {ts:List Nat} {cs:List C} {r:List NC} {hs:List Nat},jaP hp sh ts cs=some (r,hs)->∀(j q:Nat),cs[j]?=some (.o q)->q∈hs:=by
     intro sh
     induction sh with
     |nil=>intro ts cs r hs h j q hj;cases cs with
      |nil=>simp at hj
      |cons=>simp[jaP]at h
     |cons k sh ih =>
      intro ts cs r hs h j q hj;cases cs with
      |nil=>simp at hj
      |cons c cs =>
       simp only[jaP]at h;split at h
       ·rename_i x g l gs hx hl;simp only[zi,qg]at h;obtain⟨rfl,rfl⟩:=h;cases j with
        |zero =>
         simp at hj;subst hj;rw[jkN hx];simp
        |succ j =>
         have:=ih hl j q (by simpa using hj);cases g with
         |none=>exact this
         |some y=>exact zR _ this
       ·cases h
    exact this hx
   refine⟨by simp[b1],fun r hr=>?_,fun j p hj=>?_,fun h hm=>?_,fun i' j p c q hi hj hq=>?_,fun hnd i1 j1 i2 j2 p p' h h1 h2 h3 h4 hm=>?_,fun i' j p h hi hj=>?_,fun B' go htag i' j r p y c h1 h2 h3 h4=>?_⟩
   ·rcases qv.1 hr with rfl|hr
    ·exact a1
    ·exact b2 r hr
   ·cases j with
    |zero=>simp at hj;subst hj;exact⟨rfl,a2⟩
    |succ j=>have:=b3 j p (by simpa using hj);exact⟨by omega,this.2⟩
   ·rcases qq.1 hm with hm|hm
    ·exact(a3 h hm).2
    ·exact b4 h hm
   ·cases i' with
    |zero =>
     simp at hi;subst hi;obtain⟨h,hm,e⟩:=a4 j c q hj hq;exact⟨h,yk _ hm,e⟩
    |succ i' =>
     obtain⟨h,hm,e⟩:=b5 i' j p c q (by simpa using hi) hj hq;exact⟨h,x6 _ hm,e⟩
   ·have hnd':=List.nodup_append.1 hnd;cases i1 with
    |zero =>
     simp at h1;subst h1;have m1:=a7 j1 h h3;cases i2 with
     |zero =>
      simp at h2;subst h2;exact⟨rfl,a5 hnd'.1 j1 j2 h h3 h4 m1⟩
     |succ i2 =>
      have m2:=b7 i2 j2 p' h (by simpa using h2) h4;exact absurd rfl (hnd'.2.2 h m1 h m2)
    |succ i1 =>
     have m1:=b7 i1 j1 p h (by simpa using h1) h3;cases i2 with
     |zero =>
      simp at h2;subst h2;have m2:=a7 j2 h h4;exact absurd rfl (hnd'.2.2 h m2 h m1)
     |succ i2 =>
      obtain⟨e1,e2⟩:=b6 hnd'.2.1 i1 j1 i2 j2 p p' h (by simpa using h1) (by simpa using h2) h3 h4 m1;exact⟨by omega,e2⟩
   ·cases i' with
    |zero=>simp at hi;subst hi;exact yk _ (a7 j h hj)
    |succ i'=>exact x6 _ (b7 i' j p h (by simpa using hi) hj)
   ·cases i' with
    |zero =>
     simp at h1 h2;subst h1;subst h2;exact a6 B' go (fun q hq=>htag q (yk _ hq)) j y c h3 h4
    |succ i'=>exact b8 B' go (fun q hq=>htag q (x6 _ hq)) i' j r p y c (by simpa using h1) (by simpa using h2) h3 h4
  ·cases h
def jsp {o:zX} {t n elem e:Nat} {ts:List Nat} {parts:Array (Nat × zH)} {l:List (Nat × W)} {z:List C} {X0:XC} {rs:List (List NC)} {hs:List Nat} (hh:HRel U B hp nx w) (hB:Old B w) (hr:jav U nx rd a) (ho:o.op=.buildSlice t n parts)
  (hu:P.underlying t=some (.slice elem)) (hl:jcp rd hp parts.toList=some l) (hz:jaB P elem=some z) (hsz:szT P elem=some (e+1)) (hzl:z.length=e+1) (hXe:X0.sh.length=e+1) (hn:l.length=n) (hle:n*(e+1)<=4096)
  (hc:jeV hp X0.sh ts 0 l=some (rs,hs)) (hnd:jfL hs=true) :
  jax P U B nx a w o ⟨True,.w (.c (.o nx)),(nx,.mrow elem ts (X0.mk rs) none)::jdm hp hs,nx+1⟩ false:=by
 have hps:=jc3 hr parts.toList l hl;obtain⟨c1,c2,c3,c4,c5,c6,c7,c8⟩:=jkb hh hc;have c6:=c6 (jhU hnd);obtain⟨B',g,hlm,hh',htag,hallB,hkp⟩:=jwg hh c4 w.heap.size;have hown:=c8 B' w.heap.size htag;have hmk:=X0.cell_mk c2;have he:X0.e=e+1:=by rw[<-X0.sh_len,hXe]
 have hfill:=jnk (e:=e+1) l 0 [] (zr n z).flatten (by simp) (by simp[hn,hzl]) (fun i p hi=>by have:=c3 i p hi;rw[hXe]at this;exact this);rw[qM,qM]at hfill;have hrun:=jiy (U:=U) hh hz hsz hzl hle hfill hps.2 t hu;have hB':=g.old hB;have hfl:(l.flatMap fun p=>p.2.cells)=(l.map fun p=>p.2.cells).flatten:=by rw[fK]
 have hget:∀i j,j<e+1->((l.flatMap fun p=>p.2.cells).map (C.val U))[i*(e+1)+j]?=(l[i]?).bind fun p=>(p.2.cells[j]?).map (C.val U):=fun i j hj=>by
  rw[zK,hfl]
  have:=jfO (e:=e+1) (l:=l.map fun p=>p.2.cells) (fun x hx=>by
   obtain⟨p,hp,rfl⟩:=qu.1 hx;obtain⟨q,hq,rfl⟩:=jt hp;have:=(c3 q l[q] (by simp[hq])).2;omega) (i:=i) (j:=j) hj
  rw[this];cases hi:l[i]? with
  |none=>simp[hi]
  |some p=>simp[hi]
 have hok:=jvz (U:=U) (nx:=nx) (ty:=elem) (ts:=ts) (X:=X0.mk rs) (us:=(l.flatMap fun p=>p.2.cells).map (C.val U)) hB' (by rw[hmk.1,c1,hn];have:=qx (yR n (yH e)) hle;omega) (by
   rw[hmk.1,hmk.2.1,he,c1];simp only[qG,fm]
   have:(l.map fun p=>p.2.cells.length)=zr l.length (e+1):=by
    apply xg;intro i;rw[zK];cases hi:l[i]? with
    |none=>rw[z9 (by simpa using hi)];rfl
    |some p =>
     have:=(c3 i p hi).2;have hlt:=(zB.1 hi).1;simp[hlt,this,hXe]
   rw[this];simp) (fun i j hi hj=>by
   rw[hmk.1]at hi;rw[hmk.2.1]at hj ⊢;rw[hmk.2.2 i j hi hj];have hil:i<l.length:=by omega
   have hp:=c3 i l[i] (by simp[hil]);have hjc:j<(l[i]).2.cells.length:=by omega
   have hrr:=c2 rs[i] (xC hi);have hjr:j<(rs[i]).length:=by rw[hrr.1,X0.sh_len];exact hj
   refine⟨((l[i]).2.cells[j]).val U,?_,?_⟩
   ·rw[he,hget i j (by omega)];simp[hil,hjc]
   ·have e2:(rs.getD i []).getD j (.d (.v qe))=(rs[i])[j]:=by simp[za,hi,hjr]
    rw[e2];exact hown i j rs[i] l[i] (rs[i])[j] ((l[i]).2.cells[j]) (by simp[hi]) (by simp[hil]) (by simp[hjr]) (by simp[hjc])) (fun i j i' j' u v k hi hj hi' hj' hne hu1 hv1 hk hk2=>by
   rw[hmk.2.1,he]at hj hj' hu1 hv1;rw[hget i j hj]at hu1;rw[hget i' j' hj']at hv1;obtain⟨p,hp1,hp2⟩:=zD.1 hu1;obtain⟨p',hp1',hp2'⟩:=zD.1 hv1;obtain⟨c,hc1,rfl⟩:=z5.1 hp2;obtain⟨c',hc1',rfl⟩:=z5.1 hp2';obtain⟨q1,hq1,rfl⟩:=c5 i j p c k hp1 hc1 hk;obtain⟨q2,hq2,rfl⟩:=c5 i' j' p' c' k hp1' hc1' hk2
   by_cases e0:q1=q2
   ·subst e0;obtain⟨e1,e2⟩:=c6 i j i' j' p p' q1 hp1 hp1' hc1 hc1' hq1;exact hne (by rw[e1,e2])
   ·obtain⟨t1,d1,h3⟩:=c4 q1 hq1;obtain⟨t2,d2,h4⟩:=c4 q2 hq2;exact jos hh h3 h4 e0 hk hk2)
 rw[hmk.1,c1,hn]at hok;have hla:=jbi (r:=⟨True,.w (.c (.o nx)),(nx,.mrow elem ts (X0.mk rs) none)::jdm hp hs,nx+1⟩) hh' hB' (.slice (some ⟨w.heap.size,0,none⟩) n n) ((l.flatMap fun p=>p.2.cells).map (C.val U)).toArray elem (.mrow elem ts (X0.mk rs) none) rfl rfl (show V.lt (nx+1) (.w (.c (.o nx)))from zo nx) false trivial hok (by simp[O.blk,zL]);refine jak (U':=upd U nx (.slice (some ⟨w.heap.size,0,none⟩) n n)) (w':=w.alloc (.cells ((l.flatMap fun p=>p.2.cells).map (C.val U)).toArray elem)) ?_ ⟨hla.agree,hla.lt,hla.le,?_,hla.below.mono g.le.kp,hla.mono,hla.fresh⟩
 ·unfold qr
  have he2:(parts.map fun(i,x)=>(i,a.eval x))=(l.map fun x=>(x.1,x.2.val U)).toArray:=by
   rw[<-hps.1];apply qy;simp
  simp only[ho,he2,zn,hrun,zh,zp];simp[V.val,W.val,C.val]
 ·obtain⟨B2,g2,h2⟩:=hla.heap;exact⟨B2,g.weak.trans g2.weak (zu _) hla.below.size,h2⟩
def O.ok_retag {h:Nat} {B B':Kd} (hkp:∀k,B.kp k<->B'.kp k) (hfr:∀k,B.fr k<->B'.fr k) (hall:∀k,B'.all k->B.all k) {o:O} (hok:o.ok U B w h) (hv:o.isV=false) (hm:∀k,B.mu k=some (base (U h)).block->(∃g,(U h).ownBlock=some g)->o.isM=true->B'.mu k=some (base (U h)).block):o.ok U B' w h:=by
 have hout:∀k,¬B.all k->¬B'.all k:=fun k h h'=>h (hall k h');cases o with
 |view=>cases hv
 |sub=>cases hv
 |lview=>cases hv
 |elist e n cs=>exact⟨hok.1,jaS (fun k=>(hkp k).1) hok.2.1,hok.2.2⟩
 |lbox ty e n cs=>exact⟨hok.1,fun k hk=>hout k (hok.2 k hk)⟩
 |dead=>trivial
 |nan=>exact hok
 |err=>exact hok
 |atom=>exact hok
 |box ty cs=>obtain⟨k,h1,h2,h3⟩:=hok;exact⟨k,h1,hout k h2,h3⟩
 |row ty c=>exact⟨hok.1,fun k hk=>hout k (hok.2 k hk)⟩
 |ext c=>exact⟨hok.1,jaS (fun k=>(hkp k).1) hok.2⟩
 |ebox cs=>obtain⟨k,o,h1,h2,h3⟩:=hok;exact⟨k,o,h1,(hkp k).1 h2,h3⟩
 |arr ty k0 e r=>obtain⟨k,h1,h2,h3⟩:=hok;exact⟨k,h1,hout k h2,h3⟩
 |xext X=>exact IsX.mono (fun k=>(hkp k).1) hok
 |map es=>obtain⟨b,e,c,h1,h2,h3⟩:=hok;exact⟨b,e,c,h1,hout b h2,h3⟩
 |rrow c=>exact⟨hok.1,fun k hk=>⟨hout k (hok.2 k hk).1,(hok.2 k hk).2⟩⟩
 |fext c=>exact⟨hok.1,jaS (fun k=>(hfr k).1) hok.2⟩
 |xrow ty X =>
  obtain⟨us,h1,h2,h3⟩:=hok;exact⟨us,h1,fun i j hi hj=>let ⟨u,hu,hx⟩:=h2 i j hi hj; ⟨u,hu,NC.at_mono (fun k=>(hfr k).1) hx⟩,fun k hk=>hout k (h3 k hk)⟩
 |mrow ty ts X ho =>
  obtain⟨us,h1,h2,h3,h4⟩:=hok;refine⟨us,h1,fun i j hi hj hn=>?_,h3,fun k hk=>hout k (h4 k hk)⟩;obtain⟨u,hu,hx⟩:=h2 i j hi hj hn;refine⟨u,hu,jeZ hx fun k hk hmu=>hm k hmu ?_ rfl⟩;rcases h1.2 with ⟨_,hn⟩|⟨g,cap,cur,q1,_⟩
  ·omega
  ·exact⟨g,by rw[q1];rfl⟩
 |trow ty ts X m =>
  obtain⟨us,h1,h2,h3,h4⟩:=hok;refine⟨us,h1,fun i j hi hj=>?_,h3,fun k hk=>hout k (h4 k hk)⟩;obtain⟨u,hu,hx,ha⟩:=h2 i j hi hj;refine⟨u,hu,fun hq=>jeZ (hx hq) fun k hk hmu=>hm k hmu ?_ rfl,fun hq=>NC.at_mono (fun k=>(hkp k).1) (ha hq)⟩;rcases h1.2 with ⟨_,hn⟩|⟨g,cap,cur,q1,_⟩
  ·omega
  ·exact⟨g,by rw[q1];rfl⟩
def jmK {k:Nat} {o:O} (h:find (jah hp) k=some o):o.isV=false:=by
 rw[jaz]at h;obtain⟨o1,_,h2⟩:=z5.1 h;cases o1<;>subst h2<;>rfl
def jkQ {k:Nat} {o:O} (h:find (jah hp) k=some o):find hp k=some o∨o=.dead:=by
 rw[jaz]at h;obtain⟨o1,h1,h2⟩:=z5.1 h;cases o1<;>subst h2<;>first|exact .inl h1|exact .inr rfl
def jre {o:zX} {t elem e b h r i e0 j t0 ty:Nat} {ts:List Nat} {s x:zH} {c:Call} {ux:V} {hx:Option Nat} {cx:Option Cont} {z:List D} {c1 c2 c3:Cont} {X:XC} (hh:HRel U B hp nx w) (hB:Old B w) (hr:jav U nx rd a)
  (ho:o.op=.call c) (hcal:c.callee=.builtin .append) (hargs:c.args=#[s,x]) (hts:c.argTypes=#[t,t]) (hu:P.underlying t=some (.slice elem))
  (hrs:rd s=some (.w (.c (.o h)))) (hf:find hp h=some (.sub r i e0 j t0 c1)) (hfr:find hp r=some (.mrow ty ts X none)) (ht0:t0=elem) (he0:e0=X.e) (hrx:rd x=some ux) (hsx:jcg hp ux=some (hx,cx)) (hz:(jaB P elem).bind jbA=some z) (hsz:szT P elem=some (e+1)) (hby:jaQ P elem=some b)
  (h2:jcu z cx=some c2) (h3:c1.app c2=some c3) (hzl:z.length=e+1) (he1:c1.e=e+1) (hone:∀x∈c2.flat,x.val.oneCell'=true)
  (hob:(c1.n+c2.n)*b<=140737488355328∧c1.n+c2.n<=9223372036854775807) (q:Prop) :
  jax P U B nx a w o ⟨q,.w (.c (.o nx)),(nx,.row elem c3)::(r,.mrow ty ts X (some (i,j)))::jah hp,nx+1⟩ false:=by
 subst ht0;subst he0;have happ:=Cont.app_flat h3;have hvs:a.eval s=U h:=(hr _ _ hrs).2;have hvx:=(hr _ _ hrx).2;obtain⟨hlt,hol,hown,hj0,⟨a0,n0,cap0,hUr,hi0⟩,hcell,htag⟩:=hh.ok h _ hf;have hokr:=hh.ok r _ hfr;obtain⟨us,hownr,hat,hd,hBk⟩:=hokr.2.2;cases hi:P.info? t0 with
 |none=>simp[szT,hi]at hsz
 |some inf =>
  have hsz':inf.size=e+1:=by simpa [szT,hi]using hsz
  have hby':inf.bytes=b:=by simpa [jaQ,hi]using hby
  cases hzz:inf.zero with
  |none=>simp[jaB,hi,hzz]at hz
  |some zv =>
   cases hzc:jaB P t0 with
   |none=>simp[hzc]at hz
   |some zc =>
    simp only[hzc,zw]at hz;obtain⟨v0,hv0,hvc,_⟩:=jaW (P:=P) (w:=w) (U:=U) hzc
    have hvz:v0=zv:=by
     simp[ym,yP,hi,hzz]at hv0;exact hv0.symm
    subst hvz;have hzce:=jcf hz;have hzs:v0.cells.size=e+1:=by rw[hvc,hzce];simp[hzl]
    have hmk0:∀c,jdN z []=some c->c.n=0∧c.flat=[]:=fun c hc=>by have:=jc4 hc;exact⟨this.2.1,this.1⟩
    have hsrc:((ux.val U)=.slice none 0 0∧c2.n=0)∨∃ad cc,(ux.val U)=.slice (some ad) c2.n cc∧∀j u,(c2.flat.map D.val)[j]?=some u->w.cell? (ad.add j)=some u:=by
     rcases jdo hh hsx with ⟨rfl,rfl,hv⟩|⟨k,ob,c,rfl,rfl,hv,hf,hc,hrow⟩
     ·exact .inl ⟨hv,(hmk0 c2 h2).1⟩
     ·simp only[jcu,zi]at h2;subst h2;obtain⟨a',cap,h5,⟨h6,h6'⟩,h7⟩:=hrow
      by_cases hn:0<c.n
      ·obtain⟨bb,off,rfl,hcell⟩:=h7 hn;refine .inr ⟨⟨bb,off,none⟩,cap,by rw[hv,h5],fun j u hj=>?_⟩;rw[zK]at hj;cases hjx:c.flat[j]? with
       |none=>simp[hjx]at hj
       |some x=>simp[hjx]at hj;subst hj;rw[jaL];exact hcell j x hjx
      ·cases a' with
       |some ad =>
        refine .inr ⟨ad,cap,by rw[hv,h5],fun j u hj=>?_⟩;have hc0:c.n=0:=by omega
        have:c.flat=[]:=qk (by rw[Cont.flat_length,hc0,qQ]);rw[this]at hj;simp at hj
       |none =>
        have hcap:cap=0:=h6' rfl;subst hcap;have:c.n=0:=by omega
        exact .inl ⟨by rw[hv,h5,this],this⟩
    obtain⟨v',w',hrun,hown',hgrown,hwhere⟩:=jdA (ty:=o.type) hu hi hzz hsz' hby' hzs (v:=U h) (n:=c1.n) (xs:=c1.flat.map D.val) (by rw[<-he1];exact hown) (news:=c2.flat.map D.val) (m:=c2.n) (by simp[Cont.flat_length,happ.2.2.2,he1]) (fun u hu2=>by
     obtain⟨x,hx1,rfl⟩:=qu.1 hu2;exact hone x hx1) hsrc hob.2 hob.1
    have hown3:w'.ownsRow 0 t0 c3.e v' c3.n (c3.flat.map D.val):=by
     rw[happ.1,happ.2.1,happ.2.2.1,he1,xb];exact hown'
    have dec:∀k,Decidable ((U h).ownBlock=some k):=fun k=>jC _
    let B':Kd:=⟨B.kp,B.fr,fun k=>@ite _ ((U h).ownBlock=some k) (dec k) none (B.mu k),B.sub,fun k hk=>by
     show(if(U h).ownBlock=some k then none else B.mu k)=none
     split
     ·rfl
     ·exact B.dis k hk⟩
    have hmu:∀k,B'.mu k=if(U h).ownBlock=some k then none else B.mu k:=fun k=>rfl
    have hall:∀k,B'.all k->B.all k:=fun k hk=>hk.imp id fun hk2=>by
     rw[hmu]at hk2;split at hk2
     ·exact absurd rfl hk2
     ·exact hk2
    have hfree:∀k,(U h).ownBlock=some k->¬B'.all k:=fun k hk hc=>by
     rcases hc with hc|hc
     ·have:=htag k hk;rw[B.dis k hc]at this;cases this
     ·rw[hmu,if_pos hk]at hc;exact hc rfl
    have hn0:i<X.n∧∃g,(U r).ownBlock=some g∧(base (U r)).block=g∧us[i*X.e+j]?=some (U h):=by
     rcases hownr.2 with ⟨hU,hn⟩|⟨g,cap,cur,hkr,_,hheap,hncap,hcapm,hcsz,htk⟩
     ·rw[hU]at hUr;cases hUr;omega
     ·have hiX:i<X.n:=by rw[hkr]at hUr;cases hUr;exact hi0
      refine⟨hiX,g,by rw[hkr];rfl,by rw[hkr];rfl,?_⟩
      have hin:i*X.e+j<X.n*X.e:=by
       have:(i+1)*X.e<=X.n*X.e:=zW _ hiX;rw[qo]at this;omega
      rw[hkr]at hcell;simp only[base,zP]at hcell;rw[xj w g _ cur ty (0,0) hheap]at hcell;rw[<-htk,z6,if_pos hin];simpa using hcell
    obtain⟨hiX,g,hgr,hgb,hus0⟩:=hn0
    have hfm:∀k o1,find ((r,O.mrow ty ts X (some (i,j)))::jah hp) k=some o1->(k=r∧o1=.mrow ty ts X (some (i,j)))∨(k≠r∧find (jah hp) k=some o1):=fun k o1 hk=>by
     simp only[find]at hk;split at hk
     ·rename_i e;cases hk;exact .inl ⟨e.symm,rfl⟩
     ·rename_i e;exact .inr ⟨fun x=>e x.symm,hk⟩
    have hhm:HRel U B' ((r,.mrow ty ts X (some (i,j)))::jah hp) nx w:=by
     refine⟨fun k o1 hk=>?_,fun k o1 k' o1' bb hk hk' hne hb hb'=>?_,hh.glob⟩
     ·rcases hfm k o1 hk with ⟨rfl,rfl⟩|⟨hne,hk⟩
      ·refine⟨hokr.1,trivial,us,hownr,fun i' j' hi' hj' hn=>?_,fun i1 j1 i2 j2 u v kk h1 h2 h3 h4 h5 _ _=>hd i1 j1 i2 j2 u v kk h1 h2 h3 h4 h5 (by simp) (by simp),fun kk hkk hc=>hBk kk hkk (hall kk hc)⟩;obtain⟨u,hu,hx⟩:=hat i' j' hi' hj' (by simp);refine⟨u,hu,jeZ hx fun kk hkk hm=>?_⟩;rw[hmu,if_neg (fun e=>?_)]
       ·exact hm
       ·exact hd i' j' i j u (U h) kk hi' hj' hiX hj0 (fun e3=>hn (by rw[e3])) (by simp) (by simp) hu hus0 hkk e
      ·obtain⟨o2,h4,h5,h6,h7,h8,h9⟩:=jaO hh hk;refine⟨h5,h6,O.ok_retag (B:=B) (B':=B') (fun _=>ke) (fun _=>ke) hall h7 h8 fun kk hm ⟨gk,hgk⟩ eM=>?_⟩;rw[hmu,if_neg (fun e=>?_)]
       ·exact hm
       ·have h10:=htag kk e;rw[hm]at h10
        have hbk:(base (U k)).block=gk:=by
         cases hUk:U k with
         |slice a n c=>cases a with
          |none=>rw[hUk]at hgk;cases hgk
          |some ad=>rw[hUk]at hgk;simp only[zL,zi]at hgk;simp[base,hgk]
         |_=>rw[hUk]at hgk;cases hgk
        have h11:gk=g:=by
         have:=xT h10;rw[hbk,hgb]at this;exact this
        subst h11;rcases jkQ hk with h12|h12
        ·exact hh.apart k _ r _ gk h12 hfr hne ((O.isM_blk eM).trans hgk) hgr
        ·subst h12;cases eM
     ·have hb2:∀k o1,find ((r,O.mrow ty ts X (some (i,j)))::jah hp) k=some o1->o1.blk (U k)=some bb->∃o2,find hp k=some o2∧o2.blk (U k)=some bb:=fun k o1 hk hb=>by
       rcases hfm k o1 hk with ⟨rfl,rfl⟩|⟨_,hk⟩
       ·exact⟨_,hfr,hb⟩
       ·obtain⟨o2,h4,_,_,_,_,h9⟩:=jaO hh hk;exact⟨o2,h4,h9 bb hb⟩
      obtain⟨p1,p2,p3⟩:=hb2 k o1 hk hb;obtain⟨p4,p5,p6⟩:=hb2 k' o1' hk' hb';exact hh.apart k p1 k' p4 bb p2 p5 hne p3 p6
    have hB':Old B' w:=fun k hk=>hB k (hall k hk);refine jak (U':=upd U nx v') (w':=w') ?_ ?_
    ·unfold qr;simp only[ho,hcal,yF,hargs,hts,xX,zM,qR,zn,zp,zh,jg,builtin,hvs,hvx,hrun];simp[V.val,W.val,C.val]
    ·have hbl:Bel B' w w':=jc6 hgrown hfree hB';refine⟨jal _ _ _,zo nx,qt nx,⟨B',⟨⟨fun _ h=>h,fun _ h=>h⟩,fun k hk=>.inl (hall k hk),fun k hk=>.inl hk,fun h=>by cases h⟩,?_⟩,hbl,(fun h=>by cases h),fun h=>by cases h⟩
     refine HRel.grow hhm hB' hgrown hfree (hp1:=(r,.mrow ty ts X (some (i,j)))::jah hp) ?_ ?_ (by unfold O.ok;rw[upd_same];exact⟨hown3,fun k hk hc=>by
      rcases hwhere k hk with h|h
      ·exact hfree k h hc
      ·have:=hB' k hc;omega⟩) trivial (fun k hk=>hwhere k hk)
     ·intro k o1 hk;left;rcases hfm k o1 hk with ⟨rfl,rfl⟩|⟨hne,hk1⟩
      ·rw[jaz];simp[find]
      ·rw[jaz,hk];have:=jmK hk1;cases o1<;>first|rfl|cases this
     ·intro k o1 gg hk hbk hvg;obtain⟨_,_,h7⟩:=hhm.ok k o1 hk;have h8:=(hh.ok h _ hf)
      have h9:=htag gg hvg;rcases hfm k o1 hk with ⟨rfl,rfl⟩|⟨_,hk⟩
      ·exact hBk gg hbk (.inr (by rw[h9];simp))
      ·obtain⟨o2,h4,_,_,h10,_,h11⟩:=jaO hh hk;exact(O.blk_lt h10 hbk).2 (.inr (by rw[h9];simp))
end
end Go.Sx
end

section
open Go.RowKit
namespace Go.Sx
section
variable [Globs] {P:zy} {U:Env} {B:Kd} {nx:Nat} {hp:Hp} {w:zx} {rd:zH->Option V} {a:Act} {sp:jaa}
def jnm {v:V} {X0 X:XC} {hs:Option Nat} {ty:Nat} {ts:List Nat} (h:mOf hp X0 v=some (hs,ty,ts,X)) :
  (hs=none∧X=X0∧v.val U=.slice none 0 0)∨∃k,hs=some k∧v.val U=U k∧find hp k=some (.mrow ty ts X none):=by
 unfold mOf at h;split at h
 ·rename_i k;split at h
  ·rename_i ty' ts' X' hf;simp only[zi,qg]at h;obtain⟨rfl,rfl,rfl,rfl⟩:=h;exact .inr ⟨k,rfl,rfl,hf⟩
  ·cases h
 ·simp only[zi,qg]at h;obtain⟨rfl,rfl,rfl,rfl⟩:=h;exact .inl ⟨rfl,rfl,rfl⟩
 ·cases h
def jot {hs:Option Nat} {k:Nat}:find (jcG hp hs) k=if hs=some k then some .dead else find hp k:=by
 cases hs with
 |none=>simp[jcG]
 |some h=>simp only[jcG,find,zi]
def jqE {v:V} {X0 X:XC} {hs:Option Nat} {ty elem:Nat} {ts t1:List Nat} (hh:HRel U B hp nx w) (h:mOf hp X0 v=some (hs,ty,t1,X)) (hn0:X0.n=0) (ht:∀k,hs=some k->ty=elem∧t1=ts) :
  ∃us:List zF,w.ownsRow 0 elem X.e (v.val U) X.n us∧(∀i j,i<X.n->j<X.e->∃u,us[i*X.e+j]?=some u∧(X.cell i j).own B w (base (v.val U)).block (ts.getD j 0) u) ∧
   (∀i j i' j' u u' k,i<X.n->j<X.e->i'<X.n->j'<X.e->(i,j)≠(i',j')->us[i*X.e+j]?=some u->us[i' * X.e+j']?=some u'->u.ownBlock=some k->u'.ownBlock≠some k) ∧
   (∀k,(v.val U).ownBlock=some k->∃h,hs=some h∧find hp h=some (.mrow elem ts X none)∧U h=v.val U):=by
 rcases jnm (U:=U) h with ⟨rfl,rfl,hv⟩|⟨k,rfl,hv,hf⟩
 ·rw[hv,hn0];exact⟨[],xt w 0 elem X.e,(fun i j hi=>absurd hi (xZ _)),(fun i j i' j' u u' k hi=>absurd hi (xZ _)),fun k hk=>by simp[zL]at hk⟩
 ·obtain⟨rfl,rfl⟩:=ht k rfl;obtain⟨us,q1,q2,q3,q4⟩:=(hh.ok k _ hf).2.2;rw[hv];exact⟨us,q1,fun i j hi hj=>q2 i j hi hj (by simp),fun i j i' j' u u' k h1 h2 h3 h4 h5=>q3 i j i' j' u u' k h1 h2 h3 h4 h5 (by simp) (by simp),fun g hg=>⟨k,rfl,hf,rfl⟩⟩
def jrf {v:zF} {k:Nat} (h:v.ownBlock=some k):(base v).block=k:=by
 cases v with
 |slice a n c=>cases a with
  |none=>cases h
  |some ad=>simp only[zL,zi]at h;simp[base,h]
 |_=>cases h
def jrg {o:zX} {t elem e b:Nat} {s x:zH} {c:Call} {us ux:V} {hs hx:Option Nat} {ty ty':Nat} {t1 t2 ts:List Nat} {X0 X1 X2 X3:XC} {z:List C} (hh:HRel U B hp nx w) (hB:Old B w) (hr:jav U nx rd a)
  (ho:o.op=.call c) (hcal:c.callee=.builtin .append) (hargs:c.args=#[s,x]) (hts:c.argTypes=#[t,t]) (hu:P.underlying t=some (.slice elem))
  (hrs:rd s=some us) (hrx:rd x=some ux) (hX0:xcT P elem=some X0) (hss:mOf hp X0 us=some (hs,ty,t1,X1)) (hsx:mOf hp X0 ux=some (hx,ty',t2,X2)) (hz:jaB P elem=some z) (hsz:szT P elem=some (e+1)) (hby:jaQ P elem=some b)
  (hty:∀h,hs=some h->ty=elem∧t1=ts) (hty':∀h,hx=some h->ty'=elem∧t2=ts) (hne:∀h h',hs=some h->hx=some h'->h≠h') (h3:X1.app X2=some X3) (hzl:z.length=e+1) (he1:X1.sh.length=e+1)
  (hob:(X1.n+X2.n)*b<=140737488355328∧X1.n+X2.n<=9223372036854775807) (q:Prop) :
  jax P U B nx a w o ⟨q,.w (.c (.o nx)),(nx,.mrow elem ts X3 none)::jcG (jcG (jah hp) hs) hx,nx+1⟩ false:=by
 obtain⟨a1,a2,a3,a4,a5⟩:=XC.app_spec h3;have he:X1.e=e+1:=by rw[<-X1.sh_len,he1]
 have hvs:=(hr _ _ hrs).2;have hvx:=(hr _ _ hrx).2;have h00:=jvw hX0;obtain⟨us1,hown,hat1,hd1,hblk1⟩:=jqE (ts:=ts) (elem:=elem) hh hss h00 hty;obtain⟨us2,hown2,hat2,hd2,hblk2⟩:=jqE (ts:=ts) (elem:=elem) hh hsx h00 hty';cases hi:P.info? elem with
 |none=>simp[szT,hi]at hsz
 |some i =>
  have hsz':i.size=e+1:=by simpa [szT,hi]using hsz
  have hby':i.bytes=b:=by simpa [jaQ,hi]using hby
  cases hzz:i.zero with
  |none=>simp[jaB,hi,hzz]at hz
  |some zv =>
   obtain⟨v0,hv0,hvc,_⟩:=jaW (P:=P) (w:=w) (U:=U) hz
   have hvz:v0=zv:=by
    simp[ym,yP,hi,hzz]at hv0;exact hv0.symm
   subst hvz;have hzs:v0.cells.size=e+1:=by rw[hvc];simp[hzl]
   have hl2:us2.length=X2.n*(e+1):=by rw[hown2.1,a3,he]
   have hsrc:((ux.val U)=.slice none 0 0∧X2.n=0)∨∃ad cc,(ux.val U)=.slice (some ad) X2.n cc∧∀j u,us2[j]?=some u->w.cell? (ad.add j)=some u:=by
    rcases hown2.2 with ⟨q4,q5⟩|⟨g,cap,cur,q4,q5,q6,q7,q8,q9,q10⟩
    ·exact .inl ⟨q4,q5⟩
    ·refine .inr ⟨⟨g,0,none⟩,cap,q4,fun j u hj=>?_⟩;rw[jaL,zP,xj w g _ cur elem (0,0) q6];rw[<-q10,z6]at hj;split at hj
     ·simpa using hj
     ·cases hj
   have hone:∀u∈us2,u.oneCell'=true:=fun u hu2=>by
    obtain⟨q,hq,rfl⟩:=jt hu2;have he0:0<X2.e:=by omega
    have hql:q<X2.n*X2.e:=by rw[a3,he,<-hl2];exact hq
    have hdiv:q/X2.e<X2.n:=xW (by rw[xJ];exact hql);obtain⟨u,hu3,hux⟩:=hat2 (q/X2.e) (q%X2.e) hdiv (ya _ he0);rw[show q/X2.e*X2.e+q%X2.e=q by rw[xJ];exact yC q X2.e,zJ hq]at hu3;cases hu3;exact jsk (jrY hux)
   obtain⟨v',w',hrun,hown',hgrown,hwhere⟩:=jdA (ty:=o.type) hu hi hzz hsz' hby' hzs (by rw[<-he];exact hown) (news:=us2) (m:=X2.n) hl2 hone hsrc hob.2 hob.1
   let S:Nat->Prop:=fun g=>(us.val U).ownBlock=some g∨(ux.val U).ownBlock=some g
   have dec:∀g,Decidable (S g):=fun g=>jC _
   let B':Kd:=⟨B.kp,B.fr,fun k=>match B.mu k with
    |some g=>some (@ite _ (S g) (dec g) (base v').block g)
    |none=>none,B.sub,fun k hk=>by simp only[B.dis k hk]⟩
   have hmu:∀k g,B.mu k=some g->B'.mu k=some (if S g then(base v').block else g):=fun k g hk=>by
    show(match B.mu k with|some g=>some (if S g then(base v').block else g)|none=>none)=_
    rw[hk]
   have hall:∀k,B'.all k->B.all k:=fun k hk=>hk.imp id fun hk2 hn=>hk2 (by
    show(match B.mu k with|some g=>some (if S g then(base v').block else g)|none=>none)=none
    rw[hn])
   have hS:∀g,S g->∃h,(hs=some h∨hx=some h)∧∃X,find hp h=some (.mrow elem ts X none)∧(U h).ownBlock=some g:=fun g hg=>by
    rcases hg with hg|hg
    ·obtain⟨h,e1,e2,e3⟩:=hblk1 g hg;exact⟨h,.inl e1,X1,e2,by rw[e3];exact hg⟩
    ·obtain⟨h,e1,e2,e3⟩:=hblk2 g hg;exact⟨h,.inr e1,X2,e2,by rw[e3];exact hg⟩
   have hfm:∀k o1,find (jcG (jcG (jah hp) hs) hx) k=some o1->(o1=.dead∧k<nx)∨(hs≠some k∧hx≠some k∧find (jah hp) k=some o1):=fun k o1 hk=>by
    rw[jot]at hk;split at hk
    ·rename_i e;cases hk;subst e;rcases jnm (U:=U) hsx with ⟨e,_⟩|⟨k2,e,_,hf⟩
     ·cases e
     ·cases e;exact .inl ⟨rfl,(hh.ok _ _ hf).1⟩
    ·rename_i e;rw[jot]at hk;split at hk
     ·rename_i e2;cases hk;subst e2;rcases jnm (U:=U) hss with ⟨e,_⟩|⟨k2,e,_,hf⟩
      ·cases e
      ·cases e;exact .inl ⟨rfl,(hh.ok _ _ hf).1⟩
     ·rename_i e2;exact .inr ⟨e2,e,hk⟩
   have hhm:HRel U B' (jcG (jcG (jah hp) hs) hx) nx w:=by
    refine⟨fun k o1 hk=>?_,fun k o1 k' o1' bb hk hk' hne' hb hb'=>?_,hh.glob⟩
    ·rcases hfm k o1 hk with ⟨rfl,hlt⟩|⟨hn1,hn2,hk⟩
     ·exact⟨hlt,trivial,trivial⟩
     ·obtain⟨o2,h4,h5,h6,h7,h8,h9⟩:=jaO hh hk;refine⟨h5,h6,O.ok_retag (B:=B) (B':=B') (fun _=>ke) (fun _=>ke) hall h7 h8 fun kk hm ⟨gk,hgk⟩ eM=>?_⟩;rw[hmu kk _ hm,if_neg (fun hSg=>?_)];obtain⟨h,hor,X,hfh,hgh⟩:=hS _ hSg;rw[jrf hgk]at hgh
      have hkh:k≠h:=fun e=>by
       subst e;rcases hor with e|e
       ·exact hn1 e
       ·exact hn2 e
      rcases jkQ hk with h12|h12
      ·exact hh.apart k _ h _ gk h12 hfh hkh ((O.isM_blk eM).trans hgk) hgh
      ·subst h12;cases eM
    ·have hb2:∀k o1,find (jcG (jcG (jah hp) hs) hx) k=some o1->o1.blk (U k)=some bb->∃o2,find hp k=some o2∧o2.blk (U k)=some bb:=fun k o1 hk hb=>by
      rcases hfm k o1 hk with ⟨rfl,_⟩|⟨_,_,hk⟩
      ·cases hb
      ·obtain⟨o2,h4,_,_,_,_,h9⟩:=jaO hh hk;exact⟨o2,h4,h9 bb hb⟩
     obtain⟨p1,p2,p3⟩:=hb2 k o1 hk hb;obtain⟨p4,p5,p6⟩:=hb2 k' o1' hk' hb';exact hh.apart k p1 k' p4 bb p2 p5 hne' p3 p6
   have hB':Old B' w:=fun k hk=>hB k (hall k hk)
   have hgB:∀k,(us.val U).ownBlock=some k->¬B'.all k:=fun k hk hc=>by
    obtain⟨h,_,hf,e⟩:=hblk1 k hk;exact(O.blk_lt (hh.ok h _ hf).2.2 (show(O.mrow elem ts X1 none).blk (U h)=some k by rw[e];exact hk)).2 (hall k hc)
   have hbl:Bel B' w w':=jc6 hgrown hgB hB';have hl1:us1.length=X1.n*(e+1):=by rw[hown.1,he]
   have hstay:∀k,B.mu k≠none->w'.heap[k]?=w.heap[k]?:=fun k hk=>hgrown.block k (hB k (.inr hk)) (fun e'=>by
    have e:=e'.symm;obtain⟨h,_,hf,e2⟩:=hblk1 k e;exact(O.blk_lt (hh.ok h _ hf).2.2 (show(O.mrow elem ts X1 none).blk (U h)=some k by rw[e2];exact e)).2 (.inr hk))
   refine jak (U':=upd U nx v') (w':=w') ?_ ?_
   ·unfold qr;simp only[ho,hcal,yF,hargs,hts,xX,zM,qR,zn,zp,zh,jg,builtin,hvs,hvx,hrun];simp[V.val,W.val,C.val]
   ·refine⟨jal _ _ _,zo nx,qt nx,⟨B',⟨⟨fun _ h=>h,fun _ h=>h⟩,fun k hk=>.inl (hall k hk),fun k hk=>.inl hk,fun h=>by cases h⟩,?_⟩,hbl,(fun h=>by cases h),fun h=>by cases h⟩;refine HRel.grow hhm hB' hgrown hgB (hp1:=jcG (jcG (jah hp) hs) hx) ?_ ?_ ?_ trivial (fun k hk=>hwhere k hk)
    ·intro k o1 hk;left;rw[jaz,hk];rcases hfm k o1 hk with ⟨rfl,_⟩|⟨_,_,hk1⟩
     ·rfl
     ·have:=jmK hk1;cases o1<;>first|rfl|cases this
    ·intro k o1 g hk hbk hvg;rcases hfm k o1 hk with ⟨rfl,_⟩|⟨hn1,_,hk1⟩
     ·cases hbk
     ·obtain⟨h,e1,hf,e2⟩:=hblk1 g hvg;obtain⟨o2,h2',_,_,_,_,h7⟩:=jaO hh hk1;exact hh.apart h _ k o2 g hf h2' (fun e=>hn1 (by rw[<-e];exact e1)) (show(O.mrow elem ts X1 none).blk (U h)=some g by rw[e2];exact hvg) (h7 g hbk)
    ·have hnx:upd U nx v' nx=v':=upd_same _ _ _
     have hn1:∀i',i'<X1.n->∃g,(us.val U).ownBlock=some g∧(base (us.val U)).block=g:=fun i' hi'=>by
      rcases hown.2 with ⟨_,hn⟩|⟨g,cap,cur,q1,_⟩
      ·omega
      ·exact⟨g,by rw[q1];rfl,by rw[q1];rfl⟩
     have hn2:∀i',i'<X2.n->∃g,(ux.val U).ownBlock=some g∧(base (ux.val U)).block=g:=fun i' hi'=>by
      rcases hown2.2 with ⟨_,hn⟩|⟨g,cap,cur,q1,_⟩
      ·omega
      ·exact⟨g,by rw[q1];rfl,by rw[q1];rfl⟩
     have hg1:∀i' j',i'<X1.n->j'<X1.e->∃u,(us1++us2)[i' * X1.e+j']?=some u∧us1[i' * X1.e+j']?=some u:=fun i' j' hi' hj'=>by
      obtain⟨u,q1,q2⟩:=hat1 i' j' hi' hj';exact⟨u,by rw[z7 (zB.1 q1).1];exact q1,q1⟩
     have hg2:∀i' j',¬i'<X1.n->i'<X1.n+X2.n->j'<X1.e->∃u,(us1++us2)[i' * X1.e+j']?=some u∧us2[(i' - X1.n)*X2.e+j']?=some u:=fun i' j' hge hi' hj'=>by
      obtain⟨u,q1,q2⟩:=hat2 (i' - X1.n) j' (by omega) (by rw[a3];exact hj');refine⟨u,?_,q1⟩
      have e2:i' * X1.e+j'=us1.length+((i' - X1.n)*X2.e+j'):=by
       rw[hl1,a3,he,<-qU,<-qo]
       congr 2
       omega
      rw[e2,qa (by omega),gF];exact q1
     refine⟨us1++us2,?_,fun i' j' hi' hj' _=>?_,fun i1 j1 i2 j2 u v k hi1 hj1 hi2 hj2 hne' _ _ hu1 hv1 hk1 hk2=>?_,fun k hk hc=>?_⟩
     ·rw[hnx,a1,a2,he];exact hown'
     ·rw[a1]at hi';rw[a2]at hj' ⊢;rw[a5,hnx];split
      ·rename_i hlt;obtain⟨u,q1,q2⟩:=hg1 i' j' hlt hj';obtain⟨u2,q3,q4⟩:=hat1 i' j' hlt hj';rw[q2]at q3;cases q3;obtain⟨g,hgo,hgb⟩:=hn1 i' hlt;refine⟨u,q1,jcc (jeZ q4 fun k hk hm=>?_) fun k hk=>hstay k (by rw[jcy q4 hk];simp)⟩;rw[hmu k _ hm,if_pos];rw[hgb];exact .inl hgo
      ·rename_i hge;obtain⟨u,q1,q2⟩:=hg2 i' j' hge hi' hj';obtain⟨u2,q3,q4⟩:=hat2 (i' - X1.n) j' (by omega) (by rw[a3];exact hj');rw[q2]at q3;cases q3;obtain⟨g,hgo,hgb⟩:=hn2 (i' - X1.n) (by omega);refine⟨u,q1,jcc (jeZ q4 fun k hk hm=>?_) fun k hk=>hstay k (by rw[jcy q4 hk];simp)⟩;rw[hmu k _ hm,if_pos];rw[hgb];exact .inr hgo
     ·rw[a1]at hi1 hi2;rw[a2]at hj1 hj2 hu1 hv1
      have cross:∀i1 j1 i2 j2 u v,i1<X1.n->¬i2<X1.n->i2<X1.n+X2.n->j1<X1.e->j2<X1.e->us1[i1*X1.e+j1]?=some u->us2[(i2-X1.n)*X2.e+j2]?=some v->u.ownBlock=some k->v.ownBlock=some k->False:=fun i1 j1 i2 j2 u v h1 h2 h2' h4 h5 h6 h7 h8 h9=>by
       obtain⟨u2,q3,q4⟩:=hat1 i1 j1 h1 h4;rw[h6]at q3;cases q3;obtain⟨v2,q5,q6⟩:=hat2 (i2-X1.n) j2 (by omega) (by rw[a3];exact h5);rw[h7]at q5;cases q5;have m1:=jcy q4 h8;have m2:=jcy q6 h9;obtain⟨g1,hgo1,hgb1⟩:=hn1 i1 h1;obtain⟨g2,hgo2,hgb2⟩:=hn2 (i2-X1.n) (by omega);rw[hgb1]at m1;rw[hgb2,m1]at m2;cases m2;obtain⟨p,e1,f1,e2⟩:=hblk1 g1 hgo1;obtain⟨p',e1',f1',e2'⟩:=hblk2 g1 hgo2;exact hh.apart p _ p' _ g1 f1 f1' (hne p p' e1 e1') (show(O.mrow elem ts X1 none).blk (U p)=some g1 by rw[e2];exact hgo1) (show(O.mrow elem ts X2 none).blk (U p')=some g1 by rw[e2'];exact hgo2)
      by_cases c1:i1<X1.n
      ·obtain⟨u',q1,q2⟩:=hg1 i1 j1 c1 hj1;rw[hu1]at q1;cases q1
       by_cases c2:i2<X1.n
       ·obtain⟨v2,q3,q4⟩:=hg1 i2 j2 c2 hj2;rw[hv1]at q3;cases q3;exact hd1 i1 j1 i2 j2 u v k c1 hj1 c2 hj2 hne' q2 q4 hk1 hk2
       ·obtain⟨v2,q3,q4⟩:=hg2 i2 j2 c2 hi2 hj2;rw[hv1]at q3;cases q3;exact cross i1 j1 i2 j2 u v c1 c2 hi2 hj1 hj2 q2 q4 hk1 hk2
      ·obtain⟨u',q1,q2⟩:=hg2 i1 j1 c1 hi1 hj1;rw[hu1]at q1;cases q1
       by_cases c2:i2<X1.n
       ·obtain⟨v2,q3,q4⟩:=hg1 i2 j2 c2 hj2;rw[hv1]at q3;cases q3;exact cross i2 j2 i1 j1 v u c2 c1 hi1 hj2 hj1 q4 q2 hk2 hk1
       ·obtain⟨v2,q3,q4⟩:=hg2 i2 j2 c2 hi2 hj2;rw[hv1]at q3;cases q3;exact hd2 (i1-X1.n) j1 (i2-X1.n) j2 u v k (by omega) (by rw[a3];exact hj1) (by omega) (by rw[a3];exact hj2) (fun e=>hne' (by rw[qg]at e ⊢;exact⟨by omega,e.2⟩)) q2 q4 hk1 hk2
     ·rw[hnx]at hk;rcases hwhere k hk with h|h
      ·exact hgB k h hc
      ·have:=hB' k hc;omega
def jsq {k:NK} {t:Nat} {c:C} {x:NC} {g:Option Nat} (h:jch hp k t c=some (x,g)):jaP hp [k] [t] [c]=some ([x],g.toList):=by
 simp only[jaP,x5,List.tail_cons,h];cases g<;>rfl
def jup {o:zX} {r:Res} (hh:HRel U B hp nx w) (hB:Old B w) (hr:jav U nx rd a) (h:jdU P o.op rd hp nx=some r) (hob:r.ob) :
  jax P U B nx a w o r (jam sp o.op rd):=by
 unfold jdU at h;split at h
 ·rename_i t l c hop;split at h
  ·rename_i elem k n k' m hnm hu hl hc;split at h
   ·rename_i X0 z b e ts hX hz hb hs htt;split at h
    ·rename_i r0 hs0 hcs hzl;cases h;obtain⟨ul,hul,hul'⟩:=zD.1 hl;obtain⟨uc,huc,huc'⟩:=zD.1 hc;simp only[hop,jam];exact juo hh hB hr hop hu hul hul' huc huc' hz hs hb (zb hzl) hcs hob
    ·cases h
   ·cases h
  ·cases h
 ·rename_i t n parts hop;split at h
  ·rename_i elem l hnm hnt hu hl;split at h
   ·rename_i X0 z e ts hX hz hs htt;split at h
    ·rename_i rs hs0 hcs hn hzl hXe hle;split at h
     ·rename_i hnd;cases h;simp only[hop,jam,hnt];exact jsp hh hB hr hop hu hl hz hs (zb hzl) (zb hXe) (zb hn) (zj hle) hcs hnd
     ·cases h
    ·cases h
   ·cases h
  ·cases h
 ·rename_i t x hop;split at h
  ·rename_i k i e j hx;split at h
   ·rename_i ty ts X hf;split at h
    ·rename_i he hag;split at h
     ·rename_i c hj hc;cases h;simp only[hop,jam];exact jsm hh hB hr hop hx hf (zb he) hag (zC (zo j) (zj hj)) hc hob
     ·cases h
    ·rename_i he hag;split at h
     ·rename_i sz hj hs;split at h
      ·rename_i hsz;have hj:=zb hj;subst hj;cases h;simp only[hop,jam];exact jsn hh hB hr hop hx hf (zb he) hag hs (zb hsz) hob
      ·cases h
     ·cases h
    ·cases h
   ·cases h
  ·cases h
 ·rename_i t x y hop;split at h
  ·rename_i h0 i e j u hx hy;split at h
   ·rename_i ty ts X ho sz hf hs;split at h
    ·rename_i hone hall he hXe he1 hsu;have he:=zb he;subst he;have hXe:=zb hXe;have he1:=zj he1;have hsu:=zb hsu;subst hsu
     have one:∀(c0:C) (k:NK) (x0:NC) (g0:Option Nat) (q:Prop),u.cells=[c0]->X.sh[j]?=some k->jch hp k (ts.getD j 0) c0=some (x0,g0)->i<X.n->(∀i0 j0,ho=some (i0,j0)->i0=i∧j=j0) ->
       jax P U B nx a w o ⟨q,vu,(h0,.mrow ty ts (X.put i (X.row i j x0)) none)::jdm (jah hp) g0.toList,nx⟩ false:=by
      intro c0 k x0 g0 q huc hk hc0 hi hho;have hjl:j<X.e:=by rw[<-X.sh_len];exact(zB.1 hk).1
      have c1:=(jgS hh hc0).1;have hrow:=X.row_spec (i:=i) hk c1;have hput:=X.cell_put hrow.1 hi
      refine jkP hh hr hop hx hy hone hall hs hf hi (by rw[huc];simp;omega) (sh1:=[k]) (ts1:=[ts.getD j 0]) (r:=[x0]) (by rw[huc];exact jsq hc0) (by cases g0<;>simp[jfL]) (fun m hm=>by
       rw[huc]at hm;simp at hm;subst hm;rfl) ⟨hput.1,hput.2.1⟩ (fun i' j' hj'=>?_) (fun i0 j0 e=>by
       obtain⟨e1,e2⟩:=hho i0 j0 e;rw[huc];simp;omega)
      rw[hput.2.2.2 i' j' hj',huc]
      by_cases e:i'=i
      ·subst e;rw[if_pos rfl,hrow.2 j' hj']
       by_cases e2:j'=j
       ·subst e2;rw[if_pos rfl,if_pos ⟨rfl,zu _,by simp⟩];simp
       ·rw[if_neg e2,if_neg (by simp;omega)]
      ·rw[if_neg e,if_neg (fun h=>e h.1)]
     split at h
     ·rename_i hse;have hse:=zb hse;split at h
      ·rename_i r0 hs0 hj hcs;have hj:=zb hj;subst hj;split at h
       ·rename_i hnd;cases h;obtain⟨c1,c2,_⟩:=jcZ hh hcs;have hput:=X.cell_put c1 hob;simp only[hop,jam];refine jkP hh hr hop hx hy hone hall hs hf hob (by omega) hcs hnd (fun m hm=>by rw[zP]) ⟨hput.1,hput.2.1⟩ (fun i' j' hj'=>?_) (fun i0 j0 e=>by cases e);rw[hput.2.2.2 i' j' hj']
        by_cases e:i'=i
        ·subst e;rw[if_pos rfl,if_pos ⟨rfl,qI _,by omega⟩];rfl
        ·rw[if_neg e,if_neg (fun h=>e h.1)]
       ·cases h
      ·cases h
     ·split at h
      ·rename_i c0 k huc hk;split at h
       ·rename_i x0 g0 hc0;split at h
        ·cases h;simp only[hop,jam];exact one c0 k x0 g0 _ huc hk hc0 hob (fun i0 j0 e=>by cases e)
        ·rename_i i0 j0;split at h
         ·rename_i hjj;have hjj:=zb hjj;cases h;simp only[hop,jam];exact one c0 k x0 g0 _ huc hk hc0 hob.2 (fun i1 j1 e=>by cases e;exact⟨hob.1.symm,hjj⟩)
         ·cases h
       ·cases h
      ·cases h
    ·cases h
   ·rename_i r0 i0 e0 j0 t0 c sz hf hs;split at h
    ·rename_i ds hone hall he he1 hsu hds;have he:=zb he;subst he;have he1:=zj he1;have hsu:=zb hsu;subst hsu;split at h
     ·rename_i c' ty ts X hupd hfr;split at h
      ·rename_i k he0 hk;have he0:=zb he0;split at h
       ·rename_i hnk htt;cases h;simp only[hop,jam];exact jso hh hr hop hx hy hone hs hall hf hds (Cont.upd_cell hupd hob) he1 hob hfr he0 hk hnk (zb htt)
       ·cases h
      ·cases h
     ·cases h
    ·cases h
   ·cases h
  ·cases h
 ·rename_i c hop;split at h
  ·rename_i s x t t' hcal hargs hts;split at h
   ·rename_i elem htt hu;have htt:=zb htt;subst htt;have e1:c.args=#[s,x]:=by apply qy;simpa using hargs
    have e2:c.argTypes=#[t,t]:=by apply qy;simpa using hts
    have outer:jfM P t elem (rd s) (rd x) hp nx=some r->jax P U B nx a w o r (jam sp o.op rd):=by
     intro h;unfold jfM at h;split at h
     ·rename_i X0 z e b ts hnm hX hz hs hb htt;split at h
      ·rename_i hs0 ty t1 X1 hx0 ty' t2 X2 h1 h2;split at h
       ·rename_i X3 h3 hty hty' hzl he1 hne;cases h;obtain⟨us,hus,hus'⟩:=zD.1 h1;obtain⟨ux,hux,hux'⟩:=zD.1 h2;simp only[hop,jam,hcal]
        exact jrg hh hB hr hop hcal e1 e2 hu hus hux hX hus' hux' hz hs hb
         (fun h e=>by subst e;simp only[zk]at hty;exact⟨zb hty.1,of_decide_eq_true hty.2⟩)
         (fun h e=>by subst e;simp only[zk]at hty';exact⟨zb hty'.1,of_decide_eq_true hty'.2⟩)
         (fun h h' e e'=>by
          subst e;subst e';intro e;subst e;simp at hne) h3 (zb hzl) (zb he1) hob _
       ·cases h
      ·cases h
     ·cases h
    split at h
    ·rename_i hs0 hob0;split at h
     ·rename_i r0 i0 e0 j0 t0 c1 hf;split at h
      ·rename_i cx hx0 z e b ty ts X hsx hz hs hb hfr;split at h
       ·rename_i c2 h2;split at h
        ·rename_i c3 h3 ht0 he0;split at h
         ·rename_i hcond;cases h;obtain⟨ux,hux,hux'⟩:=zD.1 hsx;obtain⟨us,hus,hus'⟩:=zD.1 hob0
          have hus2:rd s=some (.w (.c (.o hs0))):=by
           unfold V.obj? at hus';split at hus'
           ·cases hus';exact hus
           ·cases hus'
          simp only[hop,jam,hcal];exact jre hh hB hr hop hcal e1 e2 hu hus2 hf hfr (zb ht0) (zb he0) hux hux' hz hs hb h2 h3 hcond.1 hcond.2.1 (Cont.one_all hcond.2.2) hob _
         ·cases h
        ·cases h
       ·cases h
      ·cases h
     ·exact outer h
    ·exact outer h
   ·cases h
  ·cases h
 ·cases h
end
end Go.Sx
end

section
open Go.RowKit
namespace Go.Sx
section
variable [Globs] {P:zy} {U:Env} {B:Kd} {nx:Nat} {hp:Hp} {w:zx} {rd:zH->Option V} {a:Act} {sp:jaa}
def juq {o:zX} {t h i e j m ty:Nat} {ts:List Nat} {x:zH} {X:XC} {c:Cont} {q:Prop} (hh:HRel U B hp nx w) (hB:Old B w) (hr:jav U nx rd a) (ho:o.op=.load t x) (hx:rd x=some (.w (.c (.p h i e j)))) (hf:find hp h=some (.trow ty ts X m))
  (he:e=X.e) (hag:jbj P t=some false) (hj:j<X.e) (hc:X.cell i j=.r c) (hob:i<X.n∧m<=i*X.e+j) :
  jax P U B nx a w o ⟨q,.w (.c (.o nx)),(nx,.ext c)::hp,nx+1⟩ true:=by
 subst he;obtain⟨us,hr2,hat,_⟩:=(hh.ok h _ hf).2.2;rcases hr2.2 with ⟨h1,hn⟩|⟨g,cap,cur,h1,h2,h3,h4,h5,h6,h7⟩
 ·omega
 ·obtain⟨u,hu,_,hua⟩:=hat i j hob.1 hj;have hux:=hua hob.2;rw[hc]at hux
  have hcell:w.cell? ⟨(base (U h)).block,(base (U h)).off+(i*X.e+j),none⟩=some u:=by
   rw[h1];simp only[base,zP];rw[xj w g _ cur ty (0,0) h3];have h2:(cur.toList.take (X.n*X.e))[i*X.e+j]?=some u:=by rw[h7,hu]
   rw[z6]at h2;split at h2
   ·simpa using h2
   ·cases h2
  have hok:(O.ext c).ok (upd U nx u) B w nx:=by
   unfold O.ok;simp only;rw[upd_same];exact hux
  refine jak (U':=upd U nx u) (w':=w) ?_ (jcQ hh hB u (.ext c) rfl rfl (show V.lt (nx+1) (.w (.c (.o nx)))from zo nx) true trivial hok rfl);unfold qr;have hlv:=jaV (P:=P) w hag hcell;simp[ho,(hr _ _ hx).2,C.val,yE,qA,hlv,V.val,W.val]
def jhA {B:Bd} {B2:Kd} {w w2:zx} {g ty:Nat} {v:zF} {X:XC} {i j:Nat} (h:(X.cell i j).at B w v) (hs:(X.sh.getD j .b).isSl=false) (hj:j<X.e):(X.cell i j).own B2 w2 g ty v:=by
 cases X with
 |st sh l =>
  have hs:(sh.getD j .b).isSl=false:=hs;simp only[XC.cell]at h ⊢;cases hk:sh.getD j .b<;>rw[hk]at hs h<;>first|(cases hs;done)|(simp only[NK.norm]at h ⊢;exact h)
 |_ =>
  all_goals
   simp only[XC.e]at hj;obtain rfl:j=0:=by omega
   cases hs
def jzy {B:Bd} {w:zx} {v:zF} {X:XC} {i j k:Nat} (h:(X.cell i j).at B w v) (hs:(X.sh.getD j .b).isSl=false) (hj:j<X.e):v.ownBlock≠some k:=fun hk=>by
 have:=jcy (B:=kd fun _=>False) (w:=w) (g:=0) (ty:=0) (jhA h hs hj) hk;cases this
def jzz {ty q x:Nat} {ts:List Nat} {X:XC} (h:(O.trow ty ts X q).ok U B w x) (hs:∀i j,i<X.n->j<X.e->q<=i*X.e+j->(X.sh.getD j .b).isSl=false):(O.mrow ty ts X none).ok U B w x:=by
 obtain⟨us,h1,h2,h3,h4⟩:=h;refine⟨us,h1,fun i j hi hj _=>?_,fun i j i' j' u v k hi hj hi' hj' hne _ _ hu hv hk hk'=>?_,h4⟩
 ·obtain⟨u,hu,hx,ha⟩:=h2 i j hi hj;refine⟨u,hu,?_⟩
  by_cases hq:i*X.e+j<q
  ·exact hx hq
  ·exact jhA (ha (by omega)) (hs i j hi hj (by omega)) hj
 ·have low:∀i j u,i<X.n->j<X.e->us[i*X.e+j]?=some u->u.ownBlock=some k->i*X.e+j<q:=fun i j u hi hj hu hk=>by
   by_cases hq:i*X.e+j<q
   ·exact hq
   ·obtain⟨u',hu',_,ha⟩:=h2 i j hi hj;rw[hu]at hu';cases hu';exact absurd hk (jzy (ha (by omega)) (hs i j hi hj (by omega)) hj)
  exact h3 i j i' j' u v k hi hj hi' hj' hne (low i j u hi hj hu hk) (low i' j' v hi' hj' hv hk') hu hv hk hk'
def jsr {o:zX} {t h i j m ty:Nat} {ts:List Nat} {x y:zH} {u:W} {c0:C} {k:NK} {x0:NC} {g0:Option Nat} {X:XC} {q:Prop} (hh:HRel U B hp nx w) (hr:jav U nx rd a) (hop:o.op=.store t x y)
  (hx:rd x=some (.w (.c (.p h i X.e j)))) (hy:rd y=some (.w u)) (hone:u.one hp=true) (hall:(u.cells.all fun c=>c.one hp)=true) (hs1:szT P t=some u.cells.length) (hf:find hp h=some (.trow ty ts X m)) (hu:u.cells=[c0]) (hk:X.sh[j]?=some k)
  (hco:jch hp k (ts.getD j 0) c0=some (x0,g0)) (hob:i<X.n∧m<=i*X.e+j∧∀i' j',j'<X.e->m<=i' * X.e+j'->i' * X.e+j'<i*X.e+j->(X.sh.getD j' .b).isSl=false) :
  jax P U B nx a w o ⟨q,vu,(h,.trow ty ts (X.put i (X.row i j x0)) (i*X.e+j+1))::jdm (jah hp) g0.toList,nx⟩ false:=by
 have h1:=hr _ _ hx;have h2:=hr _ _ hy;obtain⟨hi,hm,hfl⟩:=hob;obtain⟨hlt,hol,us,⟨hlen,hcase⟩,hat,hd,hBk⟩:=hh.ok h _ hf;rcases hcase with ⟨_,hn⟩|⟨g,cap,cur,hkr,_,hheap,hncap,hcapm,hcsz,htk⟩
 ·omega
 have hbase:(base (U h)).block=g:=by rw[hkr];rfl
 rw[hbase]at hat;obtain⟨a1,a2,a3,a4⟩:=jgS hh hco
 have hvf:∀q∈g0.toList,∃t c,find (jah hp) q=some (.row t c):=fun q hq=>by
  obtain⟨_,t',c',h3⟩:=a2 q (by simpa using hq);exact⟨t',c',by rw[jaz,h3];rfl⟩
 obtain⟨B',gr,hlm,hh',htag,hallB,hkp⟩:=jwg (jgR hh) hvf g
 have hhs:h∉g0.toList:=fun hm=>by
  obtain⟨_,t',c',h3⟩:=a2 h (by simpa using hm);rw[hf]at h3;cases h3
 have hf':find (jdm (jah hp) g0.toList) h=some (.trow ty ts X m):=by rw[jdp,if_neg hhs,jaz,hf];rfl
 have hB'g:¬B'.all g:=by
  obtain⟨_,_,_,_,h9⟩:=(hh'.ok h _ hf').2.2;exact h9 g (by rw[hkr];rfl)
 have hjl:j<X.e:=by rw[<-X.sh_len];exact(zB.1 hk).1
 have hrow:=X.row_spec (i:=i) hk a1;have hput:=X.cell_put hrow.1 hi
 have hcell:∀i' j',j'<X.e->(X.put i (X.row i j x0)).cell i' j'=if i'=i∧j'=j then x0 else X.cell i' j':=fun i' j' hj'=>by
  rw[hput.2.2.2 i' j' hj']
  by_cases e:i'=i
  ·subst e;rw[if_pos rfl,hrow.2 j' hj']
   by_cases e2:j'=j
   ·rw[if_pos e2,if_pos ⟨rfl,e2⟩]
   ·rw[if_neg e2,if_neg (fun h=>e2 h.2)]
  ·rw[if_neg e,if_neg (fun h=>e h.1)]
 have hc:=W.cells_val hh hone;rw[hu]at hc;have hvs:(u.val U).cells.size=1:=by rw[hc];simp
 have hin:i*X.e+j+1<=X.n*X.e:=by
  have:(i+1)*X.e<=X.n*X.e:=zW _ hi;rw[qo]at this;omega
 have hcapsz:X.n*X.e<=cap*X.e:=zW _ hncap
 have hst:=jbB (P:=P) (t:=t) (g:=g) (off:=i*X.e+j) (v:=u.val U) (by rw[hvs,hs1,hu];rfl) hheap (by rw[hvs,hcsz];omega) (by
  have:=jcv hh hall;rw[hu]at this;rw[hc];exact this)
 obtain⟨w',hw'⟩:∃w',w'=w.setRow g ((cur.toList.take (i*X.e+j)++(u.val U).cells.toList++cur.toList.drop (i*X.e+j+(u.val U).cells.size)).toArray):=⟨_,rfl⟩
 rw[<-hw']at hst;refine jbR (U':=U) (w':=w') ?_ rfl ?_
 ·unfold qr;have h1v:a.eval x=.pointer (some ⟨g,i*X.e+j,none⟩):=by rw[h1.2];simp[C.val,hkr,base]
  have h2v:a.eval y=u.val U:=h2.2;simp only[hop,h1v,h2v,yh,qA,zn,zp,zh,hst]
 ·have hbel:Bel B' w w':=by rw[hw'];exact jbX hB'g
  have hsize:w'.heap.size=w.heap.size:=by rw[hw'];simp
  refine⟨jae.refl _ _,trivial,zu _,⟨B',gr.later (by omega),?_⟩,hbel.mono gr.le.kp,(fun h=>by cases h),fun h=>by cases h⟩;have hoth:∀k,k≠g->w'.heap[k]?=w.heap[k]?:=fun k hne=>by rw[hw'];exact yg w g k _ hne
  have hul:us.length=X.n*X.e:=hlen;have hvl:(u.val U).cells.toList=[c0.val U]:=by rw[hc];rfl
  have htake:(cur.toList.take (i*X.e+j)++(u.val U).cells.toList++cur.toList.drop (i*X.e+j+(u.val U).cells.size)).take (X.n*X.e)=us.take (i*X.e+j)++[c0.val U]++us.drop (i*X.e+j+1):=by
   rw[hvl,hvs];apply xg;intro t;have hcl:cur.toList.length=cap*X.e:=by simp[hcsz]
   have s1:=jb6 (us:=cur.toList) (vs:=[c0.val U]) (off:=i*X.e+j) (t:=t) (by simp only[z4,qD];omega);have s2:=jb6 (us:=us) (vs:=[c0.val U]) (off:=i*X.e+j) (t:=t) (by simp only[z4,qD];omega);simp only[z4,qD,zP]at s1 s2;rw[z6,s1,s2]
   by_cases ht:t<X.n*X.e
   ·rw[if_pos ht];have:us[t]?=cur.toList[t]?:=by rw[<-htk,z6,if_pos ht]
    rw[this]
   ·rw[if_neg ht,if_neg (by omega)];exact(z9 (by omega)).symm
  have hget:∀q,(us.take (i*X.e+j)++[c0.val U]++us.drop (i*X.e+j+1))[q]?=if q=i*X.e+j then some (c0.val U)else us[q]?:=fun q=>by
   have s2:=jb6 (us:=us) (vs:=[c0.val U]) (off:=i*X.e+j) (t:=q) (by simp only[z4,qD];omega);simp only[z4,qD,zP]at s2;rw[s2]
   by_cases e:q=i*X.e+j
   ·subst e;rw[if_pos ⟨zu _,zo _⟩,if_pos rfl,Nat.sub_self];rfl
   ·rw[if_neg (by omega),if_neg e]
  have hrowout:∀k,(c0.val U).ownBlock=some k->¬B.all k∧B'.mu k=some g:=fun k hk'=>by
   obtain⟨q,hq,hc0⟩:=a3 k hk';obtain⟨_,t',c',h3⟩:=a2 q hq;rw[hc0]at hk';exact⟨(O.blk_lt (hh.ok q _ h3).2.2 (show(O.row t' c').blk (U q)=some k from hk')).2,htag q (by simp[hq]) k hk'⟩
  have hflat:∀i' j' v k,i'<X.n->j'<X.e->m<=i' * X.e+j'->i' * X.e+j'<i*X.e+j->us[i' * X.e+j']?=some v->v.ownBlock≠some k:=fun i' j' v k hi' hj' h3 h4 hv hk'=>by
   obtain⟨v',hv',_,ha⟩:=hat i' j' hi' hj';rw[hv]at hv';cases hv';have:=jcy (B:=kd fun _=>False) (w:=w) (g:=g) (ty:=0) (jhA (ha h3) (hfl i' j' hj' h3 h4) hj') hk';cases this
  have hnin:i*X.e+j<i*X.e+j+1:=zo _;refine HRel.write (o':=.trow ty ts (X.put i (X.row i j x0)) (i*X.e+j+1)) hh' hf' (g:=g) (by simp[O.blk,hkr,zL]) (fun k _ hne=>hoth k hne) ?_ trivial (by simp[O.blk,hkr,zL]) |>.sub fun k o1 hk1=>?_
  ·have hXn:=hput.1;have hXe:=hput.2.1;refine⟨us.take (i*X.e+j)++[c0.val U]++us.drop (i*X.e+j+1),⟨?_,.inr ⟨g,cap,_,by rw[hXn];exact hkr,qI _,by rw[hw'];exact yT w g _ _ ty (0,0) hheap,by rw[hXn];exact hncap,hcapm,?_,by rw[hXn,hXe];exact htake⟩⟩,fun i' j' hi' hj'=>?_,fun i1 j1 i2 j2 v1 v2 k hi1 hj1 hi2 hj2 hne hq1 hq2 hg1 hg2 hk1 hk2=>?_,fun k hk2=>?_⟩
   ·simp only[hXn,hXe,qb,qP,xf,z4,qD];omega
   ·simp only[hXe,xE,qb,qP,xf,yr,hvs];omega
   ·rw[hXn]at hi';rw[hXe]at hj' ⊢;rw[hbase,hget,hcell i' j' hj']
    by_cases e:i' * X.e+j'=i*X.e+j
    ·obtain⟨rfl,rfl⟩:=jvy hj' hjl e;rw[if_pos rfl,if_pos ⟨rfl,rfl⟩];refine⟨_,rfl,fun _=>?_,fun h3=>by omega⟩;refine jcc (a4 B' g (fun q hq b hb=>htag q (by simp[hq]) b hb)) fun k hk'=>hoth k fun e2=>?_;exact hB'g (.inr (by rw[<-e2,(hrowout k hk').2];simp))
    ·rw[if_neg e,if_neg (fun h=>e (by rw[h.1,h.2]))];obtain⟨v,hv,hvx,hva⟩:=hat i' j' hi' hj';refine⟨v,hv,fun h3=>?_,fun h3=>NC.at_bel (NC.at_mono (fun k=>(hkp k).2) (hva (by omega))) hbel⟩
     by_cases h4:i' * X.e+j'<m
     ·refine jcc (jeZ (hvx h4) fun k _ hm=>hlm k g hm) fun k hk'=>hoth k fun e=>?_;have:=jcy (hvx h4) hk';exact hB'g (.inr (by rw[<-e,hlm k g this];simp))
     ·exact jhA (hva (by omega)) (hfl i' j' hj' (by omega) (by omega)) hj'
   ·rw[hXn]at hi1 hi2;rw[hXe]at hj1 hj2 hg1 hg2 hq1 hq2;rw[hget]at hg1 hg2
    have old:∀i' j' v k,i'<X.n->j'<X.e->i' * X.e+j'≠i*X.e+j->i' * X.e+j'<i*X.e+j+1->us[i' * X.e+j']?=some v->v.ownBlock=some k->i' * X.e+j'<m∧B.mu k=some g:=fun i' j' v k hi' hj' e hq hv hk'=>by
     by_cases h4:i' * X.e+j'<m
     ·obtain⟨v',hv',hvx,_⟩:=hat i' j' hi' hj';rw[hv]at hv';cases hv';exact⟨h4,jcy (hvx h4) hk'⟩
     ·exact absurd hk' (hflat i' j' v k hi' hj' (by omega) (by omega) hv)
    by_cases e1:i1*X.e+j1=i*X.e+j
    ·rw[if_pos e1]at hg1;cases hg1
     by_cases e2:i2*X.e+j2=i*X.e+j
     ·obtain⟨r1,r2⟩:=jvy hj1 hj2 (e1.trans e2.symm);exact hne (by rw[r1,r2])
     ·rw[if_neg e2]at hg2;have:=(old i2 j2 v2 k hi2 hj2 e2 hq2 hg2 hk2).2;exact(hrowout k hk1).1 (.inr (by rw[this];simp))
    ·rw[if_neg e1]at hg1;have b1:=old i1 j1 v1 k hi1 hj1 e1 hq1 hg1 hk1
     by_cases e2:i2*X.e+j2=i*X.e+j
     ·rw[if_pos e2]at hg2;cases hg2;exact(hrowout k hk2).1 (.inr (by rw[b1.2];simp))
     ·rw[if_neg e2]at hg2;have b2:=old i2 j2 v2 k hi2 hj2 e2 hq2 hg2 hk2;exact hd i1 j1 i2 j2 v1 v2 k hi1 hj1 hi2 hj2 hne b1.1 b2.1 hg1 hg2 hk1 hk2
   ·obtain⟨_,_,_,_,h9⟩:=(hh'.ok h _ hf').2.2;exact h9 k hk2
  ·simp only[find]at hk1 ⊢;split at hk1
   ·rename_i e;rw[if_pos e];exact hk1
   ·rename_i e;rw[if_neg e,jaz,hk1];rw[jdp]at hk1;split at hk1
    ·cases hk1;rfl
    ·rw[jaz]at hk1;cases hfk:find hp k with
     |none=>simp[hfk]at hk1
     |some ok =>
      simp only[hfk,zQ,zi]at hk1;subst hk1;cases ok<;>rfl
def jou {h:Nat}:∀{l:Hp},find (l.map fun x=>(x.1,jrN hp x.2)) h=(find l h).map (jrN hp)
 |[]=>rfl
 |x::r=>by
  obtain⟨k,o⟩:=x;simp only[zM,find];split
  ·rfl
  ·exact jou
def jmL {k:Nat} {o:O} (h:find (joj hp) k=some o):find (jah hp) k=some o∨∃r i e j t c ty ts X,o=.sub r i e j t c∧find hp k=some o∧find hp r=some (.mrow ty ts X none):=by
 unfold joj at h;rw[jou]at h;rw[jaz];cases hf:find hp k with
 |none=>rw[hf]at h;cases h
 |some o2 =>
  rw[hf]at h;simp only[zQ,zi]at h ⊢;cases o2 with
  |sub r i e j t c =>
   simp only[jrN]at h;split at h
   ·rename_i ty ts X hr;exact .inr ⟨r,i,e,j,t,c,ty,ts,X,h.symm,by rw[<-h],hr⟩
   ·exact .inl h
  |_=>exact .inl h
def jss {o:zX} {t h i e j ty:Nat} {x y:zH} {u:W} {cs:List C} (hh:HRel U B hp nx w) (hr:jav U nx rd a) (ho:o.op=.store t x y)
  (hx:rd x=some (.w (.c (.p h i e j)))) (hy:rd y=some (.w u)) (hone:u.one hp=true) (hs:szT P t=some u.cells.length) (hall:(u.cells.all fun c=>c.one hp)=true)
  (hf:find hp h=some (.box ty cs)) (hle:i*e+j+u.cells.length<=cs.length) :
  jax P U B nx a w o ⟨True,vu,(h,.box ty (cs.take (i*e+j)++u.cells++cs.drop (i*e+j+u.cells.length)))::joj hp,nx⟩ false:=by
 have h1:=hr _ _ hx;have h2:=hr _ _ hy;obtain⟨hlt,hol,g,hk,hBg,hheap⟩:=hh.ok h _ hf;have hc:=W.cells_val hh hone;have hvs:(u.val U).cells.size=u.cells.length:=by rw[hc];simp
 have hst:=jbB (P:=P) (t:=t) (g:=g) (off:=i*e+j) (v:=u.val U) (by rw[hvs];exact hs) hheap (by rw[hvs];simpa using hle) (by rw[hc];exact jcv hh hall);obtain⟨w',hw'⟩:∃w',w'=w.setRow g (((cs.map (C.val U)).toArray.toList.take (i*e+j)++(u.val U).cells.toList++(cs.map (C.val U)).toArray.toList.drop (i*e+j+(u.val U).cells.size)).toArray):=⟨_,rfl⟩
 rw[<-hw']at hst;have hoth:∀k,k≠g->w'.heap[k]?=w.heap[k]?:=fun k hne=>by rw[hw'];exact yg w g k _ hne
 have H:HRel U B ((h,.box ty (cs.take (i*e+j)++u.cells++cs.drop (i*e+j+u.cells.length)))::jah hp) nx w':=by
  refine HRel.write hh hf (g:=g) (by simp[O.blk,hk,base]) (fun k _ hne=>hoth k hne) ?_ ?_ (by simp[O.blk,hk,base])
  ·refine⟨g,hk,hBg,?_⟩;rw[hw',yT w g _ _ ty (0,0) hheap,hc];simp
  ·intro c hcm;rcases qq.1 hcm with hcm|hcm
   ·rcases qq.1 hcm with hcm|hcm
    ·exact hol c (xU hcm)
    ·exact W.cells_lt h2.1 c hcm
   ·exact hol c (yj hcm)
 refine jbR (U':=U) (w':=w') ?_ rfl ?_
 ·unfold qr;have h1v:a.eval x=.pointer (some ⟨g,i*e+j,none⟩):=by rw[h1.2];simp[C.val,hk,base]
  have h2v:a.eval y=u.val U:=h2.2;simp only[ho,h1v,h2v,yh,qA,zn,zp,zh,hst]
 ·refine⟨jae.refl _ _,trivial,zu _,HRel.gr ⟨fun k o1 hk1=>?_,fun k o1 k' o2 b hk1 hk2 hne hb1 hb2=>?_,H.glob⟩,by rw[hw'];exact jbX hBg,(fun h=>by cases h),fun h=>by cases h⟩
  ·simp only[find]at hk1;split at hk1
   ·rename_i e1;exact H.ok k o1 (by simp only[find,if_pos e1];exact hk1)
   ·rename_i e1;rcases jmL hk1 with h3|⟨r,i1,e2,j1,t1,c,ty1,ts1,X,rfl,h3,h4⟩
    ·exact H.ok k o1 (by simp only[find,if_neg e1];exact h3)
    ·obtain⟨q1,q2,q3,q4,⟨a1,n1,cap1,q5,q6⟩,q7,q8⟩:=hh.ok k _ h3;refine⟨q1,q2,jb7 q3 fun b hb=>hoth b fun e=>?_,q4,⟨a1,n1,cap1,q5,q6⟩,(qp (w:=w) (hoth _ fun e=>?_)).trans q7,q8⟩
     ·exact hBg (.inr (by rw[<-e,q8 b hb];simp))
     ·obtain⟨us,⟨_,hr2⟩,_⟩:=(hh.ok r _ h4).2.2;rcases hr2 with ⟨hn,_⟩|⟨gl,cap,cur,hrr,_⟩
      ·rw[hn]at q5;cases q5;omega
      ·have hblk:(base (U r)).block=gl:=by rw[hrr];rfl
       rw[hblk]at e;subst e;have hrh:r≠h:=fun e3=>by subst e3;rw[hf]at h4;cases h4
       exact hh.apart r _ h _ gl h4 hf hrh (by rw[hrr];rfl) (by simp[O.blk,hk,base])
  ·have old:∀k o1,find ((h,O.box ty (cs.take (i*e+j)++u.cells++cs.drop (i*e+j+u.cells.length)))::joj hp) k=some o1->∀b,o1.blk (U k)=some b->find ((h,O.box ty (cs.take (i*e+j)++u.cells++cs.drop (i*e+j+u.cells.length)))::jah hp) k=some o1:=fun k o1 hk1 b hb=>by
    simp only[find]at hk1 ⊢;split at hk1
    ·rename_i e1;rw[if_pos e1];exact hk1
    ·rename_i e1;rw[if_neg e1];rcases jmL hk1 with h3|⟨r,i1,e2,j1,t1,c,ty1,ts1,X,rfl,_⟩
     ·exact h3
     ·cases hb
   exact H.apart k o1 k' o2 b (old k o1 hk1 b hb1) (old k' o2 hk2 b hb2) hne hb1 hb2
def jur {o:zX} {r:Res} (hh:HRel U B hp nx w) (hB:Old B w) (hr:jav U nx rd a) (h:jdV P o.op rd hp nx=some r) (hob:r.ob) :
  jax P U B nx a w o r (jam sp o.op rd):=by
 unfold jdV at h;split at h
 ·rename_i t x hop;split at h
  ·rename_i k i e j hx;split at h
   ·rename_i ty ts X m hf;split at h
    ·rename_i he hag;split at h
     ·rename_i c hj hc;cases h;simp only[hop,jam];exact juq hh hB hr hop hx hf (zb he) hag (zC (zo j) (zj hj)) hc hob
     ·cases h
    ·cases h
   ·cases h
  ·cases h
 ·rename_i t x y hop;split at h
  ·rename_i h0 i e j u hx hy;split at h
   ·rename_i ty ts X m sz hf hs;split at h
    ·rename_i hone hall he hsu;have he:=zb he;subst he;have hsu:=zb hsu;subst hsu;split at h
     ·rename_i c0 k huc hk;split at h
      ·rename_i x0 g0 hc0;cases h;simp only[hop,jam];exact jsr hh hr hop hx hy hone hall hs hf huc hk hc0 hob
      ·cases h
     ·cases h
    ·cases h
   ·rename_i ty cs sz hf hs;split at h
    ·rename_i _ hone hall hsu _ hle;have hsu:=zb hsu;subst hsu;cases h;simp only[hop,jam];exact jss hh hr hop hx hy hone hs hall hf (zj hle)
    ·cases h
   ·cases h
  ·cases h
 ·cases h
end
end Go.Sx
end

section
open Go.RowKit
namespace Go.Sx
section
variable [Globs] {P:zy} {U:Env} {B:Kd} {nx:Nat} {hp:Hp} {w:zx} {rd:zH->Option V} {a:Act} {sp:jaa}
def jvA {cs:List C} {ty e n:Nat} (hB:Old B w) (hl:∀c∈cs,C.lt nx c) (hlen:cs.length=n*e) (hm:n<=9223372036854775807) :
  (O.lbox ty e n cs).ok (upd U nx (.slice (some ⟨w.heap.size,0,none⟩) n n)) B (w.alloc (.cells (cs.map (C.val U)).toArray ty)) nx:=by
 have e1:cs.map (C.val (upd U nx (.slice (some ⟨w.heap.size,0,none⟩) n n)))=cs.map (C.val U):=z8 fun c hc=>C.val_agree (jal U nx _) (hl c hc);unfold O.ok;simp only[e1,upd_same];refine⟨⟨by simp[hlen],.inr ⟨w.heap.size,n,_,rfl,qI _,yx w _,zu _,by simpa [gY]using hm,by simp[hlen],?_⟩⟩,fun k hk hc=>?_⟩
 ·rw[<-hlen];exact yv (by simp)
 ·simp[zL]at hk;have:=hB k hc;omega
def jwi {elem n e:Nat} {parts:List (Nat × W)} {cs:List C} (hh:HRel U B hp nx w) (h:jr9 P elem n parts=some (e,cs)) (hp':∀x∈parts,x.2.one hp=true∧x.2.lt nx) (t:Nat) (hu:P.underlying t=some (.slice elem)) :
  (xP t n (parts.map fun x=>(x.1,x.2.val U)).toArray).run P w=.ok (.slice (some ⟨w.heap.size,0,none⟩) n n) (w.alloc (.cells (cs.map (C.val U)).toArray elem))∧cs.length=n*e∧n<=4096∧∀c∈cs,C.lt nx c:=by
 unfold jr9 at h;split at h
 ·rename_i z e' hz hs;split at h
  ·rename_i hzl;split at h
   ·rename_i out hout;cases h;obtain⟨v,hv,hvc,hlt⟩:=jaW (P:=P) (w:=w) (U:=U) hz
    have hf:=jdk (U:=U) _ hh parts _ cs hout hp' (fun c hc=>by
     obtain⟨l,hl,hc'⟩:=jV.1 hc;rw[xx hl]at hc';exact hlt nx c hc')
    have hlen:cs.length=n*(e' + 1):=by
     have:=hf.2.2;simpa [hzl.1]using this
    have hle:n*(e' + 1)<=4096:=hzl.2;have hn:n<=4096:=qx (yR n (yH e')) hle;refine⟨?_,hlen,hn,hf.2.1⟩;have hvs:v.cells.size=e' + 1:=by rw[hvc];simp[hzl.1]
    have e1:¬(n*(e' + 1)>2^24):=by omega
    have hcells:∀zz:Array zF,(n*(e' + 1)≠0->zz=v.cells)->(gZ (n*(e' + 1))).map (zz[· % zz.size]!)=((zr n z).flatten.map (C.val U)).toArray:=by
     intro zz hzz
     by_cases h0:n*(e' + 1)=0
     ·have hn0:n=0:=by
       rcases yX.1 h0 with h|h
       ·exact h
       ·omega
      subst hn0;simp
     ·rw[hzz h0];have:=jel v.cells n;apply qy;simp only[ja,hvs]at this;simp only[hvs];rw[this,hvc];simp
    have hfin:(do
      let some cells:=gL (fun i=>some (i*(e' + 1),e' + 1)) ((zr n z).flatten.map (C.val U)).toArray (parts.map fun x=>(x.1,x.2.val U))|stuck "buildSlice: a part of the wrong size"
      pure (.slice (some (<-gz elem cells)) n n):Sem zF).run P w=.ok (.slice (some ⟨w.heap.size,0,none⟩) n n) (w.alloc (.cells (cs.map (C.val U)).toArray elem)):=by
     simp only[hf.1,gz,zn,ji,zh,zp];rfl
    by_cases h0:n*(e' + 1)=0
    ·have hn0:n=0:=by
      rcases yX.1 h0 with h|h
      ·exact h
      ·omega
     subst hn0;have h3:=hcells #[] (fun h=>absurd h0 h);have e2:¬(0*(e' + 1)>2^24):=by omega
     simp only[xP,zn,zI hu,zh,jaD w hs,yq];rw[if_neg e2,if_pos h0];simp only[zn,zp,zh,h3];exact hfin
    ·simp only[xP,zn,zI hu,zh,jaD w hs,yq];rw[if_neg e1,if_neg h0];simp only[zn,zp,zh,hv,hcells v.cells (fun _=>rfl)];exact hfin
   ·cases h
  ·cases h
 ·cases h
def jzA {v:V} {n:Nat} {cs:List C} (hh:HRel U B hp nx w) (h:lRd hp v=some (n,cs)) :
  (∀c∈cs,C.lt nx c)∧((v.val U=.slice none 0 0∧n=0∧cs=[])∨∃a cap,v.val U=.slice a n cap∧(n<=cap∧(a=none->cap=0))∧(0<n->∃b off,a=some ⟨b,off,none⟩)∧∀m c,cs[m]?=some c->w.cell? ⟨(base (v.val U)).block,(base (v.val U)).off+m,none⟩=some (c.val U)):=by
 unfold lRd at h;split at h
 ·rename_i k;split at h
  ·rename_i e n' cs' hf;cases h;obtain⟨o,hf,hl⟩:=zD.1 hf;obtain⟨h1,h2,h3⟩:=hh.ok k o hf;obtain⟨⟨a,cap,q1,q2,q3⟩,_,q4⟩:=jb2 h3 hl;refine⟨?_,.inr ⟨a,cap,q1,q2,q3,q4⟩⟩;cases o with
   |lbox ty e' n'' cs''=>cases hl;exact h2
   |lview r e' n'' cs''=>cases hl;exact h2.2
   |elist e' n'' cs''=>cases hl;exact h2
   |_=>cases hl
  ·cases h
 ·cases h;exact⟨fun _ h=>(by cases h),.inl ⟨rfl,rfl,rfl⟩⟩
 ·cases h
def jzB {v:V} {hs:Option Nat} {ty e n:Nat} {cs:List C} (hh:HRel U B hp nx w) (h:lOf hp v=some (hs,ty,e,n,cs)) :
  (hs=none∧v.val U=.slice none 0 0∧n=0∧cs=[])∨∃k,hs=some k∧v.val U=U k∧find hp k=some (.lbox ty e n cs):=by
 unfold lOf at h;split at h
 ·rename_i k;split at h
  ·rename_i ty' e' n' cs' hf;cases h;exact .inr ⟨k,rfl,rfl,hf⟩
  ·cases h
 ·cases h;exact .inl ⟨rfl,rfl,rfl,rfl⟩
 ·cases h
def jus {o:zX} {r:Res} (hh:HRel U B hp nx w) (hB:Old B w) (hr:jav U nx rd a) (h:jev P o.op rd hp nx=some r) (hob:r.ob) :
  jax P U B nx a w o r (jam sp o.op rd):=by
 unfold jev at h;split at h
 ·-- makeSlice
  rename_i t l c hop;split at h
  ·rename_i elem k n k' m _ hu hl hc;split at h
   ·rename_i z e b hz hs hb;split at h
    ·rename_i hzl;have hzl:=zb hzl;cases h;obtain⟨h0,rfl,h2,h3⟩:=hob;simp only[hop,jam];cases hrl:rd l with
     |none=>simp[hrl]at hl
     |some u =>
      cases hrc:rd c with
      |none=>simp[hrc]at hc
      |some u' =>
       simp only[hrl,zw]at hl;simp only[hrc,zw]at hc;have h1:=hr _ _ hrl;have h1':=hr _ _ hrc;rw[V.int?_eq hl]at h1;rw[V.int?_eq hc]at h1';cases hi:P.info? elem with
       |none=>simp[szT,hi]at hs
       |some i =>
        have hsz:i.size=e+1:=by simpa [szT,hi]using hs
        have hby:i.bytes=b:=by simpa [jaQ,hi]using hb
        cases hzz:i.zero with
        |none=>simp[jaB,hi,hzz]at hz
        |some zv =>
         obtain⟨v,hv,hvc,hlt⟩:=jaW (P:=P) (w:=w) (U:=U) hz
         have hvz:v=zv:=by
          simp[ym,yP,hi,hzz]at hv;exact hv.symm
         subst hvz;have hm:=run_make (P:=P) w t elem i v hu hi hzz k k' n n h0 (j8 _) (by rw[hby];exact h2) h3
         have hcells:ja v.cells (n.toNat*i.size)=((zr n.toNat z).flatten.map (C.val U)).toArray:=by
          apply qy;have:=jel v.cells n.toNat;have hvs:v.cells.size=e+1:=by rw[hvc];simp[hzl]
          rw[hvs]at this;rw[hsz,this,hvc];simp
         rw[hcells]at hm
         have hll:∀x∈(zr n.toNat z).flatten,C.lt nx x:=fun x hx=>by
          obtain⟨l,hl,hx'⟩:=jV.1 hx;rw[xx hl]at hx';exact hlt nx x hx'
         refine jak (U':=upd U nx (.slice (some ⟨w.heap.size,0,none⟩) n.toNat n.toNat)) (w':=w.alloc (.cells ((zr n.toNat z).flatten.map (C.val U)).toArray elem)) ?_
          (jbi hh hB _ _ _ (.lbox elem (e+1) n.toNat (zr n.toNat z).flatten) rfl rfl (show V.lt (nx+1) (.w (.c (.o nx)))from zo nx) true (fun x hx=>C.lt_mono (qt nx) (hll x hx))
           (jvA hB hll (by simp[hzl]) (by omega)) (by simp[O.blk,zL]))
         unfold qr;simp only[hop,h1.2,h1'.2,vi_val,zn,hm,zh,zp];simp[V.val,W.val,C.val]
    ·cases h
   ·cases h
  ·cases h
 ·-- buildSlice
  rename_i t n parts hop;split at h
  ·rename_i elem l _ hu hl;split at h
   ·rename_i e cs hb;cases h;have hps:=jc3 hr parts.toList l hl;obtain⟨h1,h2,h3,h4⟩:=jwi (w:=w) (U:=U) hh hb hps.2 t hu
    have:=jak (M:=true) (U':=upd U nx (.slice (some ⟨w.heap.size,0,none⟩) n n)) (w':=w.alloc (.cells (cs.map (C.val U)).toArray elem)) (o:=o) (P:=P) (B:=B) (a:=a) (r:=⟨True,.w (.c (.o nx)),(nx,.lbox elem e n cs)::hp,nx+1⟩) (by
     unfold qr
     have he:(parts.map fun(i,x)=>(i,a.eval x))=(l.map fun x=>(x.1,x.2.val U)).toArray:=by
      rw[<-hps.1];apply qy;simp
     simp only[hop,he,zn,h1,zh,zp];simp[V.val,W.val,C.val])
     (jbi hh hB _ _ _ (.lbox elem e n cs) rfl rfl (show V.lt (nx+1) (.w (.c (.o nx)))from zo nx) true (fun x hx=>C.lt_mono (qt nx) (h4 x hx)) (jvA hB h4 h2 (by omega)) (by simp[O.blk,zL]))
    exact jb5 this
   ·cases h
  ·cases h
 ·-- slice
  rename_i t x lo hi hop;split at h
  ·rename_i elem k l m hu hx hlo hhi;split at h
   ·rename_i e n cs sz hf hs;obtain⟨ob,hf,hl⟩:=zD.1 hf;split at h
    ·rename_i he;have he:=zb he;cases h;obtain⟨h0,h1,h2⟩:=hob;obtain⟨q1,q2,q3⟩:=hh.ok k ob hf;obtain⟨⟨a2,cap,hv,⟨hcap,hcap'⟩,hadr⟩,hlen,hcells⟩:=jb2 q3 hl
     have hcl:∀c∈cs,C.lt nx c:=by
      cases ob with
      |lbox ty e' n'' cs''=>cases hl;exact q2
      |lview r e' n'' cs''=>cases hl;exact q2.2
      |elist e' n'' cs''=>cases hl;exact q2
      |_=>cases hl
     obtain⟨k1,hlv⟩:=jem hr hlo;obtain⟨k2,hmv⟩:=jem hr hhi;have hsb:=jcw (P:=P) (w:=w) (len:=n) (cap:=cap) (l:=l) (m:=m) (k:=k1) (k':=k2) h0 h1 h2 hcap;have hxv:a.eval x=.slice a2 n cap:=by rw[(hr _ _ hx).2];exact hv
     simp only[hop,jam];refine jb5 (jak (M:=true) (U':=upd U nx (.slice (if cap=(l.getD 0).toNat then a2 else a2.map (·.add ((l.getD 0).toNat*(sz+1)))) ((m.getD (n:Int)).toNat-(l.getD 0).toNat) (cap-(l.getD 0).toNat))) (w':=w) ?_ ?_)
     ·unfold qr;simp only[hop,hxv,hlv,hmv,xm,yf,jh,zn,zI hu,zh,hsb,jaD w hs,zp];simp[V.val,W.val,C.val]
     ·refine jcQ hh hB _ (.lview k e _ _) rfl rfl (show V.lt (nx+1) (.w (.c (.o nx)))from zo nx) true ⟨zC q1 (qt nx),fun c hc=>C.lt_mono (qt nx) (hcl c (yj (xU hc)))⟩ ?_ rfl;have hlo':(l.getD 0).toNat<=(m.getD (n:Int)).toNat:=by omega
      have hhi':(m.getD (n:Int)).toNat<=n:=by omega
      have hml:((m.getD (n:Int)).toNat-(l.getD 0).toNat)*e=(m.getD (n:Int)).toNat*e-(l.getD 0).toNat*e:=Nat.sub_mul _ _ _;have hle1:(m.getD (n:Int)).toNat*e<=n*e:=zW _ hhi';have hle2:(l.getD 0).toNat*e<=(m.getD (n:Int)).toNat*e:=zW _ hlo';unfold O.ok;simp only[upd_same];refine⟨⟨_,_,rfl,⟨by omega,fun hnone=>?_⟩,fun hn=>?_⟩,?_,fun j c hj=>?_⟩
      ·by_cases hc:cap=(l.getD 0).toNat
       ·omega
       ·rw[if_neg hc]at hnone;have:=hcap' (by simpa using hnone);omega
      ·obtain⟨b,off,rfl⟩:=hadr (by omega);rw[if_neg (by omega)];exact⟨b,off+(l.getD 0).toNat*(sz+1),by simp[jaL]⟩
      ·rw[qP,xf,hlen,hml];omega
      ·rw[z6]at hj;split at hj
       ·rename_i hjl;rw[xN]at hj
        have hn:0<(m.getD (n:Int)).toNat-(l.getD 0).toNat:=by
         rcases x9 ((m.getD (n:Int)).toNat-(l.getD 0).toNat)with h9|h9
         ·rw[h9,qQ]at hjl;omega
         ·exact h9
        obtain⟨b,off,rfl⟩:=hadr (by omega);have hc9:=hcells _ _ hj;rw[hv]at hc9;rw[if_neg (by omega)];have hlt9:C.lt nx c:=hcl c (List.mem_of_getElem? hj);rw[C.val_agree (jal U nx _) hlt9];simp only[base]at hc9 ⊢;simp only[zQ,jaL];rw[<-hc9,<-he]
        congr 2
        omega
       ·cases hj
    ·cases h
   ·cases h
  ·cases h
 ·-- store
  rename_i t x y hop;split at h
  ·rename_i k i e j u hx hy;split at h
   ·rename_i ty E n cs sz hf hs;split at h
    ·rename_i hone hall hsz hle;simp only[zk]at hsz;have hsz1:=zj hsz.2;have hsz:=zb hsz.1;have hle:=zj hle;cases h;simp only[hop,jam];have h1:=hr _ _ hx;have h2:=hr _ _ hy;obtain⟨hlt,hol,hok⟩:=hh.ok k _ hf;obtain⟨⟨hlen,hcase⟩,hBk⟩:=hok;have hlen':cs.length=n*E:=by simpa using hlen
     have hc:=W.cells_val hh hone;have hvs:(u.val U).cells.size=u.cells.length:=by rw[hc];simp
     rcases hcase with ⟨hnil,hn⟩|⟨g,cap,cur,hk,_,hheap,hncap,hcapm,hcs,htk⟩
     ·-- an empty list: nothing can be stored but nothing
      have hc0:cs.length=0:=by rw[hlen',hn,qQ]
      have hu0:u.cells.length=0:=by omega
      omega
     ·have hBg:¬B.all g:=hBk g (by rw[hk];rfl);have hcapsz:n*E<=cap*E:=zW _ hncap;have hst:=jbB (P:=P) (t:=t) (g:=g) (off:=i*e+j) (v:=u.val U) (by rw[hvs,<-hsz];exact hs) hheap (by rw[hvs,hcs];omega) (by rw[hc];exact jcv hh hall);refine jbR (U':=U) (w':=w.setRow g ((cur.toList.take (i*e+j)++(u.val U).cells.toList++cur.toList.drop (i*e+j+(u.val U).cells.size)).toArray)) ?_ rfl ?_
      ·unfold qr;have h1v:a.eval x=.pointer (some ⟨g,i*e+j,none⟩):=by rw[h1.2];simp[C.val,hk,base]
       have h2v:a.eval y=u.val U:=h2.2;simp only[hop,h1v,h2v,yh,qA,zn,zp,zh,hst]
      ·have hlu:∀c∈u.cells,C.lt nx c:=W.cells_lt h2.1;refine⟨jae.refl _ _,trivial,zu _,HRel.gr ?_,jbX hBg,(fun h=>by cases h),fun h=>by cases h⟩;refine HRel.write hh hf (g:=g) (by simp[O.blk,hk,zL]) (fun k _ hne=>yg w g k _ hne) ?_ (fun c hc=>?_) (by simp[O.blk,hk,zL])
       ·refine⟨⟨by simp;omega,.inr ⟨g,cap,_,hk,qI _,yT w g _ _ ty (0,0) hheap,hncap,hcapm,?_,?_⟩⟩,hBk⟩
        ·simp only[xE,qb,qP,xf,yr,hvs];omega
        ·have hcur:cur.toList=cs.map (C.val U)++cur.toList.drop (n*E):=by rw[<-htk];exact(xi _ _).symm
         have hvl:(u.val U).cells.toList=u.cells.map (C.val U):=by rw[hc]
         rw[hvs,hvl,hcur];have l1:i*e+j<=(cs.map (C.val U)).length:=by simp;omega
         have l2:i*e+j+u.cells.length<=(cs.map (C.val U)).length:=by simp;omega
         rw[List.take_append_of_le_length l1,List.drop_append_of_le_length l2,<-qJ]
         have l3:n*E=((cs.map (C.val U)).take (i*e+j)++u.cells.map (C.val U)++(cs.map (C.val U)).drop (i*e+j+u.cells.length)).length:=by
          simp only[qb,qP,xf,qG];omega
         rw[l3,kl];simp[xb,List.map_take,List.map_drop]
       ·rcases qq.1 hc with hc|hc
        ·rcases qq.1 hc with hc|hc
         ·exact hol c (xU hc)
         ·exact hlu c hc
        ·exact hol c (yj hc)
    ·cases h
   ·cases h
  ·cases h
 ·-- append
  rename_i c hop;split at h
  ·rename_i s x t t' hcal hargs hts;split at h
   ·rename_i elem _ htt hu;have htt:=zb htt;subst htt;split at h
    ·rename_i z e b hz hsz hby;split at h
     ·rename_i hs ty e1 n1 cs1 n2 cs2 hss hsx;split at h
      ·rename_i hty hzl hl1 hl2 hone;have hzl:=zb hzl;have hl1:=zb hl1;have hl2:=zb hl2;cases h;have hm:jam sp o.op rd=false:=by simp only[hop,jam,hcal]
       rw[hm];have ea:c.args=#[s,x]:=by apply qy;simpa using hargs
       have et:c.argTypes=#[t,t]:=by apply qy;simpa using hts
       cases hrs:rd s with
       |none=>simp[hrs]at hss
       |some us =>
       cases hrx:rd x with
       |none=>simp[hrx]at hsx
       |some ux =>
       simp only[hrs,zw]at hss;simp only[hrx,zw]at hsx;have hvs:=(hr _ _ hrs).2;have hvx:=(hr _ _ hrx).2;obtain⟨hlx,hxs⟩:=jzA hh hsx;have hos:=jzB hh hss;cases hi:P.info? elem with
       |none=>simp[szT,hi]at hsz
       |some i =>
        have hsz':i.size=e+1:=by simpa [szT,hi]using hsz
        have hby':i.bytes=b:=by simpa [jaQ,hi]using hby
        cases hzz:i.zero with
        |none=>simp[jaB,hi,hzz]at hz
        |some zv =>
         obtain⟨v0,hv0,hvc,_⟩:=jaW (P:=P) (w:=w) (U:=U) hz
         have hvz:v0=zv:=by
          simp[ym,yP,hi,hzz]at hv0;exact hv0.symm
         subst hvz;have hzs:v0.cells.size=e+1:=by rw[hvc];simp[hzl]
         have hbase:w.ownsRow 0 elem (e+1) (us.val U) n1 (cs1.map (C.val U))∧(∀c∈cs1,C.lt nx c)∧(∀k,(us.val U).ownBlock=some k->∃h o,hs=some h∧find hp h=some o∧o.blk (U h)=some k):=by
          rcases hos with ⟨rfl,hv,rfl,rfl⟩|⟨k,rfl,hv,hf⟩
          ·rw[hv];exact⟨xt w 0 elem (e+1),(fun _ h=>by cases h),fun k hk=>by simp[zL]at hk⟩
          ·simp only[zk]at hty;have hee:=zb hty.2;have hty:=zb hty.1;subst hty;subst hee;obtain⟨q1,q2,q3⟩:=hh.ok k _ hf;rw[hv];exact⟨q3.1,q2,fun g hg=>⟨k,_,rfl,hf,hg⟩⟩
         have hsrc:((ux.val U)=.slice none 0 0∧n2=0)∨∃ad cc,(ux.val U)=.slice (some ad) n2 cc∧∀j u,(cs2.map (C.val U))[j]?=some u->w.cell? (ad.add j)=some u:=by
          rcases hxs with ⟨hv,hn,_⟩|⟨a',cap,hv,⟨h6,h6'⟩,h7,hcell⟩
          ·exact .inl ⟨hv,hn⟩
          ·cases a' with
           |some ad =>
            refine .inr ⟨ad,cap,hv,fun j u hj=>?_⟩;rw[zK]at hj;cases hjx:cs2[j]? with
            |none=>simp[hjx]at hj
            |some c9 =>
             simp[hjx]at hj;subst hj;have:=hcell j c9 hjx;rw[hv]at this
             by_cases hn:0<n2
             ·obtain⟨b9,off9,e9⟩:=h7 hn;cases e9;rw[jaL];exact this
             ·have:cs2.length=0:=by rw[hl2,Nat.eq_zero_of_not_pos hn,qQ]
              have h9:=(zB.1 hjx).1;omega
           |none =>
            have hn:n2=0:=by
             rcases x9 n2 with h|h
             ·exact h
             ·obtain⟨_,_,e9⟩:=h7 h;cases e9
            have hcap:=h6' rfl;subst hcap;subst hn;exact .inl ⟨hv,rfl⟩
         obtain⟨v',w',hrun,hown',hgrown,hwhere⟩:=jdA (ty:=o.type) hu hi hzz hsz' hby' hzs hbase.1 (news:=cs2.map (C.val U)) (m:=n2) (by simpa using hl2) (fun u hu2=>by
          obtain⟨x,hx1,rfl⟩:=qu.1 hu2;exact C.one_val hh (zq.1 hone x hx1)) hsrc hob.2 hob.1
         have hgB:∀k,(us.val U).ownBlock=some k->¬B.all k:=fun k hk=>by
          obtain⟨h,ob,_,hf,hbo⟩:=hbase.2.2 k hk;exact(O.blk_lt (hh.ok h ob hf).2.2 hbo).2
         have hlt12:∀c∈cs1++cs2,C.lt nx c:=fun c hc=>(qq.1 hc).elim (hbase.2.1 c) (hlx c);refine jak (U':=upd U nx v') (w':=w') ?_ ?_
         ·unfold qr;simp only[hop,hcal,yF,ea,et,xX,zM,qR,zn,zp,zh,jg,builtin,hvs,hvx,hrun];simp[V.val,W.val,C.val]
         ·refine⟨jal _ _ _,zo nx,qt nx,HRel.gr ?_,jc6 hgrown hgB hB,(fun h=>by cases h),fun h=>by cases h⟩
          refine HRel.grow hh hB hgrown hgB ?_ ?_ (by
           unfold O.ok
           have e9:(cs1++cs2).map (C.val (upd U nx v'))=cs1.map (C.val U)++cs2.map (C.val U):=by
            rw[<-xb];exact z8 fun c hc=>C.val_agree (jal U nx _) (hlt12 c hc)
           simp only[upd_same,e9]
           exact⟨hown',fun k hk hc=>by
            rcases hwhere k hk with h|h
            ·exact hgB k h hc
            ·have:=hB k hc;omega⟩) (fun c hc=>C.lt_mono (qt nx) (hlt12 c hc)) (fun k hk=>hwhere k hk)
          ·intro k o1 hk;cases hs with
           |none=>exact .inl hk
           |some h =>
            simp only[find]at hk;split at hk
            ·rename_i e;cases hk;refine .inr ⟨rfl,?_⟩;rcases hos with ⟨h',_⟩|⟨k2,h',_,hf⟩
             ·cases h'
             ·cases h';rw[<-e];exact(hh.ok _ _ hf).1
            ·exact .inl hk
          ·intro k o1 g hk hbk hvg;obtain⟨h,ob,rfl,hf,hbo⟩:=hbase.2.2 g hvg;simp only[find]at hk;split at hk
           ·cases hk;simp[O.blk]at hbk
           ·rename_i hne;obtain⟨o2,h2',_,_,_,_,h7⟩:=jaO hh hk;exact hh.apart h ob k o2 g hf h2' hne hbo (h7 g hbk)
      ·cases h
     ·cases h
    ·cases h
   ·cases h
  ·cases h
 ·cases h
end
end Go.Sx
end

section
namespace Go.Fl
open Ieee
def nan32 (t:Nat):(single.read ((t%2)*2^31+0x7f800000+1+(t/2)%(2^23-1))).isNaN=true:=by
 have e1:single.signWeight=2147483648:=rfl;have e2:single.binade=8388608:=rfl;have e3:single.infRung=2139095040:=rfl;have hx:(t/2)%(2^23-1)<8388607:=ya _ (by decide);have ht:t%2<2:=ya _ (by decide)
 generalize (t/2)%(2^23-1)=x at *
 generalize t%2=y at *
 have hr:(y*2^31+0x7f800000+1+x)%2147483648=2139095041+x:=by omega
 unfold Format.read;simp only[e1,e2,e3,hr];rw[if_neg (by omega),if_neg (by omega),if_neg (by omega)];rfl
def nan64 (t:Nat):(double.read ((t%2)*2^63+0x7ff0000000000000+1+(t/2)%(2^52-1))).isNaN=true:=by
 have e1:double.signWeight=9223372036854775808:=rfl;have e2:double.binade=4503599627370496:=rfl;have e3:double.infRung=9218868437227405312:=rfl;have hx:(t/2)%(2^52-1)<4503599627370495:=ya _ (by decide);have ht:t%2<2:=ya _ (by decide)
 generalize (t/2)%(2^52-1)=x at *
 generalize t%2=y at *
 have hr:(y*2^63+0x7ff0000000000000+1+x)%9223372036854775808=9218868437227405313+x:=by omega
 unfold Format.read;simp only[e1,e2,e3,hr];rw[if_neg (by omega),if_neg (by omega),if_neg (by omega)];rfl
def jB2 (b:Nat):(∃s m e,single.read b=.number s m e∧m<16777216∧-149<=e∧e<=104)∨(∃s,single.read b=.infinity s)∨∃s t,single.read b=.nan s t:=by
 have e1:single.signWeight=2147483648:=rfl;have e2:single.binade=8388608:=rfl;have e3:single.infRung=2139095040:=rfl;have e4:single.leastPlace=-149:=rfl;unfold Format.read;simp only[e1,e2,e3,e4];have hr:b%2147483648<2147483648:=ya _ (by decide)
 generalize b%2147483648=r at *
 split
 ·exact .inl ⟨_,_,_,rfl,by omega,by omega,by omega⟩
 ·split
  ·refine .inl ⟨_,_,_,rfl,?_,?_,?_⟩
   ·have:r%8388608<8388608:=ya _ (by decide);omega
   ·omega
   ·have:r/8388608<=254:=by omega
    omega
  ·split
   ·exact .inr (.inl ⟨_,rfl⟩)
   ·exact .inr (.inr ⟨_,_,rfl⟩)
def jzC (way:Toward) (neg:Bool) (n:Nat) (hw:way=.even):way.cut neg n 0=n:=by
 subst hw;simp[Toward.cut,Nat.mod_one]
def jBz {s:Bool} {m:Nat} {e:Int} (hm0:m≠0) (hm:m<9007199254740992) (he1:-1000<=e) (he2:e<=900) :
  double.write (.number s m e)=double.word s ((e+m.log2-52+1074).toNat*4503599627370496+m*2^(52-m.log2))∧m.log2<=52∧4503599627370496<=m*2^(52-m.log2)∧m*2^(52-m.log2)<9007199254740992:=by
 have hl:m.log2<=52:=by
  have:=(Nat.log2_lt hm0 (k:=53)).2 (by omega);omega
 have hlo:2^m.log2<=m:=Nat.log2_self_le hm0;have hhi:m<2^(m.log2+1):=Nat.lt_log2_self;have hp:2^m.log2*2^(52-m.log2)=4503599627370496:=by rw[<-Nat.pow_add,Nat.add_sub_cancel' hl]
 have h1:4503599627370496<=m*2^(52-m.log2):=by rw[<-hp];exact zW _ hlo
 have h2:m*2^(52-m.log2)<9007199254740992:=by
  have h3:m*2^(52-m.log2)<2^(m.log2+1)*2^(52-m.log2):=Nat.mul_lt_mul_of_pos_right hhi (Nat.two_pow_pos _);have h4:2^(m.log2+1)*2^(52-m.log2)=9007199254740992:=by rw[Nat.pow_succ,kx,xJ 2,<-kx,hp]
  omega
 refine⟨?_,hl,h1,h2⟩;have e2:double.binade=4503599627370496:=rfl;have e3:double.infRung=9218868437227405312:=rfl;have e4:double.leastPlace=-1074:=rfl;have e5:double.fractionBits=52:=rfl;simp only[Format.write,Format.nearest,if_neg hm0,e2,e3,e4,e5];have hlast:max (e+(m.log2:Int)-52) (-1074)=e+(m.log2:Int)-52:=by omega
 have hlast':max (e+(m.log2:Int)-(52:Nat)) (-1074)=e+(m.log2:Int)-52:=hlast;rw[hlast'];have ha:(e-(e+(m.log2:Int)-52)).toNat=52-m.log2:=by omega
 have hb:((e+(m.log2:Int)-52)-e).toNat=0:=by omega
 rw[ha,hb,jzC _ _ _ rfl,Nat.shiftLeft_eq];have hc:(e+(m.log2:Int)-52 - -1074).toNat=(e+(m.log2:Int)-52+1074).toNat:=by omega
 rw[hc];have hd:(e+(m.log2:Int)-52+1074).toNat<=2000:=by omega
 rw[yY (by omega)]
def jut {s:Bool} {r:Nat} (h1:4503599627370496<=r) (h2:r<9218868437227405312):double.read (double.word s r)=.number s (4503599627370496+r%4503599627370496) (-1074+(r/4503599627370496-1:Nat)):=by
 have e1:double.signWeight=9223372036854775808:=rfl;have e2:double.binade=4503599627370496:=rfl;have e3:double.infRung=9218868437227405312:=rfl;have e4:double.leastPlace=-1074:=rfl;unfold Format.read Format.word;simp only[e1,e2,e3,e4];cases s
 ·simp only[Bool.false_eq_true,if_false];have ha:r%9223372036854775808=r:=Nat.mod_eq_of_lt (by omega);have hb:r/9223372036854775808=0:=Nat.div_eq_of_lt (by omega);rw[ha,hb,if_neg (by omega),if_pos h2];rfl
 ·simp only[if_true];have ha:(9223372036854775808+r)%9223372036854775808=r:=by omega
  have hb:(9223372036854775808+r)/9223372036854775808=1:=by omega
  rw[ha,hb,if_neg (by omega),if_pos h2];rfl
def jBA {s:Bool} {m:Nat} {e:Int} (hm0:m≠0) (hm:m<9007199254740992) (he1:-1000<=e) (he2:e<=900) :
  double.read (double.write (.number s m e))=.number s (m*2^(52-m.log2)) (e+m.log2-52)∧m.log2<=52:=by
 obtain⟨h1,hl,h2,h3⟩:=jBz (s:=s) hm0 hm he1 he2;rw[h1]
 generalize hk:m*2^(52-m.log2)=k at *
 have hK:(e+(m.log2:Int)-52+1074).toNat<=2000:=by omega
 have hK0:0<=e+(m.log2:Int)-52+1074:=by omega
 generalize hq:(e+(m.log2:Int)-52+1074).toNat=q at *
 refine⟨?_,hl⟩;rw[jut (by omega) (by omega)];have ha:4503599627370496+(q*4503599627370496+k)%4503599627370496=k:=by omega
 have hb:(q*4503599627370496+k)/4503599627370496-1=q:=by omega
 rw[ha,hb]
 congr 1
 omega
def jB3 (s:Bool) (e:Int):double.read (double.write (.number s 0 e))=.number s 0 (-1074):=by
 cases s<;>simp[Format.write,Format.nearest]<;>rfl
def up64 {b:Nat} {s:Bool} {m:Nat} {e:Int} (h:single.read b=.number s m e):(double.read (double.write (.number s m e))).isInfinity=false:=by
 rcases jB2 b with ⟨s',m',e',h',hm,he1,he2⟩|⟨s',h'⟩|⟨s',t',h'⟩
 ·rw[h]at h';cases h'
  by_cases hm0:m=0
  ·subst hm0;rw[jB3];rfl
  ·rw[(jBA hm0 (by omega) (by omega) (by omega)).1];rfl
 ·rw[h]at h';cases h'
 ·rw[h]at h';cases h'
end Go.Fl
end

section
open Go.RowKit
namespace Go.Sx
section
variable [Globs] {P:zy} {U:Env} {B:Kd} {nx:Nat} {hp:Hp} {w:zx} {rd:zH->Option V} {a:Act} {sp:jaa}
def jpR {o:zX} {t h j n elem e ty:Nat} {x:zH} {cs:List C} {z ds:List D} {c:Cont} (hh:HRel U B hp nx w) (hB:Old B w) (hr:jav U nx rd a) (ho:o.op=.slice t x none none none)
  (hu:P.underlying t=some (.array n elem)) (hx:rd x=some (.w (.c (.p h 0 1 j)))) (hf:find hp h=some (.box ty cs)) (hs:szT P elem=some (e+1)) (hds:jbA ((cs.drop j).take (n*(e+1)))=some ds)
  (hl:z.length=e+1∧ds.length=n*(e+1)∧0<n) (hc:jdN z (jjb (e+1) n ds)=some c) :
  jax P U B nx a w o ⟨True,.w (.c (.o nx)),(nx,.view h c true)::hp,nx+1⟩ true:=by
 obtain⟨hz,hdl,hn0⟩:=hl;obtain⟨hlt,hol,g,hk,hBg,hheap⟩:=hh.ok h _ hf;have hck:=jjc (e+1) n ds hdl;have hmk:=jc4 hc;have hxv:a.eval x=.pointer (some ⟨g,j,none⟩):=by rw[(hr _ _ hx).2];simp[C.val,hk,base]
 refine jak (U':=upd U nx (.slice (some ⟨g,j,none⟩) n n)) (w':=w) ?_ ?_
 ·unfold qr;have hsb:(xr false n n none none none).run P w=.ok (0,n,n) w:=by simp[xr]
  simp only[ho,hxv,xm,yf,zn,zI hu,zh,qA,zp,hsb,jaD w hs];rw[if_neg (by omega)];simp[V.val,W.val,C.val,jaL]
 ·refine jcQ hh hB _ (.view h c true) rfl rfl (show V.lt (nx+1) (.w (.c (.o nx)))from zo nx) true (zC hlt (qt nx)) ⟨?_,fun _ a' n' cap' heq=>by rw[upd_same]at heq;cases heq;rfl⟩ rfl
  ·rw[upd_same];refine⟨some ⟨g,j,none⟩,n,by rw[hmk.2.1,hck.2],⟨by rw[hmk.2.1,hck.2];exact zu _,fun h=>by cases h⟩,fun _=>⟨g,j,rfl,fun m x hm=>?_⟩⟩;rw[hmk.1,hck.1]at hm;rw[xj w g _ _ ty (0,0) hheap];have hde:=jcf hds;have hml:m<n*(e+1):=by rw[<-hdl];exact(zB.1 hm).1
   have h1:((cs.drop j).take (n*(e+1)))[m]?=some (C.d x):=by rw[hde,zK,hm];rfl
   rw[z6,if_pos hml,xN]at h1;simp[h1,C.val]
def jst {o:zX} {t elem e b:Nat} {s x:zH} {c:Call} {us ux:V} {hs hx:Option Nat} {cs cx:Option Cont} {z:List D} {c1 c2 c3:Cont} (hh:HRel U B hp nx w) (hB:Old B w) (hr:jav U nx rd a)
  (ho:o.op=.call c) (hcal:c.callee=.builtin .append) (hargs:c.args=#[s,x]) (hts:c.argTypes=#[t,t]) (hu:P.underlying t=some (.slice elem))
  (hrs:rd s=some us) (hrx:rd x=some ux) (hss:jcg hp us=some (hs,cs)) (hsx:jcg hp ux=some (hx,cx)) (hz:(jaB P elem).bind jbA=some z) (hsz:szT P elem=some (e+1)) (hby:jaQ P elem=some b)
  (hown:match hs,find hp (hs.getD nx)with|none,_=>True|some _,some (.row ty _)=>ty=elem|_,_=>False)
  (h1:jcu z cs=some c1) (h2:jcu z cx=some c2) (h3:c1.app c2=some c3) (hzl:z.length=e+1) (he1:c1.e=e+1)
  (hob:(c1.n+c2.n)*b<=140737488355328∧c1.n+c2.n<=9223372036854775807) (hone:∀x∈c2.flat,x.val.oneCell'=true) (r:Res) (hrn:r.nx=nx+1) (hrv:r.v=.w (.c (.o nx)))
  (hrh:r.hp=(nx,.row elem c3)::(match hs with|some h=>(h,.dead)::jah hp|none=>jah hp)) :
  jax P U B nx a w o r false:=by
 have happ:=Cont.app_flat h3;have hvs:=(hr _ _ hrs).2;have hvx:=(hr _ _ hrx).2;cases hi:P.info? elem with
 |none=>simp[szT,hi]at hsz
 |some i =>
  have hsz':i.size=e+1:=by simpa [szT,hi]using hsz
  have hby':i.bytes=b:=by simpa [jaQ,hi]using hby
  cases hzz:i.zero with
  |none=>simp[jaB,hi,hzz]at hz
  |some zv =>
   cases hzc:jaB P elem with
   |none=>simp[hzc]at hz
   |some zc =>
    simp only[hzc,zw]at hz;obtain⟨v0,hv0,hvc,_⟩:=jaW (P:=P) (w:=w) (U:=U) hzc
    have hvz:v0=zv:=by
     simp[ym,yP,hi,hzz]at hv0;exact hv0.symm
    subst hvz;have hzce:=jcf hz;have hzs:v0.cells.size=e+1:=by rw[hvc,hzce];simp[hzl]
    have hmk0:∀c,jdN z []=some c->c.n=0∧c.flat=[]:=fun c hc=>by have:=jc4 hc;exact⟨this.2.1,this.1⟩
    have hbase:w.ownsRow 0 elem (e+1) (us.val U) c1.n (c1.flat.map D.val)∧(∀k,(us.val U).ownBlock=some k->∃h o,hs=some h∧find hp h=some o∧o.blk (U h)=some k):=by
     rcases jdo hh hss with ⟨rfl,rfl,hv⟩|⟨k,ob,c,rfl,rfl,hv,hf,hc,_⟩
     ·have:=hmk0 c1 h1;rw[hv,this.1,this.2];exact⟨xt w 0 elem (e+1),fun k hk=>by simp[zL]at hk⟩
     ·simp only[jcu,zi]at h1;subst h1;simp only[zU,hf]at hown;cases ob with
      |row ty c' =>
       simp only at hown;subst hown;simp[O.cont]at hc;subst hc;have hok:=(hh.ok k _ hf).2.2;rw[hv];refine⟨by rw[<-he1];exact hok.1,fun g hg=>⟨k,_,rfl,hf,hg⟩⟩
      |_=>exact hown.elim
    have hsrc:((ux.val U)=.slice none 0 0∧c2.n=0)∨∃ad cc,(ux.val U)=.slice (some ad) c2.n cc∧∀j u,(c2.flat.map D.val)[j]?=some u->w.cell? (ad.add j)=some u:=by
     rcases jdo hh hsx with ⟨rfl,rfl,hv⟩|⟨k,ob,c,rfl,rfl,hv,hf,hc,hrow⟩
     ·exact .inl ⟨hv,(hmk0 c2 h2).1⟩
     ·simp only[jcu,zi]at h2;subst h2;obtain⟨a',cap,h5,⟨h6,h6'⟩,h7⟩:=hrow
      by_cases hn:0<c.n
      ·obtain⟨bb,off,rfl,hcell⟩:=h7 hn;refine .inr ⟨⟨bb,off,none⟩,cap,by rw[hv,h5],fun j u hj=>?_⟩;rw[zK]at hj;cases hjx:c.flat[j]? with
       |none=>simp[hjx]at hj
       |some x=>simp[hjx]at hj;subst hj;rw[jaL];exact hcell j x hjx
      ·cases a' with
       |some ad =>
        refine .inr ⟨ad,cap,by rw[hv,h5],fun j u hj=>?_⟩;have hc0:c.n=0:=by omega
        have:c.flat=[]:=qk (by rw[Cont.flat_length,hc0,qQ]);rw[this]at hj;simp at hj
       |none =>
        have hcap:cap=0:=h6' rfl;subst hcap;have:c.n=0:=by omega
        exact .inl ⟨by rw[hv,h5,this],this⟩
    obtain⟨v',w',hrun,hown',hgrown,hwhere⟩:=jdA (ty:=o.type) hu hi hzz hsz' hby' hzs hbase.1 (news:=c2.flat.map D.val) (m:=c2.n) (by simp[Cont.flat_length,happ.2.2.2,he1]) (fun u hu2=>by
     obtain⟨x,hx1,rfl⟩:=qu.1 hu2;exact hone x hx1) hsrc hob.2 hob.1
    have hown3:w'.ownsRow 0 elem c3.e v' c3.n (c3.flat.map D.val):=by
     rw[happ.1,happ.2.1,happ.2.2.1,he1,xb];exact hown'
    have hgB:∀k,(us.val U).ownBlock=some k->¬B.all k:=fun k hk=>by
     obtain⟨h,ob,_,hf,hbo⟩:=hbase.2 k hk;exact(O.blk_lt (hh.ok h ob hf).2.2 hbo).2
    refine jak (U':=upd U nx v') (w':=w') ?_ ?_
    ·unfold qr;simp only[ho,hcal,yF,hargs,hts,xX,zM,qR,zn,zp,zh,jg,builtin,hvs,hvx,hrun];simp[hrv,V.val,W.val,C.val]
    ·refine⟨jal _ _ _,by rw[hrv,hrn];exact zo nx,by omega,HRel.gr ?_,jc6 hgrown hgB hB,(fun h=>by cases h),fun h=>by cases h⟩;rw[hrh,hrn]
     refine HRel.grow hh hB hgrown hgB ?_ ?_ (by unfold O.ok;rw[upd_same];exact⟨hown3,fun k hk hc=>by
      rcases hwhere k hk with h|h
      ·exact hgB k h hc
      ·have:=hB k hc;omega⟩) trivial (fun k hk=>hwhere k hk)
     ·intro k o1 hk;cases hs with
      |none=>exact .inl hk
      |some h =>
       simp only[find]at hk;split at hk
       ·rename_i e;cases hk;refine .inr ⟨rfl,?_⟩;rcases jdo hh hss with ⟨h',_,_⟩|⟨k2,ob,c,h',_,_,hf,_,_⟩
        ·cases h'
        ·cases h';rw[<-e];exact(hh.ok _ _ hf).1
       ·exact .inl hk
     ·intro k o1 g hk hbk hvg;obtain⟨h,ob,rfl,hf,hbo⟩:=hbase.2 g hvg;simp only[find]at hk;split at hk
      ·cases hk;simp[O.blk]at hbk
      ·rename_i hne;obtain⟨o2,h2',_,_,_,_,h7⟩:=jaO hh hk;exact hh.apart h ob k o2 g hf h2' hne hbo (h7 g hbk)
def jrh {o:zX} {t elem e b h q:Nat} {s x:zH} {c:Call} {ux:V} {hx:Option Nat} {cx:Option Cont} {z:List D} {c1 c2 c3:Cont} (hh:HRel U B hp nx w) (hB:Old B w) (hr:jav U nx rd a)
  (ho:o.op=.call c) (hcal:c.callee=.builtin .append) (hargs:c.args=#[s,x]) (hts:c.argTypes=#[t,t]) (hu:P.underlying t=some (.slice elem))
  (hrs:rd s=some (.w (.c (.o h)))) (hf:find hp h=some (.view q c1 true)) (hrx:rd x=some ux) (hsx:jcg hp ux=some (hx,cx)) (hz:(jaB P elem).bind jbA=some z) (hsz:szT P elem=some (e+1)) (hby:jaQ P elem=some b)
  (h2:jcu z cx=some c2) (h3:c1.app c2=some c3) (hzl:z.length=e+1) (he1:c1.e=e+1) (hn1:0<c1.n)
  (hob:0<c2.n∧(c1.n+c2.n)*b<=140737488355328∧c1.n+c2.n<=9223372036854775807) (r:Res) (hrn:r.nx=nx+1) (hrv:r.v=.w (.c (.o nx)))
  (hrh:r.hp=(nx,.row elem c3)::hp):jax P U B nx a w o r false:=by
 have happ:=Cont.app_flat h3;have hvs:a.eval s=U h:=(hr _ _ hrs).2;have hvx:=(hr _ _ hrx).2;obtain⟨hlt,hol,⟨a1,cap1,hv1,hc1,hcell1⟩,hfull⟩:=hh.ok h _ hf;have hcap:=hfull rfl _ _ _ hv1;subst hcap;obtain⟨b1,off1,rfl,hx1⟩:=hcell1 hn1;cases hi:P.info? elem with
 |none=>simp[szT,hi]at hsz
 |some i =>
  have hsz':i.size=e+1:=by simpa [szT,hi]using hsz
  have hby':i.bytes=b:=by simpa [jaQ,hi]using hby
  cases hzz:i.zero with
  |none=>simp[jaB,hi,hzz]at hz
  |some zv =>
   cases hzc:jaB P elem with
   |none=>simp[hzc]at hz
   |some zc =>
    simp only[hzc,zw]at hz;obtain⟨v0,hv0,hvc,_⟩:=jaW (P:=P) (w:=w) (U:=U) hzc
    have hvz:v0=zv:=by
     simp[ym,yP,hi,hzz]at hv0;exact hv0.symm
    subst hvz;have hzce:=jcf hz;have hzs:v0.cells.size=e+1:=by rw[hvc,hzce];simp[hzl]
    have hmk0:∀c,jdN z []=some c->c.n=0∧c.flat=[]:=fun c hc=>by have:=jc4 hc;exact⟨this.2.1,this.1⟩
    obtain⟨ad,cc,hxv,hx2⟩:∃ad cc,(ux.val U)=.slice (some ad) c2.n cc∧∀j u,(c2.flat.map D.val)[j]?=some u->w.cell? (ad.add j)=some u:=by
     rcases jdo hh hsx with ⟨rfl,rfl,hv⟩|⟨k,ob,c,rfl,rfl,hv,hf,hc,hrow⟩
     ·have:=(hmk0 c2 h2).1;omega
     ·simp only[jcu,zi]at h2;subst h2;obtain⟨a',cap,h5,⟨h6,h6'⟩,h7⟩:=hrow;obtain⟨bb,off,rfl,hcell⟩:=h7 hob.1;refine⟨⟨bb,off,none⟩,cap,by rw[hv,h5],fun j u hj=>?_⟩;rw[zK]at hj;cases hjx:c.flat[j]? with
      |none=>simp[hjx]at hj
      |some x=>simp[hjx]at hj;subst hj;rw[jaL];exact hcell j x hjx
    have hl1:(c1.flat.map D.val).length=c1.n*i.size:=by simp[Cont.flat_length,he1,hsz']
    have hl2:(c2.flat.map D.val).length=c2.n*i.size:=by simp[Cont.flat_length,happ.2.2.2,he1,hsz']
    have hrun:=f6 (P:=P) w t o.type elem i v0 hu hi hzz ⟨b1,off1,none⟩ c1.n c1.n (c1.flat.map D.val) hl1 (fun j u hj=>by
     rw[zK]at hj;cases hjx:c1.flat[j]? with
     |none=>simp[hjx]at hj
     |some x=>simp[hjx]at hj;subst hj;rw[jaL];exact hx1 j x hjx) ad c2.n cc (c2.flat.map D.val) hl2 hx2 (by omega) (by have:=hob.2.2;omega) (kj (by omega) (by rw[hby'];exact hob.2.1))
    have hge:=grownCap_ge w (c1.n+c2.n) c1.n elem;have hcm:kn w (c1.n+c2.n) c1.n elem<=gY:=grownCap_le_maxLen w (c1.n+c2.n) c1.n elem (by have:=hob.2.2;simpa [gY]using this);have hbel:xA w.heap.size w (w.drew.alloc (.cells ((c1.flat.map D.val).toArray++(c2.flat.map D.val).toArray++fE v0.cells (kn w (c1.n+c2.n) c1.n elem-(c1.n+c2.n))) elem)):=((qO _ w).drew).alloc (zu _) _
    refine jak (U':=upd U nx (.slice (some ⟨w.heap.size,0,none⟩) (c1.n+c2.n) (kn w (c1.n+c2.n) c1.n elem)))
     (w':=w.drew.alloc (.cells ((c1.flat.map D.val).toArray++(c2.flat.map D.val).toArray++fE v0.cells (kn w (c1.n+c2.n) c1.n elem-(c1.n+c2.n))) elem)) ?_ ?_
    ·unfold qr;simp only[ho,hcal,yF,hargs,hts,xX,zM,qR,zn,zp,zh,jg,builtin,hvs,hvx,hv1,hxv,hrun];simp[hrv,V.val,W.val,C.val]
    ·refine⟨jal _ _ _,by rw[hrv,hrn];exact zo nx,by omega,HRel.gr ?_,jbV hbel hB,(fun h=>by cases h),fun h=>by cases h⟩;rw[hrh,hrn];refine hh.add hbel hB (jal _ _ _) trivial ⟨?_,fun k hk hc=>?_⟩ (by simp[O.blk,zL])
     ·rw[upd_same,happ.1,happ.2.1,happ.2.2.1,he1,xb];refine⟨by rw[qb,hl1,hl2,hsz',<-qo],.inr ⟨w.heap.size,_,_,rfl,qI _,yx w.drew _,hge,hcm,?_,?_⟩⟩
      ·simp only[Array.size_append,xE,size_zeroCells,hzs,hl1,hl2,hsz',<-qo]
       congr 1
       omega
      ·simp only[Array.toList_append];have:((c1.flat.map D.val)++(c2.flat.map D.val)).length=(c1.n+c2.n)*(e+1):=by rw[qb,hl1,hl2,hsz',<-qo]
       rw[<-this];exact kl
     ·rw[upd_same]at hk;simp only[zL,zi]at hk;have:=hB k hc;omega
def jkR (hr:jav U nx rd a):∀(xs:List zH) (l:List V),jhy rd xs=some l->xs.map a.eval=l.map (V.val U)∧∀v∈l,V.lt nx v
 |[],l,h=>by simp only[jhy,zi]at h;subst h;exact⟨rfl,fun _ h=>by cases h⟩
 |x::r,l,h=>by
  simp only[jhy]at h;split at h
  ·rename_i v l' hx hl;cases h;have ih:=jkR hr r l' hl;have h1:=hr x _ hx;refine⟨by simp only[zM,ih.1,h1.2],fun y hy=>?_⟩;rcases qv.1 hy with rfl|hy
   ·exact h1.1
   ·exact ih.2 y hy
  ·cases h
def jov {o:zX} {c:Call} {f:zH} {g:Nat} {hs:List Nat} {vs:List V} {M:Bool} {S:Spec} {r:RT} (hh:HRel U B hp nx w) (hB:Old B w) (hr:jav U nx rd a)
  (ho:o.op=.call c) (hcal:c.callee=.value f) (hrf:rd f=some (.w (.c (.fn g hs)))) (hvs:jhy rd c.args.toList=some vs) (hok:jaf P g M S)
  (hS:S (vs++hs.map fun h=>.w (.c (.o h))) hp nx=some r) (hob:r.sel.ob):jax P U B nx a w o r.sel M:=by
 have hf:=hr _ _ hrf;have hargs:=jkR hr _ _ hvs
 have hltA:∀x∈vs++hs.map (fun h=>V.w (.c (.o h))),V.lt nx x:=fun x hx=>by
  rcases qq.1 hx with h|h
  ·exact hargs.2 x h
  ·obtain⟨k,hk,rfl⟩:=qu.1 h;exact hf.1 k hk
 have ha:c.args.map a.eval=(vs.map (V.val U)).toArray:=by
  rw[<-hargs.1];apply qy;simp
 have hcall:(qr a.eval o).run P w=(callFunc g ((vs++hs.map fun h=>V.w (.c (.o h))).map (V.val U)).toArray).run P w:=by
  unfold qr;simp only[ho,yF,hcal,hf.2,ha,jX,V.val,W.val,C.val,zn,zp,zh,jg]
  congr 2
  simp[V.val,W.val,C.val,xq]
 rcases hok with hok|hok
 ·intro K Q hK;have hcalls:=hok.sound U B w _ hp nx r hS hob hltA hh hB;unfold jv;rw[hcall,hok.enter];refine hcalls.mono fun e w' ⟨U',he',hl⟩=>?_;subst he';exact hK U' w' hl
 ·obtain⟨ob,v,hsel,hv,hrun⟩:=hok U B w _ hp nx r hS hob hltA hh hB;rw[hsel];exact jak (U':=U) (w':=w) (hcall.trans hrun) ⟨jae.refl _ _,hv,zu _,hh.gr,Bel.refl _ _,(fun _=>qO _ _),fun _ h o k hn hf _=>absurd (hh.ok h o hf).1 (by omega)⟩
def jmM {o:zX} {c:Call} {f:zH} {g:Nat} {hs:List Nat} {vs:List V} {M:Bool} {S:Spec} {r:RT} (hh:HRel U B hp nx w) (hB:Old B w) (hr:jav U nx rd a)
  (ho:o.op=.call c) (hcal:c.callee=.value f) (hrf:rd f=some (.w (.c (.fb g hs)))) (hvs:jhy rd c.args.toList=some vs) (hok:jaf P g M S)
  (hS:S ((hs.map fun h=>.w (.c (.o h)))++vs) hp nx=some r) (hob:r.sel.ob):jax P U B nx a w o r.sel M:=by
 have hf:=hr _ _ hrf;have hargs:=jkR hr _ _ hvs
 have hltA:∀x∈hs.map (fun h=>V.w (.c (.o h)))++vs,V.lt nx x:=fun x hx=>by
  rcases qq.1 hx with h|h
  ·obtain⟨k,hk,rfl⟩:=qu.1 h;exact hf.1 k hk
  ·exact hargs.2 x h
 have ha:c.args.map a.eval=(vs.map (V.val U)).toArray:=by
  rw[<-hargs.1];apply qy;simp
 have hcall:(qr a.eval o).run P w=(callFunc g ((hs.map (fun h=>V.w (.c (.o h)))++vs).map (V.val U)).toArray).run P w:=by
  unfold qr;simp only[ho,yF,hcal,hf.2,ha,jX,V.val,W.val,C.val,zn,zp,zh,jg]
  congr 2
  simp[V.val,W.val,C.val,xq]
 rcases hok with hok|hok
 ·intro K Q hK;have hcalls:=hok.sound U B w _ hp nx r hS hob hltA hh hB;unfold jv;rw[hcall,hok.enter];refine hcalls.mono fun e w' ⟨U',he',hl⟩=>?_;subst he';exact hK U' w' hl
 ·obtain⟨ob,v,hsel,hv,hrun⟩:=hok U B w _ hp nx r hS hob hltA hh hB;rw[hsel];exact jak (U':=U) (w':=w) (hcall.trans hrun) ⟨jae.refl _ _,hv,zu _,hh.gr,Bel.refl _ _,(fun _=>qO _ _),fun _ h o k hn hf _=>absurd (hh.ok h o hf).1 (by omega)⟩
def jb8 {o:zX} {r:Res} (hsp:jac P sp) (hh:HRel U B hp nx w) (hB:Old B w) (hr:jav U nx rd a) (h:step P sp o.op rd hp nx=some r) (hob:r.ob) :
  jax P U B nx a w o r (jam sp o.op rd):=by
 unfold step at h;split at h
 ·rename_i ob v hv;cases h;have hrun:=jek hh hr hv hob;refine jak (U':=U) (w':=w) hrun.1 ⟨jae.refl _ _,hrun.2,zu _,hh.gr,Bel.refl _ _,(fun _=>qO _ _),fun _ h o k hn hf _=>absurd (hh.ok h o hf).1 (by omega)⟩
 ·rename_i hnone;clear hnone;split at h
  ·rename_i r0 hX;cases h;exact juk hh hr hX hob
  rename_i hnone;clear hnone;split at h
  ·rename_i r0 hX;cases h;exact jul hh hB hr hX hob
  rename_i hnone;clear hnone;split at h
  ·rename_i r0 hX;cases h;exact jus hh hB hr hX hob
  rename_i hnone;clear hnone;split at h
  ·rename_i r0 hX;cases h;exact jup hh hB hr hX hob
  rename_i hnone;clear hnone;split at h
  ·rename_i r0 hX;cases h;exact jur hh hB hr hX hob
  rename_i hnone;clear hnone;split at h
  ·rename_i r0 hX;cases h;exact jun hh hB hr hX hob
  rename_i hnone;clear hnone;unfold jhz at h;split at h
  ·-- box
   rename_i elem x hop;split at h
   ·rename_i u hx;split at h
    ·rename_i hone;cases h;simp only[hop,jam];exact jxZ hh hB hr hop hx hone
    ·cases h
   ·cases h
  ·rename_i elem hop;split at h
   ·rename_i z hz;cases h;simp only[hop,jam];exact jui hh hB hop hz
   ·cases h
  ·rename_i t n parts hop;split at h
   ·rename_i elem l hu hl;split at h
    ·rename_i c hc;cases h;simp only[hop,jam];exact jb5 (jnh hh hB hr hop hu hl hc)
    ·cases h
   ·cases h
  ·-- makeSlice
   rename_i t l c hop;split at h
   ·rename_i elem k n k' m hu hl hc;split at h
    ·rename_i z e b hz hs hb;split at h
     ·rename_i hzl;split at h
      ·rename_i cc hcc;cases h;simp only[hop,jam];cases hrl:rd l with
       |none=>simp[hrl]at hl
       |some u =>
        cases hrc:rd c with
        |none=>simp[hrc]at hc
        |some u' =>
         simp only[hrl,zw]at hl;simp only[hrc,zw]at hc;exact jom hh hB hr hop hu hrl hl hrc hc hz hs hb hzl hcc hob
      ·cases h
     ·cases h
    ·cases h
   ·cases h
  ·-- slice
   rename_i t x lo hi hop;split at h
   ·rename_i n elem k j hu hx hlo hhi
    have hlo':lo=none:=by
     cases lo with
     |none=>rfl
     |some y=>simp only[jaM]at hlo;split at hlo<;>simp at hlo
    have hhi':hi=none:=by
     cases hi with
     |none=>rfl
     |some y=>simp only[jaM]at hhi;split at hhi<;>simp at hhi
    subst hlo';subst hhi';split at h
    ·rename_i ty cs e z hf hs hz;split at h
     ·rename_i ds hds;split at h
      ·rename_i hl;split at h
       ·rename_i c hc;cases h;simp only[hop,jam];exact jb5 (jpR hh hB hr hop hu hx hf hs hds hl hc)
       ·cases h
      ·cases h
     ·cases h
    ·cases h
   ·rename_i elem k l m hu hx hlo hhi;split at h
    ·rename_i ob e hf hs;split at h
     ·rename_i c hc;split at h
      ·rename_i hce;cases h;simp only[hop,jam];exact jb5 (jgN hh hB hr hop hu hx hlo hhi hf hs hc hce hob _ rfl rfl rfl)
      ·cases h
     ·cases h
    ·cases h
   ·cases h
  ·-- store
   rename_i t x y hop;split at h
   ·rename_i k i e j u hx hy;split at h
    ·rename_i hc;obtain⟨hone,hs,hall⟩:=hc;split at h
     ·rename_i ty cs hf;split at h
      ·rename_i p cs' hst;cases h;simp only[hop,jam];obtain⟨rfl,hle⟩:=jwe (i:=i) hst hob;exact jx0 (jiw hh hr hop hx hy hone hs hall hf hle) rfl rfl rfl
      ·split at h
       ·rename_i hle;cases h;simp only[hop,jam];exact jiw hh hr hop hx hy hone hs hall hf hle
       ·cases h
     ·rename_i ty c hf;split at h
      ·rename_i ds hds;split at h
       ·rename_i c' hc';split at h
        ·rename_i he;cases h;simp only[hop,jam];exact jeW hh hr hop hx hy hone hs hall hf hds (Cont.upd_cell hc' hob) he.1 he.2 hob
        ·cases h
       ·cases h
      ·cases h
     ·cases h
    ·cases h
   ·cases h
  ·-- call
   rename_i c hop;split at h
   ·-- append
    rename_i s x t t' hcal hargs hts;split at h
    ·rename_i htt;subst htt;split at h
     ·rename_i cv hfv;unfold jjd at hfv;split at hfv
      ·rename_i k hrs;split at hfv
       ·rename_i q c1 hfk;cases hfv;unfold jfu at h;split at h
        ·rename_i elem hx cx hu hsx;split at h
         ·rename_i z e b hz hsz hby;split at h
          ·rename_i c2 h2;split at h
           ·rename_i c3 h3;split at h
            ·rename_i hcond;cases h;have e1:c.args=#[s,x]:=by apply qy;simpa using hargs
             have e2:c.argTypes=#[t,t]:=by apply qy;simpa using hts
             cases hrx:rd x with
             |none=>simp[hrx]at hsx
             |some ux =>
              simp only[hrx,zw]at hsx;have hm:jam sp o.op rd=false:=by simp only[hop,jam,hcal]
              rw[hm];exact jrh hh hB hr hop hcal e1 e2 hu hrs hfk hrx hsx hz hsz hby h2 h3 hcond.1 hcond.2 hob.1 hob.2 _ rfl rfl rfl
            ·cases h
           ·cases h
          ·cases h
         ·cases h
        ·cases h
       ·cases hfv
      ·cases hfv
     ·rename_i hfv;split at h
      ·rename_i elem hs cs hx cx hu hss hsx;split at h
       ·rename_i z e b hz hsz hby;split at h
        ·rename_i c1 c2 hownB h1 h2;split at h
         ·rename_i c3 h3;split at h
          ·rename_i hcond;cases h;have e1:c.args=#[s,x]:=by apply qy;simpa using hargs
           have e2:c.argTypes=#[t,t]:=by apply qy;simpa using hts
           cases hrs:rd s with
           |none=>simp[hrs]at hss
           |some us =>
            cases hrx:rd x with
            |none=>simp[hrx]at hsx
            |some ux =>
             simp only[hrs,zw]at hss;simp only[hrx,zw]at hsx;have hm:jam sp o.op rd=false:=by simp only[hop,jam,hcal]
             rw[hm];refine jst hh hB hr hop hcal e1 e2 hu hrs hrx hss hsx hz hsz hby ?_ h1 h2 h3 hcond.1 hcond.2.1 hob (Cont.one_all hcond.2.2) _ rfl rfl rfl;cases hs with
             |none=>trivial
             |some k =>
              simp only[zU]at hownB ⊢;cases hfk:find hp k with
              |none=>simp[hfk]at hownB
              |some ob =>
               cases ob with
               |row ty c'=>simp only[hfk]at hownB;exact beq_iff_eq.1 hownB
               |_=>simp[hfk]at hownB
          ·cases h
         ·cases h
        ·cases h
       ·cases h
      ·cases h
    ·cases h
   ·-- a call
    rename_i f args ats hcal;split at h
    ·rename_i g hs vs hrf hvs;split at h
     ·rename_i M S hsg;have hm:jam sp o.op rd=M:=by simp only[hop,jam,hcal,hrf,hsg]
      rw[hm];obtain⟨t,ht,hl⟩:=zD.1 h;cases t with
      |leaf r0 =>
       cases hl;exact jov hh hB hr hop hcal hrf hvs (hsp g M S hsg) ht hob
      |br=>cases hl
     ·cases h
    ·rename_i g hs vs hrf hvs;split at h
     ·rename_i M S hsg;have hm:jam sp o.op rd=M:=by simp only[hop,jam,hcal,hrf,hsg]
      rw[hm];obtain⟨t,ht,hl⟩:=zD.1 h;cases t with
      |leaf r0 =>
       cases hl;exact jmM hh hB hr hop hcal hrf hvs (hsp g M S hsg) ht hob
      |br=>cases hl
     ·cases h
    ·cases h
   ·cases h
  ·cases h
def drew (w:zx):zx:={ w with drawn:=w.drawn+1 }
def jjh (n:Nat) (w:zx):xA n w (drew w):=⟨rfl,rfl,rfl,zu _,fun _ _=>rfl⟩
def jvB {r:Res} (hh:HRel U B hp nx w) (hB:Old B w) {k:zZ} {n:Nat} (hn:(k.decode n).isNaN=true) (hrv:r.v=.w (.c (.o nx))) (hr:r.hp=(nx,.nan k)::hp) (hrn:r.nx=nx+1) (M:Bool) :
  Left U B nx w r M (upd U nx (.float k n)) (drew w):=by
 refine⟨jal _ _ _,by rw[hrn,hrv];exact zo nx,by omega,HRel.gr ?_,⟨rfl,rfl,rfl,zu _,fun _ _=>rfl⟩,fun _=>jjh _ _,fun _ h o q hnh hf hk=>?_⟩
 ·rw[hr,hrn];exact hh.add (jjh _ w) hB (jal _ _ _) trivial ⟨n,upd_same _ _ _,hn⟩ (by simp[O.blk])
 ·rw[hr]at hf;simp only[find]at hf;split at hf
  ·cases hf;cases hk
  ·have:=(hh.ok h o hf).1;omega
def jsu {k:zZ} {x y t:Nat}:(k.decode ((fM k x y).cut t)).isNaN=true:=by
 cases k
 ·exact Fl.nan32 t
 ·exact Fl.nan64 t
def jsv {k:zZ} {x t:Nat}:(k.decode ((fP k x).cut t)).isNaN=true:=by
 cases k
 ·exact Fl.nan32 t
 ·exact Fl.nan64 t
def juu {o:zX} {t:RT} (hsp:jac P sp) (hh:HRel U B hp nx w) (hB:Old B w) (hr:jav U nx rd a) (h:jgm P sp o.op rd hp nx=some t) (hob:t.sel.ob) :
  ∃M,jax P U B nx a w o t.sel M:=by
 unfold jgm at h;split at h
 ·rename_i op ty x y yt hop;split at h
  ·rename_i k m k' n hx hy;split at h
   ·rename_i r hk hr2;have hk:=jbz hk;subst hk;cases h;have h1:=(hr _ _ hx).2;have h2:=(hr _ _ hy).2
    have hg:(eqGuard op ty x y (yS k m) (yS k n)).run P w=.ok () w:=by
     cases op<;>simp[eqGuard]
    have hb:binOp op ty (.float k m) (.float k n)=jZ op k m n:=by
     unfold jwd at hr2;cases op<;>simp at hr2<;>simp[binOp]
    have hfa:jZ op k m n=(match(generalizing:=false) r with|some q=>pure (.float k q)|none=>(choose (.nanBits k m n) >>= fun z=>pure (.float k z)):Sem zF):=by
     unfold jwd at hr2;cases op<;>simp at hr2<;>subst hr2<;>simp[jZ]<;>split<;>rename_i hq<;>simp[hq]
    cases r with
    |some q =>
     refine⟨true,?_⟩;refine jak (U':=U) (w':=w) ?_ ⟨jae.refl _ _,trivial,zu _,hh.gr,Bel.refl _ _,(fun _=>qO _ _),fun _ h o k hn hf _=>absurd (hh.ok h o hf).1 (by omega)⟩;unfold qr;have e1:a.eval x=.float k m:=h1;have e2:a.eval y=.float k n:=h2;simp only[hop,e1,e2,zn,hg,zh,hb,hfa,zp];rfl
    |none =>
     refine⟨true,?_⟩;refine jak (U':=upd U nx (.float k ((fM k m n).cut (w.tape w.drawn (.nanBits k m n))))) (w':=drew w) ?_ (jvB hh hB jsu rfl rfl rfl true);unfold qr;have e1:a.eval x=.float k m:=h1;have e2:a.eval y=.float k n:=h2;simp only[hop,e1,e2,zn,hg,zh,hb,hfa,choose,Sem.run,f7];simp[RT.sel,V.val,W.val,C.val,drew]
   ·cases h
  ·cases h
 ·rename_i src dst x hop;split at h
  ·rename_i n hs hd hx;cases h;have h1:=(hr _ _ hx).2;have e1:a.eval x=.float .f32 n:=h1;have hc:convert src dst (.float .f32 n)=(convert src dst (.float .f32 n)):=rfl
   have hrun:(convert src dst (.float .f32 n)).run P w=(jG .f32 n .f64).run P w:=by
    simp[convert,zI hs,zI hd]
   unfold jpL to64;cases hdec:jo .f32 n with
   |nan s f =>
    refine⟨true,?_⟩;refine jak (U':=upd U nx (.float .f64 ((fP .f64 n).cut (w.tape w.drawn (.nanConv .f64 n))))) (w':=drew w) ?_ (jvB hh hB jsv rfl rfl rfl true);unfold qr;simp only[hop,e1,zn,hrun];simp[jG,hdec,choose,Sem.run,f7,RT.sel,V.val,W.val,C.val,drew,jp]
   |infinity s =>
    refine⟨true,?_⟩;refine jak (U':=U) (w':=w) ?_ ⟨jae.refl _ _,trivial,zu _,hh.gr,Bel.refl _ _,(fun _=>qO _ _),fun _ h o k hn hf _=>absurd (hh.ok h o hf).1 (by omega)⟩;unfold qr;simp only[hop,e1,zn,hrun];simp[jG,hdec,RT.sel,V.val,W.val,C.val,D.val,vf,jp]
   |number s m e =>
    refine⟨true,?_⟩;refine jak (U':=U) (w':=w) ?_ ⟨jae.refl _ _,trivial,zu _,hh.gr,Bel.refl _ _,(fun _=>qO _ _),fun _ h o k hn hf _=>absurd (hh.ok h o hf).1 (by omega)⟩;unfold qr;have hinf:(jo .f64 (FloatKind.encode .f64 (.number s m e))).isInfinity=false:=Fl.up64 (b:=n) hdec;simp only[hop,e1,zn,hrun];simp[jG,hdec,hinf,RT.sel,V.val,W.val,C.val,D.val,vf,jp]
  ·cases h
 ·rename_i c hop;split at h
  ·rename_i f hcal;split at h
   ·rename_i g hs vs hrf hvs;split at h
    ·rename_i M S hsg;exact⟨M,jov hh hB hr hop hcal hrf hvs (hsp g M S hsg) h hob⟩
    ·cases h
   ·rename_i g hs vs hrf hvs;split at h
    ·rename_i M S hsg;exact⟨M,jmM hh hB hr hop hcal hrf hvs (hsp g M S hsg) h hob⟩
    ·cases h
   ·cases h
  ·cases h
 ·cases h
end
end Go.Sx
end
