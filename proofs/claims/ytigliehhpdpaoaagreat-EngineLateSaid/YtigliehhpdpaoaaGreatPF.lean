/- Part 6 of the proof of EngineLate: the executor, the mirrors of the functions, the plain facts. -/
import Derived.Test.YtigliehhpdpaoaaGreatPE
import Derived.RangeFuncNested
import Derived.RangeFuncBound
import Derived.RangeFuncCalls
import Derived.RangeFuncLeaves
import Derived.OwnWalkIn
import Derived.TacticsInMore
import Derived.OrdersIn
import Derived.Carry
import Derived.ChangeArms
import Derived.OpenShut
import Derived.ChangeShapes
import Derived.ChangeSame
import Derived.SizedLaws
import Derived.WideShapes
set_option maxRecDepth 100000
set_option linter.unusedSectionVars false
set_option linter.unusedSimpArgs false
set_option linter.unusedVariables false
set_option linter.defProp false
open Array renaming getElem?_eq_getElem->qX
open Bool renaming and_eq_true->zm,eq_iff_iff->yJ,false_eq_true->zV,not_eq_true->jZ,not_eq_true'->xt,not_true->gx,or_eq_false_iff->yo,or_eq_true->qK
open ByteArray renaming empty->xM,mk->qD
open Classical renaming choose->yD,choose_spec->ja
open Eq renaming mp->jI
open Go renaming FloatKind->z8,MemPlace->j8,Oper->qu,Operand->zR,Program->zL,TypeId->qH,Value->zt,World->zs,execOp->qR,undef->z3,wp_mono->x6,wp_seq->g6
open Go.Act renaming put->jA
open Go.Addr renaming add->fq
open Go.DataW renaming Trod->kv,TrodAll->gD,trod->xC,trod_array->fH,trod_slice->fI,trod_struct->gq
open Go.FloatKind renaming decode->qG,encode->jg,nearest->qv
open Go.IntKind renaming bits->ki,i64->xu,max->ku,min->kt,signed->fZ
open Go.RowKit renaming Below->x8
open Go.Value renaming cells->gX,okWide->gM,slice->qd
open Go.World renaming block_lt_of_cell?->qO,cell?->g8,cells?_some->fy
open Ieee renaming Format->j7
open Ieee.Format renaming order->qn
open Int renaming toNat->zg,toNat_natCast->zi
open List renaming any_eq_false->xx,any_eq_true->qM,drop->yI,drop_drop->jT,drop_eq_nil_of_le->yU,drop_zero->xU,eq_nil_of_length_eq_zero->z5,eq_of_mem_replicate->xB,ext_getElem->xH,findIdx?_eq_none_iff->qt,findIdx?_eq_some_iff_getElem->qm,flatMap_cons->xg,getD->za,getElem?_eq_getElem->zG,getElem?_eq_some_iff->zB,getElem?_replicate->yQ,getElem_mem->zZ,headD->qg,length->ze,length_append->qh,length_cons->zA,length_drop->xm,length_map->qk,length_nil->qi,length_range->yq,length_replicate->yf,map->xj,map_append->qQ,map_congr_left->qy,map_cons->zJ,map_map->xh,map_nil->qZ,map_replicate->yT,mem_append->qE,mem_append_left->yn,mem_append_right->yg,mem_cons->qp,mem_cons_of_mem->zu,mem_cons_self->zw,mem_iff_getElem->xf,mem_map->qa,mem_range->qJ,mem_singleton->zW,range->zo,range_succ->ye,replicate->zf,replicate_succ->yu,set->qw,take->yH,take_append_drop->xF,take_of_length_le->xq
open Nat renaming add_assoc->xz,add_mul->qz,div_add_mod->x9,div_lt_of_lt_mul->ym,le_of_ble_eq_true->zh,le_refl->zq,le_succ->xe,le_trans->qS,log2_lt->gY,lt_of_lt_of_le->zF,lt_succ_self->zp,min_eq_left->ya,mod_lt->xY,mul_assoc->x7,mul_comm->xr,mul_le_mul_right->qe,mul_lt_mul_of_pos_right->yy,not_lt_zero->xW,pos_of_ne_zero->gj,pow_add->yA,two_pow_pos->yd,zero_mul->xV
open Option renaming bind->zb,bind_eq_some_iff->zQ,getD->zM,getD_some->zY,map_some->qr
open Option.some renaming inj->yc,injEq->zk
open Sum renaming elim->qC
noncomputable section
section
namespace Go.Sh
open Go Go.Proofs Go.RowKit Go.Sx Go.Sx06
open Go.IntKind (wrap)
variable {g:List (List NC)} {l:List Int}
def jlr (P:List (List Nat)) (G:List (List Int)) (n:Nat):List (List Nat):=(zo n).map fun u:Nat=>(zo 128).map fun k:Nat=>nf (atI P G (u:Int) ((k:Int)-96))
def jIo {n:Nat} {P:List (List Nat)} {G:List (List Int)} (hP:PR n P) (hG:GR n G):PR n (jlr P G n) :=
 ⟨by simp[jlr],fun i hi=>by
  unfold jlr;rw[jbS _ hi];refine⟨by simp,fun j hj=>?_⟩;have hr:=jnX hP hG hi (k:=(j:Int)-96) (by omega);rw[jbS _ hj,jCI (jsM hr),if_pos hr]⟩
def jCR {n:Nat} {P:List (List Nat)} {G:List (List Int)} (hP:PR n P) (hG:GR n G) (hn:n<1000) {u:Nat} (hu:u<n) (y:List (List Nat)) :
  jae (jt0 P (gw G) ((u:Int),y)) big (-96,[])=some ((zo 128).map fun k:Nat=>nf (atI P G (u:Int) ((k:Int)-96))) :=
 jaJ (body:=jt0 P (gw G) ((u:Int),y)) (fun i=>((i:Int)-96,(zo i).map fun k:Nat=>nf (atI P G (u:Int) ((k:Int)-96)))) (k:=128) (fun i hi=>by
  unfold jt0;dsimp only;rw[if_pos (by omega),jHP hP hG hu (by omega) hn,jac,if_pos (by simp only[qk,yq,zA,qi];omega),jao (by omega),ye,qQ];have e:(i:Int)-96+1=((i+1:Nat):Int)-96:=by omega
  rw[e];rfl) (by
  unfold jt0;dsimp only;rw[if_neg (by omega)]) (by omega)
def jEA {P:List (List Nat)} {G:List (List Int)} (hP:PR g.length P) (hG:GR g.length G) (hn:g.length<1000) (b:Int) :
  y71 g b P (gw G)=some (wrap .i64 (b+1),jlr P G g.length):=by
 have hrec:∀x:List Nat,xj (fun r=>NC.toFlts (qg r (NC.d (D.v z3)))) [[NC.r (Cont.floats FloatKind.f32 x)]]=[x]:=fun x=>rfl
 have hit:jae (y73 g P (gw G)) big (0,[])=some (jlr P G g.length):=jaJ (body:=y73 g P (gw G)) (fun i=>((i:Int),(zo i).map fun u:Nat=>(zo 128).map fun k:Nat=>nf (atI P G (u:Int) ((k:Int)-96)))) (k:=g.length) (fun i hi=>by
  unfold y73;dsimp only;rw[if_pos (by omega),jCR hP hG hn hi,jac];unfold y259;simp only[hrec];rw[if_pos (by simp only[qk,yq,zA,qi];omega),jao (by omega),@ye i,qQ];rfl) (by
  unfold y73;dsimp only;rw[if_neg (by omega)];rfl) (by omega)
 unfold y71;rw[hit];rfl
def csN (C:List Int):Nat->Int
 |0=>0
 |m+1=>csN C m+C.getD m 0
def jiv {n:Nat} {C:List Int} (h:∀i,i<n->0<=C.getD i 0∧C.getD i 0<=200):∀m,m<=n->0<=csN C m∧csN C m<=m*200
 |0,_=>by simp[csN]
 |m+1,hm=>by
  have h1:=jiv h m (by omega);have h2:=h m (by omega);unfold csN
  push_cast
  omega
def jCS {n:Nat} {C:List Int} (hn:n<1000) (hl:C.length=n) (h:∀i,i<n->0<=C.getD i 0∧C.getD i 0<=200):y61 C=some (csN C n):=by
 have hit:jae (y52 C) big (0,0)=some (csN C n):=jaJ (body:=y52 C) (fun i=>(csN C i,(i:Int))) (k:=n) (fun i hi=>by
  have h1:=jiv h i (by omega);have h2:=h i hi;unfold y52;dsimp only;rw[if_pos (by omega),if_pos (by omega),if_pos (by omega),zi,jao (by omega),jao (by omega)];rfl) (by
  unfold y52;dsimp only;rw[if_neg (by omega)]) (by omega)
 unfold y61;rw[hit];rfl
def jgH (g:List (List NC)) (G:List (List Int)):List (List Nat):=(jaD g 4).map fun u=>(gw G).getD u.toNat []
def jGM {G:List (List Int)} (hG:GR g.length G) (hn:g.length<1000):y7 g (gw G)=some (jgH g G):=by
 have hl:=je8 g 4 g.length;have hlen:(jaD g 4).length<1000:=by unfold jaD;omega
 have hgl:=jnV G;have hG1:=hG.1;unfold y7
 rw[jkb hn,jac,jlj (body:=y80 (gw G) (jaD g 4)) (jaD g 4) 0 (fun u=>(gw G).getD u.toNat []) (by omega) (fun i hi o ho=>by
  obtain⟨u,hu,he,_⟩:=jIg hi;unfold y80;dsimp only;rw[if_pos (by omega),if_pos (by omega),zi,if_pos hi,he,zi,if_pos (by omega),if_pos (by omega),if_pos (by simp only[zA,qi];omega),jao (by omega)]) (fun o=>by
  unfold y80;dsimp only;rw[if_neg (by omega)])]
 rfl
def jAi (h:Rg g l) (nm:ByteArray) (b:Int) {failed:List Bool} (hf:failed.length=g.length) :
  y15 nm g l b failed=some (b,jdD g (fun i=>failed.getD i false),zf g.length Z32,zf g.length [],zf g.length 0):=by
 have hn:=h.n;unfold y15;rw[jyR h nm failed hf,jac,if_pos (by omega),if_pos (by omega),if_pos (by omega),zi];rfl
def jsS (h:Rg g l) (fb:Nat->Bool):WR g.length (jdD g fb) :=
 ⟨jBa g fb,fun i hi=>by
  rw[jBb g fb hi];obtain⟨j,hj,e⟩:=h.surj hi;rw[<-e];rcases jIb h fb j hj with r|⟨_,u,_,hu,_,r,_⟩
  ·exact Or.inl r
  ·exact Or.inr ⟨u,hu,r⟩⟩
def fs0 (g:List (List NC)):List (List (List Int)):=(zo g.length).map fun i=>zf (nR g i 6).length [0,0,0,0]
def P0 (n:Nat):List (List Nat):=zf n (zf 128 0)
def jBe:se 0=0:=by
 have e:(0:Nat)=nf 0:=by decide
 rw[e,jCI (by omega),if_pos (by decide)]
def P0_PR (n:Nat):PR n (P0 n):=⟨by simp[P0],fun i hi=>by
 unfold P0;rw[jbJ hi];exact⟨by simp,fun j hj=>by rw[jbJ hj];exact jBe⟩⟩
def jJr (g:List (List NC)):FR g (fs0 g):=⟨by simp[fs0],fun i hi=>by
 unfold fs0;rw[jbS _ hi];refine jEu (by simp) fun r hr=>?_;rw[xB hr];decide⟩
def jGN (h:Rg g l):y8 g=some (0,P0 g.length,fs0 g):=by
 have hn:=h.n;have hrec:∀x:List Nat,xj (fun r=>NC.toFlts (qg r (NC.d (D.v z3)))) [[NC.r (Cont.floats FloatKind.f32 x)]]=[x]:=fun x=>rfl;have hrec2:∀x:List (List Int),xj (fun r=>NC.toRecs (qg r (NC.d (D.v z3)))) [[NC.r (Cont.recs 4 x)]]=[x]:=fun x=>rfl
 have hit:jae (y74 g) big (0,[],[])=some (P0 g.length,fs0 g):=jaJ (body:=y74 g) (fun i=>((i:Int),zf i (zf 128 0),(zo i).map fun i=>zf (nR g i 6).length [0,0,0,0])) (k:=g.length) (fun i hi=>by
  have hc:=(h.unit hi).ca;have h6:=(jgQ hc).1;unfold y74;simp only[hrec,hrec2];rw[if_pos (by omega),if_pos (by omega),zi,if_pos hi,jAg (by omega) hc,jac,if_pos (by simp only[yf,zA,qi];omega),if_pos (by simp only[qk,yq,zA,qi];omega),jao (by omega),@ye i,qQ,List.replicate_succ' (n:=i)];rfl) (by
  unfold y74;dsimp only;rw[if_neg (by omega)];rfl) (by omega)
 unfold y8;rw[hit];rfl
def jbT (g:List (List NC)) (l:List Int) (fb:Nat->Bool) (P:List (List Nat)) (fs:List (List (List Int))) (B:List (List Nat)):List (List Nat) × Int × List (List Nat) × List (List (List Int)) :=
 (jgH g (jaM g P fs B (jdD g fb) l g.length).1,csN (jaM g P fs B (jdD g fb) l g.length).2.2 g.length,jlr P (jaM g P fs B (jdD g fb) l g.length).1 g.length,(jaM g P fs B (jdD g fb) l g.length).2.1)
def jEB (h:Rg g l) (fb:Nat->Bool) {P:List (List Nat)} {fs:List (List (List Int))} {B:List (List Nat)} (hP:PR g.length P) (hF:FR g fs) (hB:BR g B) :
  PR g.length (jbT g l fb P fs B).2.2.1∧FR g (jbT g l fb P fs B).2.2.2∧(jbT g l fb P fs B).1.length=(jaD g 4).length∧0<=(jbT g l fb P fs B).2.1∧(jbT g l fb P fs B).2.1<=200000:=by
 have hn:=h.n;have hw:=jsS h fb;obtain⟨hR,_⟩:=jgR h hP hF hB hw g.length (zq _);have hc:=jiv hR.cr g.length (zq _);exact⟨jIo hP hR.gr,jIm h hP hF hB hw,by simp[jbT,jgH],hc.1,by unfold jbT;dsimp only;omega⟩
end Go.Sh
end

section
namespace Go.Sh
open Go Go.Proofs Go.RowKit Go.Sx
abbrev sp_152:jaa->jaa:=jan 152 true (jBO .f32 .u32)
def sp_152_ok {sp:jaa} (h:jab Tryz.prog sp):jab Tryz.prog (sp_152 sp) :=
 jag (jH3 (fn:=Tryz.f152) (g:=Extern.MathFloatBits.float32bits) Tryz.func152 (by kernel_rfl) (by kernel_rfl) (by kernel_rfl) (by kernel_rfl) fun _=>rfl) h
open Go.IntKind (wrap)
def jfy:List SV:=[.c (.d)]
def jjp (f:Nat):Option Bool :=
 if(qn (FloatKind.format .f64) f f != some Ordering.eq)=true then
  some false
 else
  if(Option.isSome (j7.sub (FloatKind.format .f64) f f))=true then
  if(qn (FloatKind.format .f64) (zM (j7.sub (FloatKind.format .f64) f f) (0:Nat)) (0:Nat)!=some Ordering.eq)=true then
   some false
  else
   if(qn (FloatKind.format .f64) f (14069741636278059008:Nat)==some Ordering.gt||qn (FloatKind.format .f64) f (14069741636278059008:Nat)==some Ordering.eq)=true then
   if(!(qn (FloatKind.format .f64) f (4846369599423283200:Nat)==some Ordering.lt||qn (FloatKind.format .f64) f (4846369599423283200:Nat)==some Ordering.eq))=true then
    some true
   else
    if jbU .f64 .i64 f=true then
    some (qn (FloatKind.format .f64) (qv .f64 (f2i .f64 f)) f==some Ordering.eq)
    else none
   else
   some true
  else
  some false
def jyW:Option Bool :=
 some false
def jjq:List Lf->Option GT
 |[.d (.f .f64 f)]=>some (.leaf (ok (jjp f)) [.c (.d (.b ((val (jjp f)))))])
 |[.n .f64]=>some (.leaf (ok (jyW)) [.c (.d (.b ((val (jyW)))))])
 |_=>none
abbrev sp_173:jaa->jaa:=jan 173 true (jah jfy jjq)
def jAj (f:Nat) (r:Bool):Sk (top r) (jjp f) :=
 .brB
 (.obT (.rc))
 (.brB
 (.obT (.brB
 (.obT (.rc))
 (.brB
 (.brB
 (.obT (.rc))
 (.ob (.obT (.obT (.rc)))))
 (.obT (.rc)))))
 (.obT (.obT (.rc))))
def jyX (f:Nat) (r:Bool) (h:zb (jjp f) some=some r):jaG Tryz.f173 (sp0) (fun _ _ _=>none) (jaC jfy [.d (.f .f64 f)]) [.c (.d (.b r))] :=
 Sk.vc (jAj f r) (by kernel_rfl) h
def jww (r:Bool):Sk (top r) (jyW) :=
 .obT (.rc)
def jux (r:Bool) (h:zb (jyW) some=some r):jaG Tryz.f173 (sp0) (fun _ _ _=>none) (jaC jfy [.n .f64]) [.c (.d (.b r))] :=
 Sk.vc (jww r) (by kernel_rfl) h
def jyY:jaf Tryz.prog 173 true (jah jfy jjq):=by
 refine jal (sp:=sp0) (fn:=Tryz.f173) (body:=bodyOf Tryz.f173) mixed jaj Tryz.func173 (by kernel_rfl) (by kernel_rfl) fun ls t h ho b hb=>?_;unfold jjq at h;split at h
 ·rename_i f;cases h;obtain rfl:=jap hb;exact⟨zh (by kernel_rfl),_,_,jyX f _ (jai ho)⟩
 ·cases h;obtain rfl:=jap hb;exact⟨zh (by kernel_rfl),_,_,jux _ (jai ho)⟩
 ·cases h
def sp_173_ok {sp:jaa} (h:jab Tryz.prog sp):jab Tryz.prog (sp_173 sp):=jag jyY h
attribute [irreducible] jjp
def jiw:List (Option Cont):=[none]
def y95 (x_:Nat):Option Int :=
 if(joq x_)=true then
  some (27:Int)
 else
  zb (jjp (jec x_)) fun r0 =>
  if(!r0)=true then
  some (27:Int)
  else
  if(qn (FloatKind.format .f64) (jec x_) (13898108175187443712:Nat)==some Ordering.lt)=true then
   some (2:Int)
  else
   if(qn (FloatKind.format .f64) (jec x_) (4674736138332667904:Nat)==some Ordering.gt)=true then
   some (2:Int)
   else
   some (0:Int)
def y288:List A->Option (Prop × List RV)
 |[.d (.f .f32 x_)]=>some (ok (y95 x_),[.d (.i .i64 ((val (y95 x_))))])
 |_=>none
abbrev sp_150:jaa->jaa:=jan 150 true (jar jiw y288)
def jsT (x_:Nat) (r:Int):Sk (top r) (y95 x_) :=
 .brB
 (.obT (.obC (ok jyW) (by decide) (.obT (.rc))))
 (.obT (.call (.brB
 (.obT (.rc))
 (.brB
 (.obT (.rc))
 (.brB
 (.obT (.rc))
 (.obT (.rc)))))))
def jq3 (x_:Nat) (r:Int) (h:zb (y95 x_) some=some r):ja1 Tryz.f150 ((sp_173 sp0)) (fun _ _ _=>none) [.d (.f .f32 x_)] [.d (.i .i64 r)] :=
 Sk.vc (jsT x_ r) (by kernel_rfl) h
def jq4:jaf Tryz.prog 150 true (jar jiw y288):=by
 refine jaA (sp:=(sp_173 sp0)) (fn:=Tryz.f150) (body:=bodyOf Tryz.f150) mixed (sp_173_ok jaj) Tryz.func150 (by kernel_rfl) (by kernel_rfl) fun as_ ob rs h ho=>?_;unfold y288 at h;split at h
 ·rename_i x_;cases h;exact⟨zh rfl,_,_,jq3 x_ _ (jai ho)⟩
 ·cases h
def sp_150_ok {sp:jaa} (h:jab Tryz.prog sp):jab Tryz.prog (sp_150 sp):=jag jq4 h
attribute [irreducible] y95
def jhH:List (Option Cont):=[some (.floats .f32 [])]
def y93 (l:List Nat) (x0:Int):Option (Int ⊕ (Int ⊕ Unit)) :=
 if x0<(↑l.length:Int)then
  if 0<=x0∧x0<(↑l.length:Int)then
  if zg x0<ze l then
   zb (y95 (za l x0.toNat (0:Nat))) fun r0 =>
   if(r0 != 0)=true then
   some (.inr (.inl r0))
   else
   some (.inl (wrap .i64 (x0+1)))
  else none
  else none
 else
  some (.inr ((.inr ())))
def jl7 (u4:Int):Option Int :=
 some u4
def jl8 (u9:Unit):Option Int :=
 some (0:Int)
def jgr:(Int ⊕ Unit)->Option Int :=
 (qC (jl7) (jl8))
def y81 (l:List Nat):Option Int :=
 zb (jae (y93 l) big (0:Int)) (jgr)
def y264:List A->Option (Prop × List RV)
 |[.r (.floats .f32 l)]=>some (ok (y81 l),[.d (.i .i64 ((val (y81 l))))])
 |_=>none
abbrev sp_107:jaa->jaa:=jan 107 true (jar jhH y264)
abbrev jgs (l:List Nat) (r:Int):Lp (Int × Nat) Int (Int ⊕ Unit) Int Int :=
 ⟨fun z=>z.1,fun z=>z.2,fun z x n=>(x,n),fun z=>y93 l,fun z=>jgr,fun z=>top r,fun z=>0,[.c fun vv=>vv.1,.c fun _=>l]⟩
def jq5 (l:List Nat) (r:Int):Sk (top r) (y81 l) :=
 .loop (jgs l r) (fun kk=>((0:Int),big)) fun z0 =>
 .br
 (.ob (.ob (.call (.brB
 (.exit (.obT (.rc)))
 (.next)))))
 (.exit (.obT (.rc)))
def jo2 (l:List Nat) (r:Int) (h:zb (y81 l) some=some r):ja1 Tryz.f107 ((sp_150 sp0)) (fun gs id st=>match id with
 |0=>some ⟨Int × Nat,fun z=>⟨[(0,.w (.c (.o 0))),(3,.w (.c (.d (.i .i64 z.1))))],[(0,.ext (.floats .f32 l))],1⟩,fun z=>(jgs l r).inv z,fun z=>z.2⟩
 |_=>none) [.r (.floats .f32 l)] [.d (.i .i64 r)] :=
 Sk.vc (jq5 l r) (by kernel_rfl) h
def jo3:jaf Tryz.prog 107 true (jar jhH y264):=by
 refine jaA (sp:=(sp_150 sp0)) (fn:=Tryz.f107) (body:=bodyOf Tryz.f107) mixed (sp_150_ok jaj) Tryz.func107 (by kernel_rfl) (by kernel_rfl) fun as_ ob rs h ho=>?_;unfold y264 at h;split at h
 ·rename_i l;cases h;exact⟨zh rfl,_,_,jo2 l _ (jai ho)⟩
 ·cases h
def sp_107_ok {sp:jaa} (h:jab Tryz.prog sp):jab Tryz.prog (sp_107 sp):=jag jo3 h
attribute [irreducible] y81
def y289:List SV:=[.c (.r (.frs .f32 32 []))]
def juy (l:List (List Nat)) (x0:Int):Option (Int ⊕ (Int ⊕ Unit)) :=
 if x0<(↑l.length:Int)then
  if 0<=x0∧x0<(↑l.length:Int)then
  if zg x0<ze l∧ze (za l x0.toNat [])=(32:Nat)∧0<=zM none (0:Int)∧zM none 0<=zM none (↑(32:Nat):Int)∧zM none (↑(32:Nat):Int)<=(↑(32:Nat):Int)then
   zb (y81 (yH (32:Nat) (yI (0:Nat) (za l x0.toNat [])))) fun r0 =>
   if(r0 != 0)=true then
   some (.inr (.inl r0))
   else
   some (.inl (wrap .i64 (x0+1)))
  else none
  else none
 else
  some (.inr ((.inr ())))
def jn2 (u4:Int):Option Int :=
 some u4
def jn3 (u9:Unit):Option Int :=
 some (0:Int)
def jhI:(Int ⊕ Unit)->Option Int :=
 (qC (jn2) (jn3))
def y96 (l:List (List Nat)):Option Int :=
 zb (jae (juy l) big (0:Int)) (jhI)
def y290:List Lf->Option GT
 |[.r (.frs .f32 32 l)]=>some (.leaf (ok (y96 l)) [.c (.d (.i .i64 ((val (y96 l)))))])
 |_=>none
abbrev sp_109:jaa->jaa:=jan 109 true (jah y289 y290)
abbrev jhJ (l:List (List Nat)) (r:Int):Lp (Int × Nat) Int (Int ⊕ Unit) Int Int :=
 ⟨fun z=>z.1,fun z=>z.2,fun z x n=>(x,n),fun z=>juy l,fun z=>jhI,fun z=>top r,fun z=>0,[.c fun vv=>vv.1,.c fun _=>l]⟩
def jsU (l:List (List Nat)) (r:Int):Sk (top r) (y96 l) :=
 .loop (jhJ l r) (fun kk=>((0:Int),big)) fun z0 =>
 .br
 (.ob (.ob (.call (.brB
 (.exit (.obT (.rc)))
 (.next)))))
 (.exit (.obT (.rc)))
def jq6 (l:List (List Nat)) (r:Int) (h:zb (y96 l) some=some r):jaG Tryz.f109 ((sp_107 sp0)) (fun gs id st=>match id with
 |0=>some ⟨Int × Nat,fun z=>⟨[(0,.w (.c (.o 0))),(3,.w (.c (.d (.i .i64 z.1))))],[(0,.ext (.frs .f32 32 l))],1⟩,fun z=>(jhJ l r).inv z,fun z=>z.2⟩
 |_=>none) (jaC y289 [.r (.frs .f32 32 l)]) [.c (.d (.i .i64 r))] :=
 Sk.vc (jsU l r) (by kernel_rfl) h
def jq7:jaf Tryz.prog 109 true (jah y289 y290):=by
 refine jal (sp:=(sp_107 sp0)) (fn:=Tryz.f109) (body:=bodyOf Tryz.f109) mixed (sp_107_ok jaj) Tryz.func109 (by kernel_rfl) (by kernel_rfl) fun ls t h ho b hb=>?_;unfold y290 at h;split at h
 ·rename_i l;cases h;obtain rfl:=jap hb;exact⟨zh (by kernel_rfl),_,_,jq6 l _ (jai ho)⟩
 ·cases h
def sp_109_ok {sp:jaa} (h:jab Tryz.prog sp):jab Tryz.prog (sp_109 sp):=jag jq7 h
attribute [irreducible] y96
def jhK:List SV:=[.a [.d,.x (.st zS [])],.c (.d)]
def jga (u1:List (List NC)) (u31:Int) (x0:(Int × List Int)):Option ((Int × List Int) ⊕ (List Int)) :=
 if x0.1<(↑u1.length:Int)then
  if 0<=x0.1∧x0.1<(↑u1.length:Int)then
  if zg x0.1<ze u1 then
   if(nI u1 x0.1.toNat (1:Nat)==u31)=true then
   if(ze x0.2+ze [x0.1])*8<=140737488355328∧ze x0.2+ze [x0.1]<=9223372036854775807 then
    some (.inl ((wrap .i64 (x0.1+1),x0.2++[x0.1])))
   else none
   else
   some (.inl ((wrap .i64 (x0.1+1),x0.2)))
  else none
  else none
 else
  some (.inr x0.2)
def jgb (u4:List Int):Option (List Int) :=
 some u4
def jn4 (u1:List (List NC)) (u31:Int):Option (List Int) :=
 zb (jae (jga u1 u31) big (((0:Int),[]))) (jgb)
def jhL:List Lf->Option GT
 |[.d (.s u3),.x (.st [.s,.i .i64,.ints .i64,.ints .i64,.ints .i64,.i .i64,.recs 5,.i .i64] u1),.d (.i .i64 u31)]=>some (.leaf (ok (jn4 u1 u31)) [.c (.row 3 (.ints .i64 ((val (jn4 u1 u31)))))])
 |_=>none
abbrev sp_121:jaa->jaa:=jan 121 true (jah jhK jhL)
abbrev jlH (u3:ByteArray) (u1:List (List NC)) (u31:Int) (r:List Int):Lp ((Int × List Int) × Nat) (Int × List Int) (List Int) (List Int) (List Int) :=
 ⟨fun z=>z.1,fun z=>z.2,fun z x n=>(x,n),fun z=>jga u1 u31,fun z=>jgb,fun z=>top r,fun z=>0,[.c fun _=>u31,.c fun _=>0,.c fun vv=>vv.1.1,.c fun _=>u3,.c fun vv=>vv.1.2,.c fun _=>u1]⟩
def jwx (u3:ByteArray) (u1:List (List NC)) (u31:Int) (r:List Int):Sk (top r) (zb (jae (jga u1 u31) big (((0:Int),[]))) (jgb)) :=
 .loopQ (jlH u3 u1 u31 r) [.c fun _=>u31,.c fun _=>0,.c fun vv=>vv.1.1,.c fun _=>u3,.p fun vv=>ze vv.1.2=(0:Nat),.c fun _=>u1] (fun kk=>(((0:Int),[]),big)) (fun z0 =>
 .br
 (.ob (.ob (.brB
 (.ob (.next))
 (.next))))
 (.exit (.obT (.rc)))) (fun _=>⟨rfl,trivial⟩)
def jyZ (u3:ByteArray) (u1:List (List NC)) (u31:Int) (r:List Int):Sk (top r) (jn4 u1 u31) :=
 jwx u3 u1 u31 r
def jwy (u3:ByteArray) (u1:List (List NC)) (u31:Int) (r:List Int) (h:zb (jn4 u1 u31) some=some r):jaG Tryz.f121 (sp0) (fun gs id st=>match id with
 |0=>some ⟨(Int × List Int) × Nat,fun z=>⟨[(1,.w (.c (.d (.i .i64 u31)))),(2,.w (.c (.p 1 0 1 0))),(5,.w (.c (.o 2))),(6,.w (.c (.d (.i .i64 z.1.1))))],[(1,.box 24 [.d (.s u3),.o 0]),(2,.row 3 (.ints .i64 z.1.2)),(0,.xext (XC.st zS u1))],3⟩,fun z=>(jlH u3 u1 u31 r).inv z,fun z=>z.2⟩
 |_=>none) (jaC jhK [.d (.s u3),.x (.st zS u1),.d (.i .i64 u31)]) [.c (.row 3 (.ints .i64 r))] :=
 Sk.vc (jyZ u3 u1 u31 r) (by kernel_rfl) h
def jwz:jaf Tryz.prog 121 true (jah jhK jhL):=by
 refine jal (sp:=sp0) (fn:=Tryz.f121) (body:=bodyOf Tryz.f121) mixed jaj Tryz.func121 (by kernel_rfl) (by kernel_rfl) fun ls t h ho b hb=>?_;unfold jhL at h;split at h
 ·rename_i u3 u1 u31;cases h;obtain rfl:=jap hb;exact⟨zh (by kernel_rfl),_,_,jwy u3 u1 u31 _ (jai ho)⟩
 ·cases h
def sp_121_ok {sp:jaa} (h:jab Tryz.prog sp):jab Tryz.prog (sp_121 sp):=jag jwz h
attribute [irreducible] jn4
def jhM:List SV:=[.a [.d,.x (.st zS [])]]
def jq8 (u1:List (List NC)):Option (List Int) :=
 zb (jn4 u1 (0:Int)) fun r0 =>
 some r0
def jhN:List Lf->Option GT
 |[.d (.s u3),.x (.st [.s,.i .i64,.ints .i64,.ints .i64,.ints .i64,.i .i64,.recs 5,.i .i64] u1)]=>some (.leaf (ok (jq8 u1)) [.c (.row 3 (.ints .i64 ((val (jq8 u1)))))])
 |_=>none
abbrev sp_73:jaa->jaa:=jan 73 true (jah jhM jhN)
def jy0 (u3:ByteArray) (u1:List (List NC)) (r:List Int):Sk (top r) (jq8 u1) :=
 .call (.obT (.rc))
def jwA (u3:ByteArray) (u1:List (List NC)) (r:List Int) (h:zb (jq8 u1) some=some r):jaG Tryz.f73 ((sp_121 sp0)) (fun _ _ _=>none) (jaC jhM [.d (.s u3),.x (.st zS u1)]) [.c (.row 3 (.ints .i64 r))] :=
 Sk.vc (jy0 u3 u1 r) (by kernel_rfl) h
def jwB:jaf Tryz.prog 73 true (jah jhM jhN):=by
 refine jal (sp:=(sp_121 sp0)) (fn:=Tryz.f73) (body:=bodyOf Tryz.f73) mixed (sp_121_ok jaj) Tryz.func73 (by kernel_rfl) (by kernel_rfl) fun ls t h ho b hb=>?_;unfold jhN at h;split at h
 ·rename_i u3 u1;cases h;obtain rfl:=jap hb;exact⟨zh (by kernel_rfl),_,_,jwA u3 u1 _ (jai ho)⟩
 ·cases h
def sp_73_ok {sp:jaa} (h:jab Tryz.prog sp):jab Tryz.prog (sp_73 sp):=jag jwB h
attribute [irreducible] jq8
def jgc:List SV:=[.a [.d,.x (.st zS [])],.c (.x (.bb .f32 32 []))]
def jy1 (in_:List (List (List Nat))) (x0:Int):Option (Int ⊕ (Unit ⊕ Unit)) :=
 if x0<(↑in_.length:Int)then
  if 0<=x0∧x0<(↑in_.length:Int)then
  if zg x0<ze in_ then
   if(0:Int)<=0∧0<(↑in_.length:Int)then
   if 0<ze in_ then
    if((↑(ze (za in_ x0.toNat [])):Int)!=(↑(ze (za in_ 0 [])):Int))=true then
    some (.inr ((.inl ())))
    else
    some (.inl (wrap .i64 (x0+1)))
   else none
   else none
  else none
  else none
 else
  some (.inr ((.inr ())))
def jq9 (in_:List (List (List Nat))) (u4:Unit):Option Int :=
 some (10:Int)
def jra (in_:List (List (List Nat))) (x1:Int):Option (Int ⊕ (Unit ⊕ Unit)) :=
 if x1<(↑in_.length:Int)then
  if 0<=x1∧x1<(↑in_.length:Int)then
  if zg x1<ze in_ then
   if(↑(ze (za in_ x1.toNat [])):Int)>16 then
   some (.inr ((.inl ())))
   else
   some (.inl (wrap .i64 (x1+1)))
  else none
  else none
 else
  some (.inr ((.inr ())))
def jrb (in_:List (List (List Nat))) (u26:Unit):Option Int :=
 some (8:Int)
def juz (in_:List (List (List Nat))) (x2:Int):Option (Int ⊕ (Int ⊕ Unit)) :=
 if x2<(↑in_.length:Int)then
  if 0<=x2∧x2<(↑in_.length:Int)then
  if zg x2<ze in_ then
   zb (y96 (za in_ x2.toNat [])) fun r1 =>
   if(r1 != 0)=true then
   some (.inr (.inl r1))
   else
   some (.inl (wrap .i64 (x2+1)))
  else none
  else none
 else
  some (.inr ((.inr ())))
def jrc (u52:Int):Option Int :=
 some u52
def jrd (u58:Unit):Option Int :=
 some (0:Int)
def jkc:(Int ⊕ Unit)->Option Int :=
 (qC (jrc) (jrd))
def y265 (in_:List (List (List Nat))) (u33:Unit):Option Int :=
 zb (jae (juz in_) big (0:Int)) (jkc)
def je9 (in_:List (List (List Nat))):(Unit ⊕ Unit)->Option Int :=
 (qC (jrb in_) (y265 in_))
def y266 (in_:List (List (List Nat))) (u9:Unit):Option Int :=
 zb (jae (jra in_) big (0:Int)) (je9 in_)
def jkd (in_:List (List (List Nat))):(Unit ⊕ Unit)->Option Int :=
 (qC (jq9 in_) (y266 in_))
def jn5 (u1:List (List NC)) (in_:List (List (List Nat))):Option Int :=
 zb (jq8 u1) fun r0 =>
 if((↑in_.length:Int)!=(↑r0.length:Int))=true then
  some (10:Int)
 else
  zb (jae (jy1 in_) big (0:Int)) (jkd in_)
def jgd:List Lf->Option GT
 |[.d (.s u3),.x (.st [.s,.i .i64,.ints .i64,.ints .i64,.ints .i64,.i .i64,.recs 5,.i .i64] u1),.x (.bb .f32 32 in_)]=>some (.leaf (ok (jn5 u1 in_)) [.c (.d (.i .i64 ((val (jn5 u1 in_)))))])
 |_=>none
abbrev sp_119:jaa->jaa:=jan 119 true (jah jgc jgd)
abbrev jke (u3:ByteArray) (u1:List (List NC)) (in_:List (List (List Nat))) (r:Int):Lp (Int × Nat) Int (Unit ⊕ Unit) Int Int :=
 ⟨fun z=>z.1,fun z=>z.2,fun z x n=>(x,n),fun z=>jy1 in_,fun z=>jkd in_,fun z=>top r,fun z=>0,[.c fun vv=>vv.1,.c fun _=>in_]⟩
abbrev jkf (u3:ByteArray) (u1:List (List NC)) (in_:List (List (List Nat))) (r:Int):Lp (Unit × Int × Nat) Int (Unit ⊕ Unit) Int Int :=
 ⟨fun z=>z.2.1,fun z=>z.2.2,fun z x n=>((),x,n),fun z=>jra in_,fun z=>je9 in_,fun z=>top r,fun z=>0,[.c fun vv=>vv.2.1,.c fun _=>in_]⟩
abbrev jkg (u3:ByteArray) (u1:List (List NC)) (in_:List (List (List Nat))) (r:Int):Lp (Unit × Unit × Int × Nat) Int (Int ⊕ Unit) Int Int :=
 ⟨fun z=>z.2.2.1,fun z=>z.2.2.2,fun z x n=>((),(),x,n),fun z=>juz in_,fun z=>jkc,fun z=>top r,fun z=>0,[.c fun vv=>vv.2.2.1,.c fun _=>in_]⟩
def juA (u3:ByteArray) (u1:List (List NC)) (in_:List (List (List Nat))) (r:Int):Sk (top r) (zb (jae (jra in_) big (0:Int)) (je9 in_)) :=
 .loop (jkf u3 u1 in_ r) (fun kk=>((),0,big)) fun z0 =>
 .br
 (.ob (.ob (.br
 (.exit (.obT (.rc)))
 (.next))))
 (.exit (.loop (jkg u3 u1 in_ r) (fun kk=>((),(),0,big)) fun z0 =>
 .br
 (.ob (.ob (.call (.brB
 (.exit (.obT (.rc)))
 (.next)))))
 (.exit (.obT (.rc)))))
def jwC (u3:ByteArray) (u1:List (List NC)) (in_:List (List (List Nat))) (r:Int):Sk (top r) (jn5 u1 in_) :=
 .call (.brB
 (.obT (.rc))
 (.loop (jke u3 u1 in_ r) (fun kk=>((0:Int),big)) fun z0 =>
 .br
 (.ob (.ob (.ob (.ob (.brB
 (.exit (.obT (.rc)))
 (.next))))))
 (.exit (juA u3 u1 in_ r))))
def juB (u3:ByteArray) (u1:List (List NC)) (in_:List (List (List Nat))) (r:Int) (h:zb (jn5 u1 in_) some=some r):jaG Tryz.f119 ((sp_73 (sp_109 sp0))) (fun gs id st=>match id with
 |0=>some ⟨Int × Nat,fun z=>⟨[(1,.w (.c (.o 1))),(5,.w (.c (.d (.i .i64 z.1))))],[(1,.xext (XC.bb .f32 (32:Nat) in_))],2⟩,fun z=>(jke u3 u1 in_ r).inv z,fun z=>z.2⟩
 |2=>some ⟨Unit × Int × Nat,fun z=>⟨[(1,.w (.c (.o 1))),(6,.w (.c (.d (.i .i64 z.2.1))))],[(1,.xext (XC.bb .f32 (32:Nat) in_))],2⟩,fun z=>(jkf u3 u1 in_ r).inv z,fun z=>z.2.2⟩
 |4=>some ⟨Unit × Unit × Int × Nat,fun z=>⟨[(1,.w (.c (.o 1))),(7,.w (.c (.d (.i .i64 z.2.2.1))))],[(1,.xext (XC.bb .f32 (32:Nat) in_))],2⟩,fun z=>(jkg u3 u1 in_ r).inv z,fun z=>z.2.2.2⟩
 |_=>none) (jaC jgc [.d (.s u3),.x (.st zS u1),.x (.bb .f32 32 in_)]) [.c (.d (.i .i64 r))] :=
 Sk.vc (jwC u3 u1 in_ r) (by kernel_rfl) h
def juC:jaf Tryz.prog 119 true (jah jgc jgd):=by
 refine jal (sp:=(sp_73 (sp_109 sp0))) (fn:=Tryz.f119) (body:=bodyOf Tryz.f119) mixed (sp_73_ok (sp_109_ok jaj)) Tryz.func119 (by kernel_rfl) (by kernel_rfl) fun ls t h ho b hb=>?_;unfold jgd at h;split at h
 ·rename_i u3 u1 in_;cases h;obtain rfl:=jap hb;exact⟨zh (by kernel_rfl),_,_,juB u3 u1 in_ _ (jai ho)⟩
 ·cases h
def sp_119_ok {sp:jaa} (h:jab Tryz.prog sp):jab Tryz.prog (sp_119 sp):=jag juC h
attribute [irreducible] jn5
def jge:List SV:=[.a [.d,.x (.st zS [])],.c (.x (.bb .f32 32 [])),.c (.r (.recs 2 []))]
def jre (u3:ByteArray) (u1:List (List NC)) (in_:List (List (List Nat))) (l:List (List Int)):Option Int :=
 zb (jqv u3 u1) fun r0 =>
 if(r0 != 0)=true then
  some r0
 else
  zb (jn5 u1 in_) fun r1 =>
  if(r1 != 0)=true then
  some r1
  else
  zb (y60 u3 u1 l) fun r2 =>
  some r2.2
def jgf:List Lf->Option GT
 |[.d (.s u3),.x (.st [.s,.i .i64,.ints .i64,.ints .i64,.ints .i64,.i .i64,.recs 5,.i .i64] u1),.x (.bb .f32 32 in_),.r (.recs 2 l)]=>some (.leaf (ok (jre u3 u1 in_ l)) [.c (.d (.i .i64 ((val (jre u3 u1 in_ l)))))])
 |_=>none
abbrev sp_65:jaa->jaa:=jan 65 true (jah jge jgf)
def jwD (u3:ByteArray) (u1:List (List NC)) (in_:List (List (List Nat))) (l:List (List Int)) (r:Int):Sk (top r) (jre u3 u1 in_ l) :=
 .call (.brB
 (.obT (.rc))
 (.call (.brB
 (.obT (.rc))
 (.call (.obT (.rc))))))
def juD (u3:ByteArray) (u1:List (List NC)) (in_:List (List (List Nat))) (l:List (List Int)) (r:Int) (h:zb (jre u3 u1 in_ l) some=some r):jaG Tryz.f65 ((sp_22 (sp_119 (sp_44 sp0)))) (fun _ _ _=>none) (jaC jge [.d (.s u3),.x (.st zS u1),.x (.bb .f32 32 in_),.r (.recs 2 l)]) [.c (.d (.i .i64 r))] :=
 Sk.vc (jwD u3 u1 in_ l r) (by kernel_rfl) h
def juE:jaf Tryz.prog 65 true (jah jge jgf):=by
 refine jal (sp:=(sp_22 (sp_119 (sp_44 sp0)))) (fn:=Tryz.f65) (body:=bodyOf Tryz.f65) mixed (sp_22_ok (sp_119_ok (sp_44_ok jaj))) Tryz.func65 (by kernel_rfl) (by kernel_rfl) fun ls t h ho b hb=>?_;unfold jgf at h;split at h
 ·rename_i u3 u1 in_ l;cases h;obtain rfl:=jap hb;exact⟨zh (by kernel_rfl),_,_,juD u3 u1 in_ l _ (jai ho)⟩
 ·cases h
def sp_65_ok {sp:jaa} (h:jab Tryz.prog sp):jab Tryz.prog (sp_65 sp):=jag juE h
attribute [irreducible] jre
def jkh:List (Option Cont):=[some (.floats .f32 []),some (.floats .f32 [])]
def juF (a b:List Nat) (x0:Int):Option (Int ⊕ (Unit ⊕ Unit)) :=
 if x0<(↑a.length:Int)then
  if 0<=x0∧x0<(↑a.length:Int)then
  if zg x0<ze a then
   if 0<=x0∧x0<(↑b.length:Int)then
   if zg x0<ze b then
    if((↑(za a x0.toNat (0:Nat)):Int)!=(↑(za b x0.toNat (0:Nat)):Int))=true then
    some (.inr ((.inl ())))
    else
    some (.inl (wrap .i64 (x0+1)))
   else none
   else none
  else none
  else none
 else
  some (.inr ((.inr ())))
def jo4 (u4:Unit):Option Bool :=
 some false
def jo5 (u9:Unit):Option Bool :=
 some true
def jix:(Unit ⊕ Unit)->Option Bool :=
 (qC (jo4) (jo5))
def jn6 (a b:List Nat):Option Bool :=
 if((↑a.length:Int)!=(↑b.length:Int))=true then
  some false
 else
  zb (jae (juF a b) big (0:Int)) (jix)
def jfa:List A->Option (Prop × List RV)
 |[.r (.floats .f32 a),.r (.floats .f32 b)]=>some (ok (jn6 a b),[.d (.b ((val (jn6 a b))))])
 |_=>none
abbrev sp_110:jaa->jaa:=jan 110 true (jar jkh jfa)
abbrev jiy (a b:List Nat) (r:Bool):Lp (Int × Nat) Int (Unit ⊕ Unit) Bool Bool :=
 ⟨fun z=>z.1,fun z=>z.2,fun z x n=>(x,n),fun z=>juF a b,fun z=>jix,fun z=>top r,fun z=>0,[.c fun vv=>vv.1,.c fun _=>a,.c fun _=>b]⟩
def juG (a b:List Nat) (r:Bool):Sk (top r) (jn6 a b) :=
 .brB
 (.obT (.rc))
 (.loop (jiy a b r) (fun kk=>((0:Int),big)) fun z0 =>
 .br
 (.ob (.ob (.obT (.ob (.ob (.obT (.brB
 (.exit (.obT (.rc)))
 (.next))))))))
 (.exit (.obT (.rc))))
def jsV (a b:List Nat) (r:Bool) (h:zb (jn6 a b) some=some r):ja1 Tryz.f110 ((sp_152 sp0)) (fun gs id st=>match id with
 |0=>some ⟨Int × Nat,fun z=>⟨[(0,.w (.c (.o 0))),(1,.w (.c (.o 1))),(5,.w (.c (.d (.i .i64 z.1))))],[(0,.ext (.floats .f32 a)),(1,.ext (.floats .f32 b))],2⟩,fun z=>(jiy a b r).inv z,fun z=>z.2⟩
 |_=>none) [.r (.floats .f32 a),.r (.floats .f32 b)] [.d (.b r)] :=
 Sk.vc (juG a b r) (by kernel_rfl) h
def jsW:jaf Tryz.prog 110 true (jar jkh jfa):=by
 refine jaA (sp:=(sp_152 sp0)) (fn:=Tryz.f110) (body:=bodyOf Tryz.f110) mixed (sp_152_ok jaj) Tryz.func110 (by kernel_rfl) (by kernel_rfl) fun as_ ob rs h ho=>?_;unfold jfa at h;split at h
 ·rename_i a b;cases h;exact⟨zh rfl,_,_,jsV a b _ (jai ho)⟩
 ·cases h
def sp_110_ok {sp:jaa} (h:jab Tryz.prog sp):jab Tryz.prog (sp_110 sp):=jag jsW h
attribute [irreducible] jn6
def jgg:List SV:=[.b (.f .f32 []) 32,.b (.f .f32 []) 32]
def y83 (a b:List Nat):Option Bool :=
 if ze a=(32:Nat)∧0<=zM none (0:Int)∧zM none 0<=zM none (↑(32:Nat):Int)∧zM none (↑(32:Nat):Int)<=(↑(32:Nat):Int)then
  if ze b=(32:Nat)∧0<=zM none (0:Int)∧zM none 0<=zM none (↑(32:Nat):Int)∧zM none (↑(32:Nat):Int)<=(↑(32:Nat):Int)then
  zb (jn6 (yH (32:Nat) (yI (0:Nat) a)) (yH (32:Nat) (yI (0:Nat) b))) fun r0 =>
  some r0
  else none
 else none
def jgh:List Lf->Option GT
 |[.b 32 (.f .f32 a),.b 32 (.f .f32 b)]=>some (.leaf (ok (y83 a b)) [.c (.d (.b ((val (y83 a b)))))])
 |_=>none
abbrev sp_68:jaa->jaa:=jan 68 true (jah jgg jgh)
def jwE (a b:List Nat) (r:Bool):Sk (top r) (y83 a b) :=
 .ob (.ob (.call (.obT (.rc))))
def juH (a b:List Nat) (r:Bool) (h:zb (y83 a b) some=some r):jaG Tryz.f68 ((sp_110 sp0)) (fun _ _ _=>none) (jaC jgg [.b 32 (.f .f32 a),.b 32 (.f .f32 b)]) [.c (.d (.b r))] :=
 Sk.vc (jwE a b r) (by kernel_rfl) h
def juI:jaf Tryz.prog 68 true (jah jgg jgh):=by
 refine jal (sp:=(sp_110 sp0)) (fn:=Tryz.f68) (body:=bodyOf Tryz.f68) mixed (sp_110_ok jaj) Tryz.func68 (by kernel_rfl) (by kernel_rfl) fun ls t h ho b hb=>?_;unfold jgh at h;split at h
 ·rename_i a b;cases h;obtain rfl:=jap hb;exact⟨zh (by kernel_rfl),_,_,juH a b _ (jai ho)⟩
 ·cases h
def sp_68_ok {sp:jaa} (h:jab Tryz.prog sp):jab Tryz.prog (sp_68 sp):=jag juI h
attribute [irreducible] y83
def jfb:List SV:=[.c (.r (.frs .f32 32 [])),.c (.r (.frs .f32 32 []))]
def juJ (a b:List (List Nat)) (x0:Int):Option (Int ⊕ (Unit ⊕ Unit)) :=
 if x0<(↑a.length:Int)then
  if 0<=x0∧x0<(↑a.length:Int)then
  if zg x0<ze a then
   if 0<=x0∧x0<(↑b.length:Int)then
   if zg x0<ze b then
    zb (y83 (za a x0.toNat []) (za b x0.toNat [])) fun r0 =>
    if(!r0)=true then
    some (.inr ((.inl ())))
    else
    some (.inl (wrap .i64 (x0+1)))
   else none
   else none
  else none
  else none
 else
  some (.inr ((.inr ())))
def jo6 (u4:Unit):Option Bool :=
 some false
def jo7 (u9:Unit):Option Bool :=
 some true
def jiz:(Unit ⊕ Unit)->Option Bool :=
 (qC (jo6) (jo7))
def jn7 (a b:List (List Nat)):Option Bool :=
 if((↑a.length:Int)!=(↑b.length:Int))=true then
  some false
 else
  zb (jae (juJ a b) big (0:Int)) (jiz)
def jfc:List Lf->Option GT
 |[.r (.frs .f32 32 a),.r (.frs .f32 32 b)]=>some (.leaf (ok (jn7 a b)) [.c (.d (.b ((val (jn7 a b)))))])
 |_=>none
abbrev sp_61:jaa->jaa:=jan 61 true (jah jfb jfc)
abbrev jiA (a b:List (List Nat)) (r:Bool):Lp (Int × Nat) Int (Unit ⊕ Unit) Bool Bool :=
 ⟨fun z=>z.1,fun z=>z.2,fun z x n=>(x,n),fun z=>juJ a b,fun z=>jiz,fun z=>top r,fun z=>0,[.c fun vv=>vv.1,.c fun _=>a,.c fun _=>b]⟩
def juK (a b:List (List Nat)) (r:Bool):Sk (top r) (jn7 a b) :=
 .brB
 (.obT (.rc))
 (.loop (jiA a b r) (fun kk=>((0:Int),big)) fun z0 =>
 .br
 (.ob (.ob (.ob (.ob (.call (.brB
 (.exit (.obT (.rc)))
 (.next)))))))
 (.exit (.obT (.rc))))
def jsX (a b:List (List Nat)) (r:Bool) (h:zb (jn7 a b) some=some r):jaG Tryz.f61 ((sp_68 sp0)) (fun gs id st=>match id with
 |0=>some ⟨Int × Nat,fun z=>⟨[(0,.w (.c (.o 0))),(1,.w (.c (.o 1))),(5,.w (.c (.d (.i .i64 z.1))))],[(0,.ext (.frs .f32 32 a)),(1,.ext (.frs .f32 32 b))],2⟩,fun z=>(jiA a b r).inv z,fun z=>z.2⟩
 |_=>none) (jaC jfb [.r (.frs .f32 32 a),.r (.frs .f32 32 b)]) [.c (.d (.b r))] :=
 Sk.vc (juK a b r) (by kernel_rfl) h
def jsY:jaf Tryz.prog 61 true (jah jfb jfc):=by
 refine jal (sp:=(sp_68 sp0)) (fn:=Tryz.f61) (body:=bodyOf Tryz.f61) mixed (sp_68_ok jaj) Tryz.func61 (by kernel_rfl) (by kernel_rfl) fun ls t h ho b hb=>?_;unfold jfc at h;split at h
 ·rename_i a b;cases h;obtain rfl:=jap hb;exact⟨zh (by kernel_rfl),_,_,jsX a b _ (jai ho)⟩
 ·cases h
def sp_61_ok {sp:jaa} (h:jab Tryz.prog sp):jab Tryz.prog (sp_61 sp):=jag jsY h
attribute [irreducible] jn7
def jjr:List SV:=[.c (.x (.bb .f32 32 []))]
def jrf (in_:List (List (List Nat))) (x0:Int):Option (Int ⊕ (Unit ⊕ Unit)) :=
 if x0<(↑in_.length:Int)then
  if 0<=x0∧x0<(↑in_.length:Int)then
  if zg x0<ze in_ then
   if(↑(ze (za in_ x0.toNat [])):Int)>4 then
   if 0<=x0∧x0<(↑in_.length:Int)then
    if zg x0<ze in_ then
    if(↑(ze (za in_ x0.toNat [])):Int)<=16 then
     some (.inr ((.inl ())))
    else
     if 0<=x0∧x0<(↑in_.length:Int)then
     if zg x0<ze in_ then
      if(↑(ze (za in_ x0.toNat [])):Int)>18 then
      some (.inr ((.inl ())))
      else
      some (.inl (wrap .i64 (x0+1)))
     else none
     else none
    else none
   else none
   else
   some (.inl (wrap .i64 (x0+1)))
  else none
  else none
 else
  some (.inr ((.inr ())))
def juL (u4:Unit):Option Bool :=
 some false
def juM (u9:Unit):Option Bool :=
 some true
def jhO:(Unit ⊕ Unit)->Option Bool :=
 (qC (juL) (juM))
def jls (in_:List (List (List Nat))):Option Bool :=
 if(↑in_.length:Int)>10 then
  some false
 else
  zb (jae (jrf in_) big (0:Int)) (jhO)
def jjs:List Lf->Option GT
 |[.x (.bb .f32 32 in_)]=>some (.leaf (ok (jls in_)) [.c (.d (.b ((val (jls in_)))))])
 |_=>none
abbrev sp_62:jaa->jaa:=jan 62 true (jah jjr jjs)
abbrev jn8 (in_:List (List (List Nat))) (r:Bool):Lp (Int × Nat) Int (Unit ⊕ Unit) Bool Bool :=
 ⟨fun z=>z.1,fun z=>z.2,fun z x n=>(x,n),fun z=>jrf in_,fun z=>jhO,fun z=>top r,fun z=>0,[.c fun vv=>vv.1,.c fun _=>in_]⟩
def jy2 (in_:List (List (List Nat))) (r:Bool):Sk (top r) (zb (jae (jrf in_) big (0:Int)) (jhO)) :=
 .loop (jn8 in_ r) (fun kk=>((0:Int),big)) fun z0 =>
 .br
 (.ob (.ob (.br
 (.ob (.ob (.br
 (.exit (.obT (.rc)))
 (.ob (.ob (.br
 (.exit (.obT (.rc)))
 (.next)))))))
 (.next))))
 (.exit (.obT (.rc)))
def jAk (in_:List (List (List Nat))) (r:Bool):Sk (top r) (jls in_) :=
 .br
 (.obT (.rc))
 (jy2 in_ r)
def jy3 (in_:List (List (List Nat))) (r:Bool) (h:zb (jls in_) some=some r):jaG Tryz.f62 (sp0) (fun gs id st=>match id with
 |0=>some ⟨Int × Nat,fun z=>⟨[(0,.w (.c (.o 0))),(3,.w (.c (.d (.i .i64 z.1))))],[(0,.xext (XC.bb .f32 (32:Nat) in_))],1⟩,fun z=>(jn8 in_ r).inv z,fun z=>z.2⟩
 |_=>none) (jaC jjr [.x (.bb .f32 32 in_)]) [.c (.d (.b r))] :=
 Sk.vc (jAk in_ r) (by kernel_rfl) h
def jy4:jaf Tryz.prog 62 true (jah jjr jjs):=by
 refine jal (sp:=sp0) (fn:=Tryz.f62) (body:=bodyOf Tryz.f62) mixed jaj Tryz.func62 (by kernel_rfl) (by kernel_rfl) fun ls t h ho b hb=>?_;unfold jjs at h;split at h
 ·rename_i in_;cases h;obtain rfl:=jap hb;exact⟨zh (by kernel_rfl),_,_,jy3 in_ _ (jai ho)⟩
 ·cases h
def sp_62_ok {sp:jaa} (h:jab Tryz.prog sp):jab Tryz.prog (sp_62 sp):=jag jy4 h
attribute [irreducible] jls
def jfd:List SV:=[.c (.x (.bb .f32 32 []))]
def y89 (in_:List (List (List Nat))) (x0:(Int × List (List (List Nat)))):Option ((Int × List (List (List Nat))) ⊕ (List (List (List Nat)))) :=
 if x0.1<(↑in_.length:Int)then
  if 0<=x0.1∧x0.1<(↑in_.length:Int)then
  if zg x0.1<ze in_ then
   if(0+ze (za in_ x0.1.toNat []))*128<=140737488355328∧0+ze (za in_ x0.1.toNat [])<=9223372036854775807 then
   if(ze x0.2+ze (xj (fun r=>NC.toFrs (qg r (NC.d (D.v z3)))) [[NC.r (Cont.frs .f32 (ze zD) ([]++za in_ x0.1.toNat []))]]))*24<=140737488355328∧ze x0.2+ze (xj (fun r=>NC.toFrs (qg r (NC.d (D.v z3)))) [[NC.r (Cont.frs .f32 (ze zD) ([]++za in_ x0.1.toNat []))]])<=9223372036854775807 then
    some (.inl ((wrap .i64 (x0.1+1),x0.2++xj (fun r=>NC.toFrs (qg r (NC.d (D.v z3)))) [[NC.r (Cont.frs .f32 (ze zD) ([]++za in_ x0.1.toNat []))]])))
   else none
   else none
  else none
  else none
 else
  some (.inr x0.2)
def y291 (u4:List (List (List Nat))):Option (List (List (List Nat))) :=
 some u4
def y53 (in_:List (List (List Nat))):Option (List (List (List Nat))) :=
 zb (jae (y89 in_) big (((0:Int),[]))) (y291)
def jfe:List Lf->Option GT
 |[.x (.bb .f32 32 in_)]=>some (.leaf (ok (y53 in_)) [.c (.m 79 [(110:Nat)] (.bb .f32 32 ((val (y53 in_)))))])
 |_=>none
abbrev sp_64:jaa->jaa:=jan 64 true (jah jfd jfe)
abbrev jiB (in_:List (List (List Nat))) (r:List (List (List Nat))):Lp ((Int × List (List (List Nat))) × Nat) ((Int × List (List (List Nat)))) ((List (List (List Nat)))) ((List (List (List Nat)))) (List (List (List Nat))) :=
 ⟨fun z=>z.1,fun z=>z.2,fun z x n=>(x,n),fun z=>y89 in_,fun z=>y291,fun z=>top r,fun z=>0,[.c fun vv=>vv.1.1,.c fun _=>in_,.c fun vv=>vv.1.2]⟩
def jsZ (in_:List (List (List Nat))) (r:List (List (List Nat))):Sk (top r) (zb (jae (y89 in_) big (((0:Int),[]))) (y291)) :=
 .loopQ (jiB in_ r) [.c fun vv=>vv.1.1,.c fun _=>in_,.p fun vv=>ze vv.1.2=(0:Nat)] (fun kk=>(((0:Int),[]),big)) (fun z0 =>
 .br
 (.ob (.ob (.ob (.ob (.next)))))
 (.exit (.obT (.rc)))) (fun _=>⟨rfl,trivial⟩)
def juN (in_:List (List (List Nat))) (r:List (List (List Nat))):Sk (top r) (y53 in_) :=
 jsZ in_ r
def js0 (in_:List (List (List Nat))) (r:List (List (List Nat))) (h:zb (y53 in_) some=some r):jaG Tryz.f64 (sp0) (fun gs id st=>match id with
 |0=>some ⟨(Int × List (List (List Nat))) × Nat,fun z=>⟨[(0,.w (.c (.o 0))),(3,.w (.c (.o 1))),(4,.w (.c (.d (.i .i64 z.1.1))))],[(0,.xext (XC.bb .f32 (32:Nat) in_)),(1,.mrow 79 [(110:Nat)] (XC.bb .f32 (32:Nat) z.1.2) none)],2⟩,fun z=>(jiB in_ r).inv z,fun z=>z.2⟩
 |_=>none) (jaC jfd [.x (.bb .f32 32 in_)]) [.c (.m 79 [(110:Nat)] (.bb .f32 32 r))] :=
 Sk.vc (juN in_ r) (by kernel_rfl) h
def js1:jaf Tryz.prog 64 true (jah jfd jfe):=by
 refine jal (sp:=sp0) (fn:=Tryz.f64) (body:=bodyOf Tryz.f64) mixed jaj Tryz.func64 (by kernel_rfl) (by kernel_rfl) fun ls t h ho b hb=>?_;unfold jfe at h;split at h
 ·rename_i in_;cases h;obtain rfl:=jap hb;exact⟨zh (by kernel_rfl),_,_,js0 in_ _ (jai ho)⟩
 ·cases h
def sp_64_ok {sp:jaa} (h:jab Tryz.prog sp):jab Tryz.prog (sp_64 sp):=jag js1 h
attribute [irreducible] y53
end Go.Sh
end

section
namespace Go.Sh
open Go Go.Proofs Go.RowKit Go.Sx
open Go.IntKind (wrap)
def y247:List SV:=[.c (.p [.d,.x (.st zS []),.r (.ints .i64 [])]),.c (.x (.bb .f32 32 [])),.c (.r (.recs 2 []))]
def y82 (in_:List (List (List Nat))) (x0:Int):Option (Int ⊕ (Unit ⊕ Unit)) :=
 if x0<(↑in_.length:Int)then
  if 0<=x0∧x0<(↑in_.length:Int)then
  if zg x0<ze in_ then
   if(0:Int)<=0∧0<(↑in_.length:Int)then
   if 0<ze in_ then
    if((↑(ze (za in_ x0.toNat [])):Int)!=(↑(ze (za in_ 0 [])):Int))=true then
    some (.inr ((.inl ())))
    else
    some (.inl (wrap .i64 (x0+1)))
   else none
   else none
  else none
  else none
 else
  some (.inr ((.inr ())))
def jlt (u7:ByteArray) (u5:List (List NC)) (u6:List Int) (in_:List (List (List Nat))) (l:List (List Int)) (u4:Unit):Option Int :=
 some (10:Int)
def y26 (in_:List (List (List Nat))) (x1:Int):Option (Int ⊕ (Int ⊕ Unit)) :=
 if x1<(↑in_.length:Int)then
  if 0<=x1∧x1<(↑in_.length:Int)then
  if zg x1<ze in_ then
   zb (jnx (za in_ x1.toNat [])) fun r1 =>
   if(r1 != 0)=true then
   some (.inr (.inl r1))
   else
   some (.inl (wrap .i64 (x1+1)))
  else none
  else none
 else
  some (.inr ((.inr ())))
def jlu (u7:ByteArray) (u5:List (List NC)) (u6:List Int) (l:List (List Int)) (u26:Int):Option Int :=
 some u26
def y181 (u7:ByteArray) (u5:List (List NC)) (u6:List Int) (l:List (List Int)) (u33:Unit):Option Int :=
 zb (y40 u7 u5 u6 l) fun r2 =>
 some r2.2
def jy5 (u7:ByteArray) (u5:List (List NC)) (u6:List Int) (l:List (List Int)):(Int ⊕ Unit)->Option Int :=
 (qC (jlu u7 u5 u6 l) (y181 u7 u5 u6 l))
def y182 (u7:ByteArray) (u5:List (List NC)) (u6:List Int) (in_:List (List (List Nat))) (l:List (List Int)) (u9:Unit):Option Int :=
 if(↑in_.length:Int)>0 then
  if(0:Int)<=0∧0<(↑in_.length:Int)then
  if 0<ze in_ then
   if(↑(ze (za in_ 0 [])):Int)>16 then
   some (8:Int)
   else
   zb (jae (y26 in_) big (0:Int)) (jy5 u7 u5 u6 l)
  else none
  else none
 else
  zb (jae (y26 in_) big (0:Int)) (jy5 u7 u5 u6 l)
def y224 (u7:ByteArray) (u5:List (List NC)) (u6:List Int) (in_:List (List (List Nat))) (l:List (List Int)):(Unit ⊕ Unit)->Option Int :=
 (qC (jlt u7 u5 u6 in_ l) (y182 u7 u5 u6 in_ l))
def y33 (u7:ByteArray) (u5:List (List NC)) (u6:List Int) (in_:List (List (List Nat))) (l:List (List Int)):Option Int :=
 zb (y4 u5 (0:Int)) fun r0 =>
 if((↑in_.length:Int)!=(↑r0.length:Int))=true then
  some (10:Int)
 else
  zb (jae (y82 in_) big (0:Int)) (y224 u7 u5 u6 in_ l)
def y248:List Lf->Option GT
 |[.d (.s u7),.x (.st [.s,.i .i64,.ints .i64,.ints .i64,.ints .i64,.i .i64,.recs 5,.i .i64] u5),.r (.ints .i64 u6),.x (.bb .f32 32 in_),.r (.recs 2 l)]=>some (.leaf (ok (y33 u7 u5 u6 in_ l)) [.c (.d (.i .i64 ((val (y33 u7 u5 u6 in_ l)))))])
 |_=>none
abbrev sp_116:jaa->jaa:=jan 116 true (jah y247 y248)
abbrev y325 (u7:ByteArray) (u5:List (List NC)) (u6:List Int) (in_:List (List (List Nat))) (l:List (List Int)) (r:Int):Lp (Int × Nat) Int (Unit ⊕ Unit) Int Int :=
 ⟨fun z=>z.1,fun z=>z.2,fun z x n=>(x,n),fun z=>y82 in_,fun z=>y224 u7 u5 u6 in_ l,fun z=>top r,fun z=>0,[.c fun _=>0,.c fun _=>(↑in_.length:Int),.c fun vv=>vv.1,.c fun _=>u7,.c fun _=>in_,.c fun _=>l,.c fun _=>u5,.c fun _=>u6]⟩
abbrev y326 (u7:ByteArray) (u5:List (List NC)) (u6:List Int) (in_:List (List (List Nat))) (l:List (List Int)) (r:Int):Lp (Unit × Int × Nat) Int (Int ⊕ Unit) Int Int :=
 ⟨fun z=>z.2.1,fun z=>z.2.2,fun z x n=>((),x,n),fun z=>y26 in_,fun z=>jy5 u7 u5 u6 l,fun z=>top r,fun z=>0,[.c fun _=>0,.c fun _=>(↑in_.length:Int),.c fun vv=>vv.2.1,.c fun _=>u7,.c fun _=>l,.c fun _=>in_,.c fun _=>u5,.c fun _=>u6]⟩
def y327 (u7:ByteArray) (u5:List (List NC)) (u6:List Int) (in_:List (List (List Nat))) (l:List (List Int)) (r:Int):Sk (top r) (zb (jae (y26 in_) big (0:Int)) (jy5 u7 u5 u6 l)) :=
 .loop (y326 u7 u5 u6 in_ l r) (fun kk=>((),0,big)) fun z0 =>
 .br
 (.ob (.ob (.call (.brB
 (.exit (.obT (.rc)))
 (.next)))))
 (.exit (.call (.obT (.rc))))
def jn9 (u7:ByteArray) (u5:List (List NC)) (u6:List Int) (in_:List (List (List Nat))) (l:List (List Int)) (r:Int):Sk (top r) (zb (jae (y82 in_) big (0:Int)) (y224 u7 u5 u6 in_ l)) :=
 .loop (y325 u7 u5 u6 in_ l r) (fun kk=>((0:Int),big)) fun z0 =>
 .br
 (.ob (.ob (.ob (.ob (.brB
 (.exit (.obT (.rc)))
 (.next))))))
 (.exit (.br
 (.ob (.ob (.br
 (.obT (.rc))
 (y327 u7 u5 u6 in_ l r))))
 (y327 u7 u5 u6 in_ l r)))
def jo8 (u7:ByteArray) (u5:List (List NC)) (u6:List Int) (in_:List (List (List Nat))) (l:List (List Int)) (r:Int):Sk (top r) (y33 u7 u5 u6 in_ l) :=
 .call (.brB
 (.obT (.rc))
 (jn9 u7 u5 u6 in_ l r))
def joa (u7:ByteArray) (u5:List (List NC)) (u6:List Int) (in_:List (List (List Nat))) (l:List (List Int)) (r:Int) (h:zb (y33 u7 u5 u6 in_ l) some=some r):jaG Tryz.f116 ((sp_99 (sp_100 (sp_92 sp0)))) (fun gs id st=>match id with
 |0=>some ⟨Int × Nat,fun z=>⟨[(0,.w (.c (.p 2 0 1 0))),(1,.w (.c (.o 3))),(2,.w (.c (.o 4))),(20,.w (.c (.o 3))),(21,.w (.c (.d (.i .i64 ((↑in_.length:Int)))))),(22,.w (.c (.d (.i .i64 z.1))))],[(2,.ebox [.d (.s u7),.o 0,.o 1]),(3,.xext (XC.bb .f32 (32:Nat) in_)),(4,.ext (.recs 2 l)),(0,.xext (XC.st zS u5)),(1,.ext (.ints .i64 u6))],5⟩,fun z=>(y325 u7 u5 u6 in_ l r).inv z,fun z=>z.2⟩
 |2=>some ⟨Unit × Int × Nat,fun z=>⟨[(0,.w (.c (.p 2 0 1 0))),(2,.w (.c (.o 4))),(44,.w (.c (.o 3))),(45,.w (.c (.d (.i .i64 ((↑in_.length:Int)))))),(46,.w (.c (.d (.i .i64 z.2.1))))],[(2,.ebox [.d (.s u7),.o 0,.o 1]),(4,.ext (.recs 2 l)),(3,.xext (XC.bb .f32 (32:Nat) in_)),(0,.xext (XC.st zS u5)),(1,.ext (.ints .i64 u6))],5⟩,fun z=>(y326 u7 u5 u6 in_ l r).inv z,fun z=>z.2.2⟩
 |_=>none) (jaC y247 [.d (.s u7),.x (.st zS u5),.r (.ints .i64 u6),.x (.bb .f32 32 in_),.r (.recs 2 l)]) [.c (.d (.i .i64 r))] :=
 Sk.vc (jo8 u7 u5 u6 in_ l r) (by kernel_rfl) h
def job:jaf Tryz.prog 116 true (jah y247 y248):=by
 refine jal (sp:=(sp_99 (sp_100 (sp_92 sp0)))) (fn:=Tryz.f116) (body:=bodyOf Tryz.f116) mixed (sp_99_ok (sp_100_ok (sp_92_ok jaj))) Tryz.func116 (by kernel_rfl) (by kernel_rfl) fun ls t h ho b hb=>?_;unfold y248 at h;split at h
 ·rename_i u7 u5 u6 in_ l;cases h;obtain rfl:=jap hb;exact⟨zh (by kernel_rfl),_,_,joa u7 u5 u6 in_ l _ (jai ho)⟩
 ·cases h
def sp_116_ok {sp:jaa} (h:jab Tryz.prog sp):jab Tryz.prog (sp_116 sp):=jag job h
attribute [irreducible] y33
end Go.Sh
end

section
namespace Go.Sh
open Go Go.Proofs Go.RowKit Go.Sx Ieee Go.Fl
def dbl {b:Nat} {s:Bool} {m:Nat} {e:Int} (h:single.read b=.number s m e) (hm:m<16777216) (he1:-149<=e) (he2:e<=104) :
  ∃m' e',double.read (jec b)=.number s m' e'∧mg KK m' e'=mg KK m e∧-1074<=e'∧m'<9007199254740992:=by
 have e0:jec b=double.write (.number s m e):=by
  unfold jec jg qG;simp only[show FloatKind.format .f32=single from rfl,show FloatKind.format .f64=double from rfl,h]
 rw[e0]
 by_cases h0:m=0
 ·subst h0;exact⟨0,-1074,jxs s e,by simp[mg],by omega,by omega⟩
 ·obtain⟨h1,h2⟩:=jto (s:=s) h0 (by omega) (show -1000<=e by omega) (show e<=900 by omega);have hw:=jAK (s:=s) h0 (by omega) (show -1000<=e by omega) (show e<=900 by omega);refine⟨_,_,h1,?_,by omega,hw.2.2.2⟩;unfold mg;rw[x7,<-yA]
  congr 2
  unfold KK;omega
def jG0 {s:Bool} {n:Nat} (h2:n%2=0) (hn:2<=n):Toward.cut .even s n 1=n/2:=by
 have hg:(1 <<< min 1 (n.log2+2))=2:=by rw[ya (by omega)];rfl
 simp[Toward.cut,hg,h2]
def jJv {n:Int} (hn:n.natAbs<18014398509481984) (he:9007199254740992<=n.natAbs->n.natAbs%2=0) :
  ∃m e,double.read (qv .f64 n)=.number (decide (n<0)) m e∧mg KK m e=n.natAbs*PP∧-1074<=e:=by
 have e0:qv .f64 n=double.write (.number (decide (n<0)) n.natAbs 0):=rfl;rw[e0]
 generalize decide (n<0)=s
 generalize n.natAbs=a at *
 by_cases h0:a=0
 ·subst h0;exact⟨0,-1074,jxs s 0,by simp[mg],by omega⟩
 ·by_cases hs:a<9007199254740992
  ·obtain⟨h1,h2⟩:=jto (s:=s) h0 hs (show(-1000:Int)<=0 by omega) (show(0:Int)<=900 by omega);refine⟨_,_,h1,?_,by omega⟩;rw[jsH];unfold mg;rw[x7,<-yA]
   congr 2
   unfold KK;omega
  ·have hev:=he (by omega)
   have hl:a.log2=53:=by
    have h1:=(gY h0 (k:=54)).2 (by omega);have h2:¬a.log2<53:=fun h=>by have:=(gY h0 (k:=53)).1 h;omega
    omega
   have e2:double.binade=4503599627370496:=rfl;have e3:double.infRung=9218868437227405312:=rfl;have e4:double.leastPlace=-1074:=rfl;have e5:double.fractionBits=52:=rfl
   have hw:double.write (.number s a 0)=double.word s (1075*4503599627370496+a/2):=by
    simp only[Format.write,Format.nearest,if_neg h0,e2,e3,e4,e5,hl];have hlast:max ((0:Int)+((53:Nat):Int)-((52:Nat):Int)) (-1074)=1:=by omega
    rw[hlast];have ha:((0:Int)-1).toNat=0:=by omega
    have hb:((1:Int)-0).toNat=1:=by omega
    rw[ha,hb,Nat.shiftLeft_zero,jG0 hev (by omega)];have hc:((1:Int) - -1074).toNat=1075:=by omega
    rw[hc,ya (by omega)]
   rw[hw,jps (by omega) (by omega)];refine⟨_,_,rfl,?_,by omega⟩;have hb:(1075*4503599627370496+a/2)/4503599627370496-1=1075:=by omega
   have ha:4503599627370496+(1075*4503599627370496+a/2)%4503599627370496=a/2:=by omega
   rw[ha,hb];have hc:(-1074:Int)+((1075:Nat):Int)=((1:Nat):Int):=by omega
   rw[hc,jsG]
   congr 1
   omega
def jCT {f:Nat} {s:Bool} {m:Nat} {e:Int} (h:double.read f=.number s m e) (he:-1074<=e) (hm:m<9007199254740992) :
  jjp f=some (decide (10000000000000000*PP<mg KK m e∨mg KK m e/PP*PP=mg KK m e)):=by
 have hz:Format.order double 0 0=some .eq:=by decide
 have h1:double.order f f=some .eq:=by
  unfold Format.order;rw[h,jcy KK (by unfold KK;omega) (by unfold KK;omega),Int.compare_eq_eq.2 rfl]
 have hA:double.order f 14069741636278059008=some (compare (sg s (mg KK m e)) (-((10000000000000000*PP:Nat):Int))):=by
  unfold Format.order;have hc:double.read 14069741636278059008=.number true 5000000000000000 1:=by decide
  rw[h,hc,jcy KK (by unfold KK;omega) (by unfold KK;omega)];rw[jHN]
  first|rw[jhA]|rw[jli]
 have hB:double.order f 4846369599423283200=some (compare (sg s (mg KK m e)) ((10000000000000000*PP:Nat):Int)):=by
  unfold Format.order;have hc:double.read 4846369599423283200=.number false 5000000000000000 1:=by decide
  rw[h,hc,jcy KK (by unfold KK;omega) (by unfold KK;omega)];rw[jHN]
  first|rw[jhA]|rw[jli]
 have hT:Datum.toInt .zero (qG .f64 f)=some (sg s (mg KK m e/PP)):=by
  unfold qG;simp only[show FloatKind.format .f64=double from rfl];rw[h,jyK (by unfold KK;omega)]
 have hq:f2i .f64 f=sg s (mg KK m e/PP):=by unfold f2i;rw[hT];rfl
 have hev:9007199254740992<=mg KK m e/PP->mg KK m e/PP%2=0:=by
  intro hge
  by_cases hp:0<=e
  ·obtain⟨d,rfl⟩:∃d:Nat,e=d:=⟨e.toNat,by omega⟩
   rw[jsG,Nat.mul_div_cancel _ jfJ]at hge ⊢;cases d with
   |zero=>simp at hge;omega
   |succ d=>rw[Nat.pow_succ,<-x7];exact Nat.mul_mod_left _ _
  ·have hlt:mg KK m e/PP<9007199254740992:=by
    rw[Nat.div_lt_iff_lt_mul jfJ];rw[jsH];unfold mg;have h2:2^(e+KK).toNat<=2^KK:=Nat.pow_le_pow_right (by omega) (by omega)
    calc m*2^(e+KK).toNat<=m*2^KK:=Nat.mul_le_mul_left _ h2
     _<9007199254740992*2^KK:=yy hm (yd _)
   omega
 unfold jjp;simp only[show FloatKind.format .f64=double from rfl];rw[h1,sub_self double h,hA,hB];simp only[Option.isSome_some,zY,hz,if_true,bne_self_eq_false,zV,if_false,jyJ,jsF,jyI]
 generalize hg:mg KK m e=A at *
 have hP:=jfJ;have hdm:=x9 A PP;rw[xr]at hdm;have hml:=xY A hP
 by_cases hbig:10000000000000000*PP<A
 ·rw[decide_eq_true (show _∨_ from .inl hbig)];cases s
  ·rw[if_pos,if_pos]
   ·simp only[sg,zV,if_false,xt,yo,decide_eq_false_iff_not];omega
   ·simp only[sg,zV,if_false,qK,decide_eq_true_eq];omega
  ·rw[if_neg];simp only[sg,if_true,qK,decide_eq_true_eq];omega
 ·have hd:A/PP<=10000000000000000:=by
   have:A/PP<10000000000000001:=by rw[Nat.div_lt_iff_lt_mul hP];omega
   omega
  generalize A/PP=Q at *
  generalize A%PP=R at *
  generalize hQP:Q*PP=QP at *
  rw[if_pos,if_neg]
  ·have hok:jbU .f64 .i64 f=true:=by
    unfold jbU;rw[hT];have e1:xu.min=-9223372036854775808:=rfl;have e2:xu.max=9223372036854775807:=rfl;simp only[e1,e2,decide_eq_true_eq];cases s<;>simp only[sg,zV,if_false,if_true]<;>omega
   rw[if_pos hok];have habs:(sg s Q).natAbs=Q:=by cases s<;>simp only[sg,zV,if_false,if_true]<;>omega
   obtain⟨m',e',h3,h4,h5⟩:=jJv (n:=sg s Q) (by rw[habs];omega) (by rw[habs];exact hev)
   have hC:double.order (qv .f64 (f2i .f64 f)) f=some (compare (sg s Q*(PP:Int)) (sg s A)):=by
    unfold Format.order;rw[hq,h3,h,jcy KK (by unfold KK;omega) (by unfold KK;omega),h4,hg,jj7,jnN]
   rw[hC,jsF,<-jj7,hQP]
   congr 1
   rw[decide_eq_decide];cases s<;>simp only[sg,zV,if_false,if_true]<;>omega
  ·simp only[xt,yo,decide_eq_false_iff_not];cases s<;>simp only[sg,zV,if_false,if_true]<;>omega
  ·simp only[qK,decide_eq_true_eq];cases s<;>simp only[sg,zV,if_false,if_true]<;>omega
def jJw {f:Nat} {s:Bool} {m:Nat} {e:Int} (h:double.read f=.number s m e) (he1:-1074<=e):double.order f 13898108175187443712=some (compare (sg s (mg KK m e)) (-((32767*PP:Nat):Int))):=by
 unfold Format.order;have hc:double.read 13898108175187443712=.number true 9006924376834048 (-38):=by decide
 rw[h,hc,jcy KK (by unfold KK;omega) (by unfold KK;omega)]
 have:mg KK 9006924376834048 (-38)=32767*PP:=by
  rw[jsH];unfold mg;rw[show KK=(-38+(KK:Int)).toNat+38 by unfold KK;omega,yA];rw[show((-38:Int)+(((-38+(KK:Int)).toNat+38:Nat):Int)).toNat=(-38+(KK:Int)).toNat by unfold KK;omega]
  generalize 2^(-38+(KK:Int)).toNat=q
  omega
 rw[this,jli]
def jJx {f:Nat} {s:Bool} {m:Nat} {e:Int} (h:double.read f=.number s m e) (he1:-1074<=e):double.order f 4674736138332667904=some (compare (sg s (mg KK m e)) (((32767*PP:Nat):Int))):=by
 unfold Format.order;have hc:double.read 4674736138332667904=.number false 9006924376834048 (-38):=by decide
 rw[h,hc,jcy KK (by unfold KK;omega) (by unfold KK;omega)]
 have:mg KK 9006924376834048 (-38)=32767*PP:=by
  rw[jsH];unfold mg;rw[show KK=(-38+(KK:Int)).toNat+38 by unfold KK;omega,yA];rw[show((-38:Int)+(((-38+(KK:Int)).toNat+38:Nat):Int)).toNat=(-38+(KK:Int)).toNat by unfold KK;omega]
  generalize 2^(-38+(KK:Int)).toNat=q
  omega
 rw[this,jhA]
def jlI (b:Nat):y95 b=some (se b):=by
 unfold y95;simp only[show FloatKind.format .f64=double from rfl];have hdec:qG .f32 b=single.read b:=rfl;unfold joq se;rw[hdec];rcases read32 b with ⟨s,m,e,h,hm,he1,he2⟩|⟨s,h⟩|⟨s,t,h⟩
 ·obtain⟨m',e',h1,h2,h3,h4⟩:=dbl h hm he1 he2
  have hw:16777216*PP<=mg KK m e->mg KK m e/PP*PP=mg KK m e:=by
   intro hge
   by_cases hp:0<=e
   ·obtain⟨d,rfl⟩:∃d:Nat,e=d:=⟨e.toNat,by omega⟩
    rw[jsG,Nat.mul_div_cancel _ jfJ]
   ·exfalso
    have:mg KK m e<16777216*PP:=by
     rw[jsH];unfold mg;have h2:2^(e+KK).toNat<=2^KK:=Nat.pow_le_pow_right (by omega) (by omega)
     calc m*2^(e+KK).toNat<=m*2^KK:=Nat.mul_le_mul_left _ h2
      _<16777216*2^KK:=yy hm (yd _)
    omega
  have hW:=jCT h1 h3 h4;have hlo:=jJw h1 h3;have hhi:=jJx h1 h3;have hse:seD (.number s m e)=if 16777216*PP<=mg KK m e then 2 else if mg KK m e/PP*PP≠mg KK m e then 27 else if mg KK m e/PP<=32767 then 0 else 2:=rfl
  rw[h2]at hW hlo hhi;have hnn:(Datum.number s m e).isNaN=false:=rfl;rw[h,hse,hnn,hW,jac,hlo,hhi,jyI,jyJ];clear h h1 h2 h3 h4 hW hlo hhi hse hnn;rw[if_neg Bool.false_ne_true];obtain⟨A,hA⟩:∃A,A=mg KK m e:=⟨_,rfl⟩
  rw[<-hA]at hw ⊢;clear hA;have hP:=jfJ;have hdm:=x9 A PP;rw[xr]at hdm;have hml:=xY A hP
  have hq1:A/PP<=32767<->A<32768*PP:=by
   rw[<-Nat.div_lt_iff_lt_mul hP];omega
  have hq2:A/PP*PP=A->(A/PP<=32767<->A<=32767*PP):=by
   intro hh;constructor
   ·intro h;rw[<-hh];exact qe _ h
   ·intro h;rw[<-hh]at h;exact Nat.le_of_mul_le_mul_right h hP
  generalize A/PP=Q at *
  generalize A%PP=R at *
  generalize hQP:Q*PP=QP at *
  by_cases hbig:16777216*PP<=A
  ·have hww:=hw hbig;rw[if_pos hbig,decide_eq_true (show _∨_ from .inr hww)];simp only[gx,zV,if_false,decide_eq_true_eq]
   skip
   cases s
   ·rw[if_neg (by rw[jhA];omega),if_pos (by rw[jhA];omega)]
   ·rw[if_pos (by rw[jli];omega)]
  ·rw[if_neg hbig]
   by_cases hwh:QP=A
   ·rw[decide_eq_true (show _∨_ from .inr hwh),if_neg (show ¬QP≠A by omega)];simp only[gx,zV,if_false,decide_eq_true_eq];have hq:=hq2 hwh
    by_cases hs:Q<=32767
    ·have:=hq.1 hs;rw[if_pos hs];cases s
     ·rw[if_neg (by rw[jhA];omega),if_neg (by rw[jhA];omega)]
     ·rw[if_neg (by rw[jli];omega),if_neg (by rw[jli];omega)]
    ·have:¬A<=32767*PP:=fun h=>hs (hq.2 h);rw[if_neg hs];cases s
     ·rw[if_neg (by rw[jhA];omega),if_pos (by rw[jhA];omega)]
     ·rw[if_pos (by rw[jli];omega)]
   ·rw[decide_eq_false (show ¬(_∨_) by omega),if_pos (show QP≠A from hwh)];rfl
 ·have h1:jec b=double.word s 9218868437227405312:=by
   unfold jec jg qG;simp only[show FloatKind.format .f32=single from rfl,show FloatKind.format .f64=double from rfl,h];rfl
  have h2:double.read (jec b)=.infinity s:=by rw[h1];cases s<;>decide
  have h3:jjp (jec b)=some false:=by
   have ho:double.order (jec b) (jec b)=some .eq:=by unfold Format.order;rw[h2];cases s<;>rfl
   unfold jjp;simp only[show FloatKind.format .f64=double from rfl];rw[ho,jA7 double h2];rfl
  rw[h3,h];rfl
 ·rw[h];rfl
def juO {l:List Nat} (hl:l.length<1000000000000):y81 l=some (jbh l):=by
 unfold y81 jbh
 rw[jaQ l 0 (fun b=>se b != 0) (body:=y93 l) (fun i=>.inl (se (l.getD i 0))) (.inr ()) (by omega)
  (fun i hi hp=>by
   unfold y93;rw[if_pos (by omega),if_pos (by omega),if_pos (by omega),zi,jlI,jac,if_pos hp])
  (fun i hi hp=>by
   unfold y93;rw[if_pos (by omega),if_pos (by omega),if_pos (by omega),zi,jlI,jac,if_neg (by rw[hp];simp),jao (by omega)])
  (by unfold y93;rw[if_neg (by omega)])]
 cases l.findIdx? (fun b=>se b != 0)<;>rfl
def blE (l:List (List Nat)):Int:=match l.findIdx? (fun b=>jbh b != 0)with
 |some i=>jbh (l.getD i [])
 |none=>0
def jG1 {l:List (List Nat)} (h:blE l=0):∀b∈l,jbh b=0:=by
 intro b hb;unfold blE at h;cases hf:l.findIdx? (fun b=>jbh b != 0)with
 |none =>
  rw[qt]at hf;simpa using hf b hb
 |some i =>
  rw[hf]at h;rw[qm]at hf;obtain⟨hk,hp,_⟩:=hf;have h:jbh (l.getD i [])=0:=h;rw[jaw hk]at h;simp[h]at hp
def jJy {l:List (List Nat)} (h:∀b∈l,jbh b=0):blE l=0:=by
 unfold blE
 have:l.findIdx? (fun b=>jbh b != 0)=none:=by
  rw[qt];intro b hb;simp[h b hb]
 rw[this]
def jwF {l:List (List Nat)} (hl:l.length<1000000000000) (hb:∀b∈l,b.length=32):jnx l=some (blE l):=by
 unfold jnx blE
 have key:∀i,i<l.length->jt5 l (i:Int)=if(jbh (l.getD i [])!=0)=true then some (.inr (.inl (jbh (l.getD i []))))else some (.inl ((i:Int)+1)):=fun i hi=>by
  have h32:=hb (l.getD i []) (by rw[jaw hi];exact zZ hi);unfold jt5;rw[if_pos (by omega),if_pos (by omega),if_pos (by omega),zi,if_pos ⟨h32,by decide⟩,xU,xq (by omega),juo (by omega),jac,jao (by omega)]
 rw[jaQ l [] (fun b=>jbh b != 0) (body:=jt5 l) (fun i=>.inl (jbh (l.getD i []))) (.inr ()) (by omega)
  (fun i hi hp=>by rw[key i hi,if_pos hp]) (fun i hi hp=>by rw[key i hi,if_neg (by rw[hp];simp)]) (by unfold jt5;rw[if_neg (by omega)])]
 cases l.findIdx? (fun b=>jbh b != 0)<;>rfl
def jwG {l:List (List Nat)} (hl:l.length<1000000000000) (hb:∀b∈l,b.length=32):y96 l=some (blE l):=by
 unfold y96 blE
 have key:∀i,i<l.length->juy l (i:Int)=if(jbh (l.getD i [])!=0)=true then some (.inr (.inl (jbh (l.getD i []))))else some (.inl ((i:Int)+1)):=fun i hi=>by
  have h32:=hb (l.getD i []) (by rw[jaw hi];exact zZ hi);unfold juy;rw[if_pos (by omega),if_pos (by omega),zi,if_pos ⟨hi,h32,by decide⟩,xU,xq (by omega),juO (by omega),jac,jao (by omega)]
 rw[jaQ l [] (fun b=>jbh b != 0) (body:=juy l) (fun i=>.inl (jbh (l.getD i []))) (.inr ()) (by omega)
  (fun i hi hp=>by rw[key i hi,if_pos hp]) (fun i hi hp=>by rw[key i hi,if_neg (by rw[hp];simp)]) (by unfold juy;rw[if_neg (by omega)])]
 cases l.findIdx? (fun b=>jbh b != 0)<;>rfl
def T32 (t:List (List (List Nat))):Prop:=∀r∈t,∀b∈r,b.length=32
def lnB (t:List (List (List Nat))) (r:List (List Nat)):Bool:=r.length != (t.getD 0 []).length
def bsE (t:List (List (List Nat))):Int:=match t.findIdx? (fun r=>blE r != 0)with
 |some i=>blE (t.getD i [])
 |none=>0
def teG (n0:Nat) (t:List (List (List Nat))):Int :=
 if t.length≠n0 then 10 else if t.any (lnB t)=true then 10 else if 16<(t.getD 0 []).length then 8 else bsE t
def jEC {g:List (List NC)} (hn:g.length<1000) (kind:Int):jn4 g kind=some (jaD g kind):=(by kernel_rfl:jn4 g kind=y4 g kind).trans (jkb hn kind)
def jy6 {t:List (List (List Nat))} {body:Int->Option (Int ⊕ (Unit ⊕ Unit))} (hl:t.length<1000000000000)
  (h1:∀i,i<t.length->body (i:Int)=if(((t.getD i []).length:Int)!=((t.getD 0 []).length:Int))=true then some (.inr (.inl ()))else some (.inl ((i:Int)+1)))
  (h2:body (t.length:Int)=some (.inr (.inr ()))):jae body big 0=some (if t.any (lnB t)=true then .inl ()else .inr ()):=by
 have e:∀r:List (List Nat),((r.length:Int)!=((t.getD 0 []).length:Int))=lnB t r:=fun r=>by
  unfold lnB;rw[yJ,bne_iff_ne,bne_iff_ne];omega
 exact jb2 t [] (lnB t) (body:=body) (.inl ()) (.inr ()) (by omega) (fun i hi hp=>by rw[h1 i hi,e,if_pos hp]) (fun i hi hp=>by rw[h1 i hi,e,if_neg (by rw[hp];simp)]) h2
def jG2 {g:List (List NC)} (hn:g.length<1000) (nm:ByteArray) (od:List Int) {t:List (List (List Nat))} (hl:t.length<1000000000) (h32:T32 t) (f:List (List Int)) :
  y33 nm g od t f=some (if teG (jaD g 0).length t≠0 then teG (jaD g 0).length t else(cf g.length f).2):=by
 unfold y33 teG;rw[jkb hn,jac]
 by_cases c1:t.length=(jaD g 0).length
 ·rw[if_neg (by rw[c1];simp),if_neg (show ¬t.length≠(jaD g 0).length by omega),
   jy6 (t:=t) (body:=y82 t) (by omega) (fun i hi=>by
    unfold y82;rw[if_pos (by omega),if_pos (by omega),if_pos (by omega),if_pos (by omega),if_pos (by omega),zi,jao (by omega)]) (by unfold y82;rw[if_neg (by omega)]),jac]
  by_cases c2:t.any (lnB t)=true
  ·rw[if_pos c2,if_pos c2,if_pos (by decide)];rfl
  ·rw[if_neg c2,if_neg c2]
   have hrow:∀i,i<t.length->(t.getD i []).length=(t.getD 0 []).length:=fun i hi=>by
    have:¬lnB t (t.getD i [])=true:=fun h=>c2 (qM.2 ⟨_,by rw[jaw hi];exact zZ hi,h⟩);unfold lnB at this;simpa using this
   have key:∀i,i<t.length->(t.getD 0 []).length<=16->y26 t (i:Int)=if(blE (t.getD i [])!=0)=true then some (.inr (.inl (blE (t.getD i []))))else some (.inl ((i:Int)+1)):=fun i hi h16=>by
    have hr:=hrow i hi;unfold y26;rw[if_pos (by omega),if_pos (by omega),zi,if_pos hi,jwF (by omega) (h32 _ (by rw[jaw hi];exact zZ hi)),jac,jao (by omega)]
   have main:(t.getD 0 []).length<=16->zb (jae (y26 t) big (0:Int)) (jy5 nm g od f)=some (if bsE t≠0 then bsE t else(cf g.length f).2):=fun h16=>by
    rw[jaQ t [] (fun r=>blE r != 0) (body:=y26 t) (fun i=>.inl (blE (t.getD i []))) (.inr ()) (by omega)
     (fun i hi hp=>by rw[key i hi h16,if_pos hp]) (fun i hi hp=>by rw[key i hi h16,if_neg (by rw[hp];simp)]) (by unfold y26;rw[if_neg (by omega)]),jac]
    unfold bsE;cases hf:t.findIdx? (fun r=>blE r != 0)with
    |none =>
     rw[if_neg (by simp)]
     show y181 nm g od f ()=_
     unfold y181;rw[jJn nm od f hn];rfl
    |some i =>
     rw[qm]at hf;obtain⟨hk,hp,_⟩:=hf;have:blE (t.getD i [])≠0:=by rw[jaw hk];simpa using hp
     rw[if_pos this];rfl
   show y182 nm g od t f ()=_
   unfold y182
   by_cases c3:0<t.length
   ·rw[if_pos (by omega),if_pos (by omega),if_pos c3]
    by_cases c4:16<(t.getD 0 []).length
    ·rw[if_pos (by omega),if_pos c4,if_pos (by decide)]
    ·rw[if_neg (by omega),if_neg c4,main (by omega)]
   ·have e0:t=[]:=z5 (by omega);subst e0;rw[if_neg (by simp),if_neg (show ¬16<(([]:List (List (List Nat))).getD 0 []).length by simp),main (by simp)]
 ·rw[if_pos (by rw[bne_iff_ne];omega),if_pos c1,if_pos (by decide)]
def jG3 {g:List (List NC)} (hn:g.length<1000) {t:List (List (List Nat))} (hl:t.length<1000000000) (h32:T32 t) (hs:∀r∈t,r.length<1000000000) :
  jn5 g t=some (teG (jaD g 0).length t):=by
 unfold jn5 jq8 teG;rw[jEC hn,jac,jac]
 by_cases c1:t.length=(jaD g 0).length
 ·rw[if_neg (by rw[c1];simp),if_neg (show ¬t.length≠(jaD g 0).length by omega),
   jy6 (t:=t) (body:=jy1 t) (by omega) (fun i hi=>by
    unfold jy1;rw[if_pos (by omega),if_pos (by omega),if_pos (by omega),if_pos (by omega),if_pos (by omega),zi,jao (by omega)]) (by unfold jy1;rw[if_neg (by omega)]),jac]
  by_cases c2:t.any (lnB t)=true
  ·rw[if_pos c2,if_pos c2];rfl
  ·rw[if_neg c2,if_neg c2]
   have hrow:∀i,i<t.length->(t.getD i []).length=(t.getD 0 []).length:=fun i hi=>by
    have:¬lnB t (t.getD i [])=true:=fun h=>c2 (qM.2 ⟨_,by rw[jaw hi];exact zZ hi,h⟩);unfold lnB at this;simpa using this
   show y266 t ()=_
   unfold y266
   have k1:∀i,i<t.length->jra t (i:Int)=if decide (16<(t.getD i []).length)=true then some (.inr (.inl ()))else some (.inl ((i:Int)+1)):=fun i hi=>by
    unfold jra;rw[if_pos (by omega),if_pos (by omega),if_pos (by omega),zi,jao (by omega)]
    by_cases c:16<(t.getD i []).length
    ·rw[if_pos (by omega),if_pos (by simpa using c)]
    ·rw[if_neg (by omega),if_neg (by simpa using c)]
   rw[jb2 t [] (fun r=>decide (16<r.length)) (body:=jra t) (.inl ()) (.inr ()) (by omega) (fun i hi hp=>by rw[k1 i hi,if_pos hp]) (fun i hi hp=>by rw[k1 i hi,if_neg (by rw[hp];simp)]) (by unfold jra;rw[if_neg (by omega)]),jac]
   have hany:t.any (fun r=>decide (16<r.length))=decide (16<(t.getD 0 []).length):=by
    rw[yJ,qM];constructor
    ·rintro ⟨r,hr,h⟩;obtain⟨i,hi,rfl⟩:=xf.1 hr;have:=hrow i hi;rw[jaw hi]at this;rw[this]at h;exact h
    ·intro h
     have h0:0<t.length:=by
      apply gj;intro e;rw[z5 e]at h;simp at h
     exact⟨t.getD 0 [],by rw[jaw h0];exact zZ h0,h⟩
   rw[hany]
   by_cases c4:16<(t.getD 0 []).length
   ·rw[if_pos (by simpa using c4),if_pos c4];rfl
   ·rw[if_neg (by simpa using c4),if_neg c4]
    show y265 t ()=_
    unfold y265
    have k2:∀i,i<t.length->juz t (i:Int)=if(blE (t.getD i [])!=0)=true then some (.inr (.inl (blE (t.getD i []))))else some (.inl ((i:Int)+1)):=fun i hi=>by
     have hr:=hrow i hi;unfold juz;rw[if_pos (by omega),if_pos (by omega),zi,if_pos hi,jwG (by omega) (h32 _ (by rw[jaw hi];exact zZ hi)),jac,jao (by omega)]
    rw[jaQ t [] (fun r=>blE r != 0) (body:=juz t) (fun i=>.inl (blE (t.getD i []))) (.inr ()) (by omega)
     (fun i hi hp=>by rw[k2 i hi,if_pos hp]) (fun i hi hp=>by rw[k2 i hi,if_neg (by rw[hp];simp)]) (by unfold juz;rw[if_neg (by omega)]),jac]
    unfold bsE;cases t.findIdx? (fun r=>blE r != 0)<;>rfl
 ·rw[if_pos (by rw[bne_iff_ne];omega),if_pos c1]
structure TR (g:List (List NC)) (t:List (List (List Nat))):Prop where
 len:t.length=(jaD g 0).length
 row:∀c,c<t.length->(t.getD c []).length=(t.getD 0 []).length
 sht:(t.getD 0 []).length<=16
 blk:∀c k,c<t.length->k<(t.getD 0 []).length->((t.getD c []).getD k []).length=32∧∀j,j<32->se (((t.getD c []).getD k []).getD j 0)=0
def jED {g:List (List NC)} {t:List (List (List Nat))} (h32:T32 t) (h:teG (jaD g 0).length t=0):TR g t:=by
 unfold teG at h;split at h
 ·exact absurd h (by decide)
 rename_i h1;split at h
 ·exact absurd h (by decide)
 rename_i h2;split at h
 ·exact absurd h (by decide)
 rename_i h3
 have hrow:∀i,i<t.length->(t.getD i []).length=(t.getD 0 []).length:=fun i hi=>by
  have:¬lnB t (t.getD i [])=true:=fun h=>h2 (qM.2 ⟨_,by rw[jaw hi];exact zZ hi,h⟩);unfold lnB at this;simpa using this
 refine⟨by omega,hrow,by omega,fun c k hc hk=>?_⟩;have hm:t.getD c []∈t:=by rw[jaw hc];exact zZ hc
 have hr:=hrow c hc
 have hm2:(t.getD c []).getD k []∈t.getD c []:=by
  rw[jaw (show k<(t.getD c []).length by omega)];exact zZ _
 have hb:blE (t.getD c [])=0:=by
  unfold bsE at h;cases hf:t.findIdx? (fun r=>blE r != 0)with
  |none =>
   rw[qt]at hf;simpa using hf _ hm
  |some i =>
   rw[hf]at h;rw[qm]at hf;obtain⟨hk,hp,_⟩:=hf;have h:blE (t.getD i [])=0:=h;rw[jaw hk]at h;simp[h]at hp
 have h0:=h32 _ hm _ hm2;refine⟨h0,fun j hj=>?_⟩;refine jvz (jG1 hb _ hm2) _ ?_
 generalize (t.getD c []).getD k []=b at h0 ⊢
 rw[jaw (by omega)];exact zZ _
def jEE {g:List (List NC)} {t:List (List (List Nat))} (h:TR g t):teG (jaD g 0).length t=0:=by
 unfold teG;rw[if_neg (by rw[h.len];simp),if_neg,if_neg (by have:=h.sht;omega)]
 ·unfold bsE
  have:t.findIdx? (fun r=>blE r != 0)=none:=by
   rw[qt];intro r hr;obtain⟨c,hc,rfl⟩:=xf.1 hr
   have h0:blE t[c]=0:=jJy fun b hb=>by
    obtain⟨k,hk,rfl⟩:=xf.1 hb;have hrw:=h.row c hc;rw[jaw hc]at hrw;obtain⟨b1,b2⟩:=h.blk c k hc (by omega);rw[jaw hc,jaw hk]at b1 b2;refine jA8 fun x hx=>?_;obtain⟨j,hj,rfl⟩:=xf.1 hx;have:=b2 j (by omega);rw[jaw hj]at this;exact this
   rw[h0];rfl
  rw[this]
 ·intro hany;obtain⟨r,hr,hl⟩:=qM.1 hany;obtain⟨c,hc,rfl⟩:=xf.1 hr;have:=h.row c hc;rw[jaw hc]at this;unfold lnB at hl;rw[this]at hl;simp at hl
end Go.Sh
end

section
namespace Go.Sh
open Go Go.Proofs Go.RowKit Go.Sx
open Go.IntKind (wrap)
attribute [local irreducible] y38
def y225:List SV:=[.c (.p [.d,.x (.st zS []),.r (.ints .i64 [])]),.c (.x (.bb .f32 32 [])),.c (.r (.recs 2 [])),.c (.f 118 [.p [.p [.d,.x (.st zS []),.r (.ints .i64 [])]]])]
def y23 (in_:List (List (List Nat))) (x1:(Int × Int × Int × Int × Int × List (List (List Nat)) × Int × List (List Nat) × List (List Nat) × List (List (List Int)))):Option ((Int × Int × Int × Int × Int × List (List (List Nat)) × Int × List (List Nat) × List (List Nat) × List (List (List Int))) ⊕ (Int × Int × Int × Int × List (List (List Nat)) × Int × List (List Nat) × List (List Nat) × List (List (List Int)))) :=
 if x1.2.2.2.2.1<(↑in_.length:Int)then
  if 0<=x1.2.2.2.2.1∧x1.2.2.2.2.1<(↑in_.length:Int)then
  if zg x1.2.2.2.2.1<ze in_ then
   if 0<=x1.2.1∧x1.2.1<(↑(ze (za in_ x1.2.2.2.2.1.toNat [])):Int)then
   if zg x1.2.1<ze (za in_ x1.2.2.2.2.1.toNat [])then
    if(ze x1.2.2.2.2.2.2.2.1+ze [za (za in_ x1.2.2.2.2.1.toNat []) x1.2.1.toNat []])*128<=140737488355328∧ze x1.2.2.2.2.2.2.2.1+ze [za (za in_ x1.2.2.2.2.1.toNat []) x1.2.1.toNat []]<=9223372036854775807 then
    some (.inl ((x1.1,x1.2.1,x1.2.2.1,x1.2.2.2.1,wrap .i64 (x1.2.2.2.2.1+1),x1.2.2.2.2.2.1,x1.2.2.2.2.2.2.1,x1.2.2.2.2.2.2.2.1++[za (za in_ x1.2.2.2.2.1.toNat []) x1.2.1.toNat []],x1.2.2.2.2.2.2.2.2.1,x1.2.2.2.2.2.2.2.2.2)))
    else none
   else none
   else none
  else none
  else none
 else
  some (.inr (x1.1,x1.2.1,x1.2.2.1,x1.2.2.2.1,x1.2.2.2.2.2.1,x1.2.2.2.2.2.2.1,x1.2.2.2.2.2.2.2.1,x1.2.2.2.2.2.2.2.2.1,x1.2.2.2.2.2.2.2.2.2))
def y44 (r5:List (List Nat)) (x2:(Int × List (List (List Nat)))):Option ((Int × List (List (List Nat))) ⊕ (List (List (List Nat)))) :=
 if x2.1<(↑r5.length:Int)then
  if 0<=x2.1∧x2.1<(↑r5.length:Int)then
  if zg x2.1<ze r5 then
   if 0<=x2.1∧x2.1<(↑x2.2.length:Int)then
   if zg x2.1<ze x2.2 then
    if(ze (za x2.2 x2.1.toNat [])+ze [za r5 x2.1.toNat []])*128<=140737488355328∧ze (za x2.2 x2.1.toNat [])+ze [za r5 x2.1.toNat []]<=9223372036854775807 then
    if 0<=x2.1∧x2.1<(↑x2.2.length:Int)then
     if zg x2.1=zg x2.1∧zg x2.1<ze x2.2 then
     some (.inl ((wrap .i64 (x2.1+1),qw x2.2 x2.1.toNat (NC.toFrs (qg [NC.r (Cont.frs .f32 (32:Nat) (za x2.2 x2.1.toNat []++[za r5 x2.1.toNat []]))] (NC.d (D.v z3)))))))
     else none
    else none
    else none
   else none
   else none
  else none
  else none
 else
  some (.inr x2.2)
def y195 (u5:List (List NC)) (u26:Int × Int × Int × Int × List (List (List Nat)) × Int × List (List Nat) × List (List Nat) × List (List (List Int))) (r3:Int × List Int × List (List Nat) × List (List (List Int)) × List Int) (r4:List (List Nat) × List (List (List Int)) × List Int) (u52:List (List (List Nat))):Option ((Int × Int × Int × List (List (List Nat)) × Int × List (List Nat) × List (List (List Int))) ⊕ (Int × List (List (List Nat)))) :=
 zb (y61 r4.2.2) fun r6 =>
 zb (y71 u5 r3.1 u26.2.2.2.2.2.2.2.1 r4.1) fun r7 =>
 some (.inl ((wrap .i64 (u26.1+r6),u26.2.2.1,wrap .i64 (u26.2.2.2.1+1),u52,r7.1,r7.2,r4.2.1)))
def y196 (u7:ByteArray) (u5:List (List NC)) (u6:List Int) (l:List (List Int)) (u47:List Int) (u26:Int × Int × Int × Int × List (List (List Nat)) × Int × List (List Nat) × List (List Nat) × List (List (List Int))):Option ((Int × Int × Int × List (List (List Nat)) × Int × List (List Nat) × List (List (List Int))) ⊕ (Int × List (List (List Nat)))) :=
 zb (y38 u7 u5 u6 l u26.2.1) fun r2 =>
 zb (y15 u7 u5 u6 u26.2.2.2.2.2.1 r2) fun r3 =>
 zb (jcM u5 u26.2.2.2.2.2.2.2.1 u26.2.2.2.2.2.2.2.2 u26.2.2.2.2.2.2.1 r3.2.1 u47 r3.2.2.1 r3.2.2.2.1 r3.2.2.2.2) fun r4 =>
 zb (y7 u5 r4.1) fun r5 =>
 zb (jae (y44 r5) big (((0:Int),u26.2.2.2.2.1))) (y195 u5 u26 r3 r4)
def y24 (u7:ByteArray) (u5:List (List NC)) (u6:List Int) (in_:List (List (List Nat))) (l:List (List Int)) (u47:List Int) (x0:(Int × Int × Int × List (List (List Nat)) × Int × List (List Nat) × List (List (List Int)))):Option ((Int × Int × Int × List (List (List Nat)) × Int × List (List Nat) × List (List (List Int))) ⊕ (Int × List (List (List Nat)))) :=
 if x0.2.2.1<x0.2.1 then
  zb (jae (y23 in_) big ((x0.1,x0.2.2.1,x0.2.1,x0.2.2.1,0,x0.2.2.2.1,x0.2.2.2.2.1,[],x0.2.2.2.2.2.1,x0.2.2.2.2.2.2))) (y196 u7 u5 u6 l u47)
 else
  some (.inr (x0.1,x0.2.2.2.1))
def jy7 (u4:Int × List (List (List Nat))):Option (List (List (List Nat)) × Int) :=
 some (u4.2,u4.1)
def y28 (u7:ByteArray) (u5:List (List NC)) (u6:List Int) (in_:List (List (List Nat))) (l:List (List Int)) (u47:List Int):Option (List (List (List Nat)) × Int) :=
 zb (y4 u5 (4:Int)) fun r0 =>
 if 0<=(↑r0.length:Int)∧(↑r0.length:Int)=(↑r0.length:Int)∧(↑(24:Nat):Int)*(↑r0.length:Int)<=281474976710656∧(↑r0.length:Int)<=9223372036854775807 then
  zb (y8 u5) fun r1 =>
  if(↑in_.length:Int)>0 then
  if(0:Int)<=0∧0<(↑in_.length:Int)then
   if 0<ze in_ then
   zb (jae (y24 u7 u5 u6 in_ l u47) big (((0:Int),(↑(ze (za in_ 0 [])):Int),0,zf (zg (↑r0.length:Int)) (NC.toFrs (qg [NC.r (Cont.frs .f32 (32:Nat) [])] (NC.d (D.v z3)))),r1.1,r1.2.1,r1.2.2))) (jy7)
   else none
  else none
  else
  zb (jae (y24 u7 u5 u6 in_ l u47) big (((0:Int),0,0,zf (zg (↑r0.length:Int)) (NC.toFrs (qg [NC.r (Cont.frs .f32 (32:Nat) [])] (NC.d (D.v z3)))),r1.1,r1.2.1,r1.2.2))) (jy7)
 else none
def y226:List Lf->Option GT
 |[.d (.s u7),.x (.st [.s,.i .i64,.ints .i64,.ints .i64,.ints .i64,.i .i64,.recs 5,.i .i64] u5),.r (.ints .i64 u6),.x (.bb .f32 32 in_),.r (.recs 2 l),.d (.s u56),.x (.st [.s,.i .i64,.ints .i64,.ints .i64,.ints .i64,.i .i64,.recs 5,.i .i64] u57),.r (.ints .i64 u47)]=>some (.leaf (ok (y28 u7 u5 u6 in_ l u47)) [.c (.m 79 [(110:Nat)] (.bb .f32 32 ((val (y28 u7 u5 u6 in_ l u47)).1))),.c (.d (.i .i64 ((val (y28 u7 u5 u6 in_ l u47)).2)))])
 |_=>none
abbrev sp_117_118:jaa->jaa:=jan 117 true (jah y225 y226)
def pl_s0 (c0:List Nat) (c1:Int) (c2:List (List Nat)) (c3:List Int) (c4:List (List (List Int))) (c5:List (List Nat)) (c6:List Int) (c7:Int) (c8:List (List (List Int))) (c9:List (List Nat)) (c10:List (List Nat)) (c11:List (List NC)) (c12:ByteArray) (c13:Int) (c14:List (List NC)) (c15:Int) (c16:ByteArray) (c17:Int) (c18:Int) (c19:List (List (List Nat))) (c20:List Int) (c21:Int) (c22:List Int) (c23:List (List (List Nat))) (c24:List (List Int)):St :=
 ⟨[(0,.w (.c (.p 2 0 1 0))),(1,.w (.c (.o 3))),(2,.w (.c (.o 4))),(3,.w (.c (.fn 118 [8]))),(10,.w (.c (.o 9))),(11,.w (.c (.d (.i .i64 c21)))),(12,.w (.c (.p 10 0 1 0))),(18,.w (.c (.p 11 0 1 0))),(19,.w (.c (.d (.i .i64 c18)))),(20,.w (.c (.p 20 0 1 0))),(34,.w (.c (.d (.i .i64 c17)))),(35,.w (.c (.d (.i .i64 c15)))),(64,.w (.c (.o 12))),(65,.w (.c (.d (.i .i64 (c1))))),(66,.w (.c (.d (.i .i64 c18))))],[(12,.row 110 (.frs .f32 32 c2)),(20,.arr 110 32 (.f .f32 c0)),(11,.box 205 [.p 2 0 1 0,.d (.i .i64 c7),.o 13,.o 14,.o 15,.o 16,.o 17,.o 18,.o 19]),(10,.box 78 [.d (.i .i64 c13),.o 13,.o 14]),(9,.mrow 79 [(110:Nat)] (XC.bb .f32 (32:Nat) c19) none),(8,.ebox [.p 7 0 1 0]),(4,.ext (.recs 2 c24)),(3,.xext (XC.bb .f32 (32:Nat) c23)),(2,.ebox [.d (.s c16),.o 0,.o 1]),(19,.row 3 (.ints .i64 c3)),(18,.xrow 158 (XC.rr (4:Nat) c4)),(17,.row 110 (.frs .f32 32 c5)),(16,.row 3 (.ints .i64 c6)),(15,.row 110 (.frs .f32 32 c10)),(14,.xrow 158 (XC.rr (4:Nat) c8)),(13,.xrow 157 (XC.ff .f32 c9)),(7,.ebox [.d (.s c12),.o 5,.o 6]),(1,.ext (.ints .i64 c22)),(0,.xext (XC.st zS c14)),(6,.ext (.ints .i64 c20)),(5,.xext (XC.st zS c11))],21⟩
def pl_s1 (c0:List Nat) (c1:Int) (c2:List (List Nat)) (c3:List Int) (c4:List (List (List Int))) (c5:List (List Nat)) (c6:List Int) (c7:Int) (c8:List (List (List Int))) (c9:List (List Nat)) (c10:List (List Nat)) (c11:List (List NC)) (c12:ByteArray) (c13:Int) (c14:List (List NC)) (c15:Int) (c16:ByteArray) (c17:Int) (c18:Int) (c19:List (List (List Nat))) (c20:List Int) (c21:Int) (c22:List Int) (c23:List (List (List Nat))) (c24:List (List Int)):St :=
 ⟨[(0,.w (.c (.p 2 0 1 0))),(1,.w (.c (.o 3))),(2,.w (.c (.o 4))),(3,.w (.c (.fn 118 [8]))),(10,.w (.c (.o 9))),(11,.w (.c (.d (.i .i64 c21)))),(12,.w (.c (.p 10 0 1 0))),(18,.w (.c (.p 11 0 1 0))),(34,.w (.c (.d (.i .i64 c17)))),(35,.w (.c (.d (.i .i64 c15)))),(64,.w (.c (.o 12))),(65,.w (.c (.d (.i .i64 (c1))))),(66,.w (.c (.d (.i .i64 c18))))],[(12,.row 110 (.frs .f32 32 c2)),(11,.box 205 [.p 2 0 1 0,.d (.i .i64 c7),.o 13,.o 14,.o 15,.o 16,.o 17,.o 18,.o 19]),(10,.box 78 [.d (.i .i64 c13),.o 13,.o 14]),(9,.mrow 79 [(110:Nat)] (XC.bb .f32 (32:Nat) (qw c19 c18.toNat (NC.toFrs (qg [NC.r (Cont.frs .f32 (32:Nat) (za c19 c18.toNat []++[c0]))] (NC.d (D.v z3)))))) none),(8,.ebox [.p 7 0 1 0]),(4,.ext (.recs 2 c24)),(3,.xext (XC.bb .f32 (32:Nat) c23)),(2,.ebox [.d (.s c16),.o 0,.o 1]),(19,.row 3 (.ints .i64 c3)),(18,.xrow 158 (XC.rr (4:Nat) c4)),(17,.row 110 (.frs .f32 32 c5)),(16,.row 3 (.ints .i64 c6)),(15,.row 110 (.frs .f32 32 c10)),(14,.xrow 158 (XC.rr (4:Nat) c8)),(13,.xrow 157 (XC.ff .f32 c9)),(7,.ebox [.d (.s c12),.o 5,.o 6]),(1,.ext (.ints .i64 c22)),(0,.xext (XC.st zS c14)),(6,.ext (.ints .i64 c20)),(5,.xext (XC.st zS c11))],24⟩
def jJz:Array qu:=(jeZ (bodyOf Tryz.f117)).getD 1 #[]
def jJA (c0:List Nat) (c1:Int) (c2:List (List Nat)) (c3:List Int) (c4:List (List (List Int))) (c5:List (List Nat)) (c6:List Int) (c7:Int) (c8:List (List (List Int))) (c9:List (List Nat)) (c10:List (List Nat)) (c11:List (List NC)) (c12:ByteArray) (c13:Int) (c14:List (List NC)) (c15:Int) (c16:ByteArray) (c17:Int) (c18:Int) (c19:List (List (List Nat))) (c20:List Int) (c21:Int) (c22:List Int) (c23:List (List (List Nat))) (c24:List (List Int)):Prop:=ordA Tryz.prog (sp_99 (sp_120 (sp_94 (sp_102 (sp_104 (sp_105 (sp_106 (sp_118 sp0)))))))) 91 9 [0,1,2,3] jJz (pl_s0 c0 c1 c2 c3 c4 c5 c6 c7 c8 c9 c10 c11 c12 c13 c14 c15 c16 c17 c18 c19 c20 c21 c22 c23 c24) (pl_s1 c0 c1 c2 c3 c4 c5 c6 c7 c8 c9 c10 c11 c12 c13 c14 c15 c16 c17 c18 c19 c20 c21 c22 c23 c24) ((zg c18=zg c18∧zg c18<ze c19)∧(0<=c18∧c18<(↑c19.length:Int))∧((ze (za c19 c18.toNat [])+ze [c0])*128<=140737488355328∧ze (za c19 c18.toNat [])+ze [c0]<=9223372036854775807)∧(True)∧(zg c18<ze c19)∧(0<=c18∧c18<(↑c19.length:Int))∧True)
def jvI (c0:List Nat) (c1:Int) (c2:List (List Nat)) (c3:List Int) (c4:List (List (List Int))) (c5:List (List Nat)) (c6:List Int) (c7:Int) (c8:List (List (List Int))) (c9:List (List Nat)) (c10:List (List Nat)) (c11:List (List NC)) (c12:ByteArray) (c13:Int) (c14:List (List NC)) (c15:Int) (c16:ByteArray) (c17:Int) (c18:Int) (c19:List (List (List Nat))) (c20:List Int) (c21:Int) (c22:List Int) (c23:List (List (List Nat))) (c24:List (List Int)):jJA c0 c1 c2 c3 c4 c5 c6 c7 c8 c9 c10 c11 c12 c13 c14 c15 c16 c17 c18 c19 c20 c21 c22 c23 c24:=fun h =>
 have t:=trivial;have e:Ob True:=⟨trivial⟩
 have q0:Ob _:=⟨h.2.1⟩
 have q1:Ob _:=⟨h.2.2.2.2.1⟩
 have q2:Ob _:=⟨h.2.2.1⟩
 have q3:Ob _:=⟨h.1⟩
 have q4:=oR ((0:Nat));have q5:=oR (c21);have q6:=oR (c17);have q7:=oR (c15);have q8:=oR (c1);have q9:=oR (c18);have q10:=oR (c2);have q11:=oR (c7);have q12:=oR (c13);have q13:=oR (qw c19 c18.toNat (NC.toFrs (qg [NC.r (Cont.frs .f32 (32:Nat) (za c19 c18.toNat []++[c0]))] (NC.d (D.v z3)))));have q14:=oR (c24);have q15:=oR (c23);have q16:=oR (c16);have q17:=oR (c3);have q18:=oR (c4);have q19:=oR (c5);have q20:=oR (c6);have q21:=oR (c10);have q22:=oR (c8);have q23:=oR (c9);have q24:=oR (c12);have q25:=oR (c22);have q26:=oR (c14);have q27:=oR (c20);have q28:=oR (c11);have s0:=ai q8 (ai q9 (ai q10 (ai q4 (ai q11 (ai q12 (ai q13 (ai q4 (ai q14 (ai q15 (ai q16 (ai q17 (ai q18 (ai q19 (ai q20 (ai q21 (ai q22 (ai q23 (ai q24 (ai q25 (ai q26 (ai q27 (ai q28 t))))))))))))))))))))));have s1:=ai (ai q2 (ai (ai q0 (ai (ai q3 (ai q4 (ai q5 (ai q4 (ai q4 (ai q6 (ai q7 s0))))))) t)) t)) t;have s2:=ai (ai e s1) t;have s3:=ai (ai q1 s1) t;have s4:=ai (ai q1 s2) (ai (ai e s3) t);have s5:=ai e (ai e (ai e (ai e (ai (ai q0 (ai (ai q1 (ai (ai e s2) t)) (ai (ai e s4) t))) (ai (ai e (ai (ai q0 s4) (ai (ai e (ai (ai q0 s3) t)) t))) t)))))
 @jI _ _ (by kernel_rfl) s5
abbrev pyQ:Type:=Int × Int × Int × Int × List (List (List Nat)) × Int × List (List Nat) × List (List Nat) × List (List (List Int))
abbrev py3 (gN:ByteArray) (gU:List (List NC)) (gO:List Int) (l:List (List Int)) (q:pyQ):Int × List Int × List (List Nat) × List (List (List Int)) × List Int:=val (y15 gN gU gO q.2.2.2.2.2.1 (val (y38 gN gU gO l q.2.1)))
abbrev py4 (gN:ByteArray) (gU:List (List NC)) (gO:List Int) (l:List (List Int)) (eo:List Int) (q:pyQ):List (List Nat) × List (List (List Int)) × List Int:=val (jcM gU q.2.2.2.2.2.2.2.1 q.2.2.2.2.2.2.2.2 q.2.2.2.2.2.2.1 (py3 gN gU gO l q).2.1 eo (py3 gN gU gO l q).2.2.1 (py3 gN gU gO l q).2.2.2.1 (py3 gN gU gO l q).2.2.2.2)
abbrev jy8 (u7:ByteArray) (u5:List (List NC)) (u6:List Int) (in_:List (List (List Nat))) (l:List (List Int)) (u56:ByteArray) (u57:List (List NC)) (u47:List Int) (r:List (List (List Nat)) × Int):Lp ((Int × Int × Int × List (List (List Nat)) × Int × List (List Nat) × List (List (List Int))) × Nat) ((Int × Int × Int × List (List (List Nat)) × Int × List (List Nat) × List (List (List Int)))) ((Int × List (List (List Nat)))) ((List (List (List Nat)) × Int)) (List (List (List Nat)) × Int) :=
 ⟨fun z=>z.1,fun z=>z.2,fun z x n=>(x,n),fun z=>y24 u7 u5 u6 in_ l u47,fun z=>jy7,fun z=>top r,fun z=>0,[.c fun _=>0,.c fun vv=>vv.1.1,.c fun _=>0,.c fun vv=>vv.1.2.1,.c fun vv=>vv.1.2.2.1,.c fun _=>u7,.c fun _=>in_,.c fun _=>l,.c fun _=>0,.c fun vv=>vv.1.2.2.2.1,.c fun vv=>vv.1.2.2.2.2.1,.c fun _=>u5,.c fun _=>u6,.c fun _=>u56,.c fun vv=>vv.1.2.2.2.2.2.1,.c fun vv=>vv.1.2.2.2.2.2.2,.c fun _=>u57,.c fun _=>u47]⟩
abbrev y197 (u7:ByteArray) (u5:List (List NC)) (u6:List Int) (in_:List (List (List Nat))) (l:List (List Int)) (u56:ByteArray) (u57:List (List NC)) (u47:List Int) (r:List (List (List Nat)) × Int) (m1:Nat):Lp ((Int × Int × Int × List (List (List Nat)) × Int × List (List Nat) × List (List (List Int))) × Nat × (Int × Int × Int × Int × Int × List (List (List Nat)) × Int × List (List Nat) × List (List Nat) × List (List (List Int))) × Nat) ((Int × Int × Int × Int × Int × List (List (List Nat)) × Int × List (List Nat) × List (List Nat) × List (List (List Int)))) ((Int × Int × Int × Int × List (List (List Nat)) × Int × List (List Nat) × List (List Nat) × List (List (List Int)))) (((Int × Int × Int × List (List (List Nat)) × Int × List (List Nat) × List (List (List Int))) ⊕ (Int × List (List (List Nat))))) (List (List (List Nat)) × Int) :=
 ⟨fun z=>z.2.2.1,fun z=>z.2.2.2,fun z x n=>(z.1,z.2.1,x,n),fun z=>y23 in_,fun z=>y196 u7 u5 u6 l u47,fun z=>(jy8 u7 u5 u6 in_ l u56 u57 u47 r).cx (z.1,m1),fun z=>z.2.1,[.c fun _=>0,.c fun vv=>vv.2.2.1.1,.c fun _=>0,.c fun vv=>vv.2.2.1.2.1,.c fun vv=>vv.2.2.1.2.2.1,.c fun vv=>vv.2.2.1.2.2.2.1,.c fun _=>(↑in_.length:Int),.c fun vv=>vv.2.2.1.2.2.2.2.1,.c fun _=>u7,.c fun _=>in_,.c fun _=>l,.c fun _=>0,.c fun vv=>vv.2.2.1.2.2.2.2.2.1,.c fun vv=>vv.2.2.1.2.2.2.2.2.2.1,.c fun vv=>vv.2.2.1.2.2.2.2.2.2.2.1,.c fun _=>u5,.c fun _=>u6,.c fun _=>u56,.c fun vv=>vv.2.2.1.2.2.2.2.2.2.2.2.1,.c fun vv=>vv.2.2.1.2.2.2.2.2.2.2.2.2,.c fun _=>u57,.c fun _=>u47]⟩
abbrev y198 (u7:ByteArray) (u5:List (List NC)) (u6:List Int) (in_:List (List (List Nat))) (l:List (List Int)) (u56:ByteArray) (u57:List (List NC)) (u47:List Int) (r:List (List (List Nat)) × Int) (m1:Nat):Lp ((Int × Int × Int × List (List (List Nat)) × Int × List (List Nat) × List (List (List Int))) × Nat × (Int × Int × Int × Int × List (List (List Nat)) × Int × List (List Nat) × List (List Nat) × List (List (List Int))) × (Int × List (List (List Nat))) × Nat) ((Int × List (List (List Nat)))) ((List (List (List Nat)))) (((Int × Int × Int × List (List (List Nat)) × Int × List (List Nat) × List (List (List Int))) ⊕ (Int × List (List (List Nat))))) (List (List (List Nat)) × Int) :=
 ⟨fun z=>z.2.2.2.1,fun z=>z.2.2.2.2,fun z x n=>(z.1,z.2.1,z.2.2.1,x,n),fun z=>y44 (val (y7 u5 (py4 u7 u5 u6 l u47 z.2.2.1).1)),fun z=>y195 u5 z.2.2.1 (py3 u7 u5 u6 l z.2.2.1) (py4 u7 u5 u6 l u47 z.2.2.1),fun z=>(jy8 u7 u5 u6 in_ l u56 u57 u47 r).cx (z.1,m1),fun z=>z.2.1,[.c fun _=>0,.c fun vv=>vv.2.2.1.1,.c fun _=>0,.c fun _=>0,.c fun vv=>vv.2.2.1.2.2.1,.c fun vv=>vv.2.2.1.2.2.2.1,.c fun vv=>(↑(ze (val (y7 u5 (py4 u7 u5 u6 l u47 vv.2.2.1).1))):Int),.c fun vv=>vv.2.2.2.1.1,.c fun _=>u7,.c fun _=>in_,.c fun _=>l,.c fun _=>0,.c fun vv=>vv.2.2.2.1.2,.c fun vv=>vv.2.2.1.2.2.2.2.2.1,.c fun _=>0,.c fun vv=>(py3 u7 u5 u6 l vv.2.2.1).1,.c fun vv=>val (y7 u5 (py4 u7 u5 u6 l u47 vv.2.2.1).1),.c fun _=>u5,.c fun _=>u6,.c fun _=>u56,.c fun vv=>vv.2.2.1.2.2.2.2.2.2.2.1,.c fun vv=>vv.2.2.1.2.2.2.2.2.2.2.2,.c fun vv=>vv.2.2.1.2.2.2.2.2.2.1,.c fun vv=>(py3 u7 u5 u6 l vv.2.2.1).2.1,.c fun vv=>(py4 u7 u5 u6 l u47 vv.2.2.1).1,.c fun vv=>(py4 u7 u5 u6 l u47 vv.2.2.1).2.1,.c fun vv=>(py4 u7 u5 u6 l u47 vv.2.2.1).2.2,.c fun _=>u57,.c fun _=>u47]⟩
def jl9 (u7:ByteArray) (u5:List (List NC)) (u6:List Int) (in_:List (List (List Nat))) (l:List (List Int)) (u56:ByteArray) (u57:List (List NC)) (u47:List Int) (r:List (List (List Nat)) × Int):Sk (top r) (zb (jae (y24 u7 u5 u6 in_ l u47) big (((0:Int),(↑(ze (za in_ 0 [])):Int),0,zf (zg (↑(ze (val (y4 u5 (4:Int)))):Int)) (NC.toFrs (qg [NC.r (Cont.frs .f32 (32:Nat) [])] (NC.d (D.v z3)))),(val (y8 u5)).1,(val (y8 u5)).2.1,(val (y8 u5)).2.2))) (jy7)) :=
 .loop (jy8 u7 u5 u6 in_ l u56 u57 u47 r) (fun kk=>(((0:Int),(↑(ze (za in_ 0 [])):Int),0,zf (zg (↑(ze (val (y4 u5 (4:Int)))):Int)) (NC.toFrs (qg [NC.r (Cont.frs .f32 (32:Nat) [])] (NC.d (D.v z3)))),(val (y8 u5)).1,(val (y8 u5)).2.1,(val (y8 u5)).2.2),big)) fun z0 =>
 .br
 (.loopQ (y197 u7 u5 u6 in_ l u56 u57 u47 r z0.2) [.c fun _=>0,.c fun vv=>vv.2.2.1.1,.c fun _=>0,.c fun vv=>vv.2.2.1.2.1,.c fun vv=>vv.2.2.1.2.2.1,.c fun vv=>vv.2.2.1.2.2.2.1,.c fun _=>(↑in_.length:Int),.c fun vv=>vv.2.2.1.2.2.2.2.1,.c fun _=>u7,.c fun _=>in_,.c fun _=>l,.c fun _=>0,.c fun vv=>vv.2.2.1.2.2.2.2.2.1,.c fun vv=>vv.2.2.1.2.2.2.2.2.2.1,.p fun vv=>ze vv.2.2.1.2.2.2.2.2.2.2.1=(0:Nat),.c fun _=>u5,.c fun _=>u6,.c fun _=>u56,.c fun vv=>vv.2.2.1.2.2.2.2.2.2.2.2.1,.c fun vv=>vv.2.2.1.2.2.2.2.2.2.2.2.2,.c fun _=>u57,.c fun _=>u47] (fun kk=>(z0.1,kk,(z0.1.1,z0.1.2.2.1,z0.1.2.1,z0.1.2.2.1,0,z0.1.2.2.2.1,z0.1.2.2.2.2.1,[],z0.1.2.2.2.2.2.1,z0.1.2.2.2.2.2.2),big)) (fun z1 =>
 .br
 (.ob (.ob (.ob (.ob (.ob (.next))))))
 (.exit (.call (.call (.call (.call (.loop (y198 u7 u5 u6 in_ l u56 u57 u47 r z0.2) (fun kk=>(z1.1,kk,(z1.2.2.1.1,z1.2.2.1.2.1,z1.2.2.1.2.2.1,z1.2.2.1.2.2.2.1,z1.2.2.1.2.2.2.2.2.1,z1.2.2.1.2.2.2.2.2.2.1,z1.2.2.1.2.2.2.2.2.2.2.1,z1.2.2.1.2.2.2.2.2.2.2.2.1,z1.2.2.1.2.2.2.2.2.2.2.2.2),((0:Int),(z1.2.2.1.1,z1.2.2.1.2.1,z1.2.2.1.2.2.1,z1.2.2.1.2.2.2.1,z1.2.2.1.2.2.2.2.2.1,z1.2.2.1.2.2.2.2.2.2.1,z1.2.2.1.2.2.2.2.2.2.2.1,z1.2.2.1.2.2.2.2.2.2.2.2.1,z1.2.2.1.2.2.2.2.2.2.2.2.2).2.2.2.2.1),big)) fun z1 =>
 .br
 (.ob (.ob (.obT (.ob (.ob (.obT (.ob (.ob (.ob (.obC _ (jvI (za (val (y7 u5 (py4 u7 u5 u6 l u47 z1.2.2.1).1)) z1.2.2.2.1.1.toNat []) (↑(ze (val (y7 u5 (py4 u7 u5 u6 l u47 z1.2.2.1).1))):Int) (val (y7 u5 (py4 u7 u5 u6 l u47 z1.2.2.1).1)) ((py4 u7 u5 u6 l u47 z1.2.2.1).2.2) ((py4 u7 u5 u6 l u47 z1.2.2.1).2.1) ((py4 u7 u5 u6 l u47 z1.2.2.1).1) ((py3 u7 u5 u6 l z1.2.2.1).2.1) ((py3 u7 u5 u6 l z1.2.2.1).1) (z1.2.2.1.2.2.2.2.2.2.2.2) (z1.2.2.1.2.2.2.2.2.2.2.1) (z1.2.2.1.2.2.2.2.2.2.1) (u57) (u56) (z1.2.2.1.2.2.2.2.2.1) (u5) (z1.2.2.1.2.2.2.1) (u7) (z1.2.2.1.2.2.1) (z1.2.2.2.1.1) (z1.2.2.2.1.2) (u47) (z1.2.2.1.1) (u6) (in_) (l)) (.next)))))))))))
 (.exit (.call (.call (.next))))))))))) (fun _=>⟨rfl,trivial⟩))
 (.exit (.obT (.obT (.rc))))
def jma (u7:ByteArray) (u5:List (List NC)) (u6:List Int) (in_:List (List (List Nat))) (l:List (List Int)) (u56:ByteArray) (u57:List (List NC)) (u47:List Int) (r:List (List (List Nat)) × Int):Sk (top r) (zb (jae (y24 u7 u5 u6 in_ l u47) big (((0:Int),0,0,zf (zg (↑(ze (val (y4 u5 (4:Int)))):Int)) (NC.toFrs (qg [NC.r (Cont.frs .f32 (32:Nat) [])] (NC.d (D.v z3)))),(val (y8 u5)).1,(val (y8 u5)).2.1,(val (y8 u5)).2.2))) (jy7)) :=
 .loop (jy8 u7 u5 u6 in_ l u56 u57 u47 r) (fun kk=>(((0:Int),0,0,zf (zg (↑(ze (val (y4 u5 (4:Int)))):Int)) (NC.toFrs (qg [NC.r (Cont.frs .f32 (32:Nat) [])] (NC.d (D.v z3)))),(val (y8 u5)).1,(val (y8 u5)).2.1,(val (y8 u5)).2.2),big)) fun z0 =>
 .br
 (.loopQ (y197 u7 u5 u6 in_ l u56 u57 u47 r z0.2) [.c fun _=>0,.c fun vv=>vv.2.2.1.1,.c fun _=>0,.c fun vv=>vv.2.2.1.2.1,.c fun vv=>vv.2.2.1.2.2.1,.c fun vv=>vv.2.2.1.2.2.2.1,.c fun _=>(↑in_.length:Int),.c fun vv=>vv.2.2.1.2.2.2.2.1,.c fun _=>u7,.c fun _=>in_,.c fun _=>l,.c fun _=>0,.c fun vv=>vv.2.2.1.2.2.2.2.2.1,.c fun vv=>vv.2.2.1.2.2.2.2.2.2.1,.p fun vv=>ze vv.2.2.1.2.2.2.2.2.2.2.1=(0:Nat),.c fun _=>u5,.c fun _=>u6,.c fun _=>u56,.c fun vv=>vv.2.2.1.2.2.2.2.2.2.2.2.1,.c fun vv=>vv.2.2.1.2.2.2.2.2.2.2.2.2,.c fun _=>u57,.c fun _=>u47] (fun kk=>(z0.1,kk,(z0.1.1,z0.1.2.2.1,z0.1.2.1,z0.1.2.2.1,0,z0.1.2.2.2.1,z0.1.2.2.2.2.1,[],z0.1.2.2.2.2.2.1,z0.1.2.2.2.2.2.2),big)) (fun z1 =>
 .br
 (.ob (.ob (.ob (.ob (.ob (.next))))))
 (.exit (.call (.call (.call (.call (.loop (y198 u7 u5 u6 in_ l u56 u57 u47 r z0.2) (fun kk=>(z1.1,kk,(z1.2.2.1.1,z1.2.2.1.2.1,z1.2.2.1.2.2.1,z1.2.2.1.2.2.2.1,z1.2.2.1.2.2.2.2.2.1,z1.2.2.1.2.2.2.2.2.2.1,z1.2.2.1.2.2.2.2.2.2.2.1,z1.2.2.1.2.2.2.2.2.2.2.2.1,z1.2.2.1.2.2.2.2.2.2.2.2.2),((0:Int),(z1.2.2.1.1,z1.2.2.1.2.1,z1.2.2.1.2.2.1,z1.2.2.1.2.2.2.1,z1.2.2.1.2.2.2.2.2.1,z1.2.2.1.2.2.2.2.2.2.1,z1.2.2.1.2.2.2.2.2.2.2.1,z1.2.2.1.2.2.2.2.2.2.2.2.1,z1.2.2.1.2.2.2.2.2.2.2.2.2).2.2.2.2.1),big)) fun z1 =>
 .br
 (.ob (.ob (.obT (.ob (.ob (.obT (.ob (.ob (.ob (.obC _ (jvI (za (val (y7 u5 (py4 u7 u5 u6 l u47 z1.2.2.1).1)) z1.2.2.2.1.1.toNat []) (↑(ze (val (y7 u5 (py4 u7 u5 u6 l u47 z1.2.2.1).1))):Int) (val (y7 u5 (py4 u7 u5 u6 l u47 z1.2.2.1).1)) ((py4 u7 u5 u6 l u47 z1.2.2.1).2.2) ((py4 u7 u5 u6 l u47 z1.2.2.1).2.1) ((py4 u7 u5 u6 l u47 z1.2.2.1).1) ((py3 u7 u5 u6 l z1.2.2.1).2.1) ((py3 u7 u5 u6 l z1.2.2.1).1) (z1.2.2.1.2.2.2.2.2.2.2.2) (z1.2.2.1.2.2.2.2.2.2.2.1) (z1.2.2.1.2.2.2.2.2.2.1) (u57) (u56) (z1.2.2.1.2.2.2.2.2.1) (u5) (z1.2.2.1.2.2.2.1) (u7) (z1.2.2.1.2.2.1) (z1.2.2.2.1.1) (z1.2.2.2.1.2) (u47) (z1.2.2.1.1) (u6) (in_) (l)) (.next)))))))))))
 (.exit (.call (.call (.next))))))))))) (fun _=>⟨rfl,trivial⟩))
 (.exit (.obT (.obT (.rc))))
def joc (u7:ByteArray) (u5:List (List NC)) (u6:List Int) (in_:List (List (List Nat))) (l:List (List Int)) (u56:ByteArray) (u57:List (List NC)) (u47:List Int) (r:List (List (List Nat)) × Int):Sk (top r) (y28 u7 u5 u6 in_ l u47) :=
 .call (.ob (.call (.br
 (.ob (.ob (jl9 u7 u5 u6 in_ l u56 u57 u47 r)))
 (jma u7 u5 u6 in_ l u56 u57 u47 r))))
def jmb (u7:ByteArray) (u5:List (List NC)) (u6:List Int) (in_:List (List (List Nat))) (l:List (List Int)) (u56:ByteArray) (u57:List (List NC)) (u47:List Int) (r:List (List (List Nat)) × Int) (h:zb (y28 u7 u5 u6 in_ l u47) some=some r):runA 11 [0,1,2,3,10,11,12,18,19,20,34,35,64,65,66] [0,1,2,3,10,11,12,18,34,35,64,65,66] [0,1,2,3] Tryz.f117 ((sp_99 (sp_120 (sp_94 (sp_102 (sp_104 (sp_105 (sp_106 (sp_118 sp0))))))))) (fun gs id st=>match id with
 |0=>some ⟨(Int × Int × Int × List (List (List Nat)) × Int × List (List Nat) × List (List (List Int))) × Nat,fun z=>⟨[(0,.w (.c (.p 2 0 1 0))),(1,.w (.c (.o 3))),(2,.w (.c (.o 4))),(3,.w (.c (.fn 118 [8]))),(10,.w (.c (.o 9))),(11,.w (.c (.d (.i .i64 z.1.1)))),(12,.w (.c (.p 10 0 1 0))),(34,.w (.c (.d (.i .i64 z.1.2.1)))),(35,.w (.c (.d (.i .i64 z.1.2.2.1))))],[(2,.ebox [.d (.s u7),.o 0,.o 1]),(3,.xext (XC.bb .f32 (32:Nat) in_)),(4,.ext (.recs 2 l)),(8,.ebox [.p 7 0 1 0]),(9,.mrow 79 [(110:Nat)] (XC.bb .f32 (32:Nat) z.1.2.2.2.1) none),(10,.box 78 [.d (.i .i64 z.1.2.2.2.2.1),.o 11,.o 12]),(0,.xext (XC.st zS u5)),(1,.ext (.ints .i64 u6)),(7,.ebox [.d (.s u56),.o 5,.o 6]),(11,.xrow 157 (XC.ff .f32 z.1.2.2.2.2.2.1)),(12,.xrow 158 (XC.rr (4:Nat) z.1.2.2.2.2.2.2)),(5,.xext (XC.st zS u57)),(6,.ext (.ints .i64 u47))],13⟩,fun z=>(jy8 u7 u5 u6 in_ l u56 u57 u47 r).inv z,fun z=>z.2⟩
 |2=>some ⟨(Int × Int × Int × List (List (List Nat)) × Int × List (List Nat) × List (List (List Int))) × Nat × (Int × Int × Int × Int × Int × List (List (List Nat)) × Int × List (List Nat) × List (List Nat) × List (List (List Int))) × Nat,fun z=>⟨[(0,.w (.c (.p 2 0 1 0))),(1,.w (.c (.o 3))),(2,.w (.c (.o 4))),(3,.w (.c (.fn 118 [8]))),(10,.w (.c (.o 9))),(11,.w (.c (.d (.i .i64 z.2.2.1.1)))),(12,.w (.c (.p 10 0 1 0))),(14,.w (.c (.d (.i .i64 z.2.2.1.2.1)))),(15,.w (.c (.o 11))),(34,.w (.c (.d (.i .i64 z.2.2.1.2.2.1)))),(35,.w (.c (.d (.i .i64 z.2.2.1.2.2.2.1)))),(38,.w (.c (.o 3))),(39,.w (.c (.d (.i .i64 ((↑in_.length:Int)))))),(40,.w (.c (.d (.i .i64 z.2.2.1.2.2.2.2.1))))],[(2,.ebox [.d (.s u7),.o 0,.o 1]),(3,.xext (XC.bb .f32 (32:Nat) in_)),(4,.ext (.recs 2 l)),(8,.ebox [.p 7 0 1 0]),(9,.mrow 79 [(110:Nat)] (XC.bb .f32 (32:Nat) z.2.2.1.2.2.2.2.2.1) none),(10,.box 78 [.d (.i .i64 z.2.2.1.2.2.2.2.2.2.1),.o 12,.o 13]),(11,.row 110 (.frs .f32 32 z.2.2.1.2.2.2.2.2.2.2.1)),(0,.xext (XC.st zS u5)),(1,.ext (.ints .i64 u6)),(7,.ebox [.d (.s u56),.o 5,.o 6]),(12,.xrow 157 (XC.ff .f32 z.2.2.1.2.2.2.2.2.2.2.2.1)),(13,.xrow 158 (XC.rr (4:Nat) z.2.2.1.2.2.2.2.2.2.2.2.2)),(5,.xext (XC.st zS u57)),(6,.ext (.ints .i64 u47))],14⟩,fun z=>(y197 u7 u5 u6 in_ l u56 u57 u47 r (gs.getD 0 0)).inv z,fun z=>z.2.2.2⟩
 |4=>some ⟨(Int × Int × Int × List (List (List Nat)) × Int × List (List Nat) × List (List (List Int))) × Nat × (Int × Int × Int × Int × List (List (List Nat)) × Int × List (List Nat) × List (List Nat) × List (List (List Int))) × (Int × List (List (List Nat))) × Nat,fun z=>⟨[(0,.w (.c (.p 2 0 1 0))),(1,.w (.c (.o 3))),(2,.w (.c (.o 4))),(3,.w (.c (.fn 118 [8]))),(10,.w (.c (.o 9))),(11,.w (.c (.d (.i .i64 (z.2.2.1.1))))),(12,.w (.c (.p 10 0 1 0))),(18,.w (.c (.p 11 0 1 0))),(34,.w (.c (.d (.i .i64 (z.2.2.1.2.2.1))))),(35,.w (.c (.d (.i .i64 (z.2.2.1.2.2.2.1))))),(64,.w (.c (.o 12))),(65,.w (.c (.d (.i .i64 ((↑(ze (val (y7 u5 (py4 u7 u5 u6 l u47 z.2.2.1).1))):Int)))))),(66,.w (.c (.d (.i .i64 z.2.2.2.1.1))))],[(2,.ebox [.d (.s u7),.o 0,.o 1]),(3,.xext (XC.bb .f32 (32:Nat) in_)),(4,.ext (.recs 2 l)),(8,.ebox [.p 7 0 1 0]),(9,.mrow 79 [(110:Nat)] (XC.bb .f32 (32:Nat) z.2.2.2.1.2) none),(10,.box 78 [.d (.i .i64 (z.2.2.1.2.2.2.2.2.1)),.o 13,.o 14]),(11,.box 205 [.p 2 0 1 0,.d (.i .i64 ((py3 u7 u5 u6 l z.2.2.1).1)),.o 13,.o 14,.o 15,.o 16,.o 17,.o 18,.o 19]),(12,.row 110 (.frs .f32 32 (val (y7 u5 (py4 u7 u5 u6 l u47 z.2.2.1).1)))),(0,.xext (XC.st zS u5)),(1,.ext (.ints .i64 u6)),(7,.ebox [.d (.s u56),.o 5,.o 6]),(13,.xrow 157 (XC.ff .f32 z.2.2.1.2.2.2.2.2.2.2.1)),(14,.xrow 158 (XC.rr (4:Nat) z.2.2.1.2.2.2.2.2.2.2.2)),(15,.row 110 (.frs .f32 32 (z.2.2.1.2.2.2.2.2.2.1))),(16,.row 3 (.ints .i64 ((py3 u7 u5 u6 l z.2.2.1).2.1))),(17,.row 110 (.frs .f32 32 ((py4 u7 u5 u6 l u47 z.2.2.1).1))),(18,.xrow 158 (XC.rr (4:Nat) (py4 u7 u5 u6 l u47 z.2.2.1).2.1)),(19,.row 3 (.ints .i64 ((py4 u7 u5 u6 l u47 z.2.2.1).2.2))),(5,.xext (XC.st zS u57)),(6,.ext (.ints .i64 u47))],20⟩,fun z=>(y198 u7 u5 u6 in_ l u56 u57 u47 r (gs.getD 0 0)).inv z,fun z=>z.2.2.2.2⟩
 |_=>none) (jaC y225 [.d (.s u7),.x (.st zS u5),.r (.ints .i64 u6),.x (.bb .f32 32 in_),.r (.recs 2 l),.d (.s u56),.x (.st zS u57),.r (.ints .i64 u47)]) [.c (.m 79 [(110:Nat)] (.bb .f32 32 r.1)),.c (.d (.i .i64 r.2))] :=
 Sk.vc (joc u7 u5 u6 in_ l u56 u57 u47 r) (by kernel_rfl) h
def jmc:jaf Tryz.prog 117 true (jah y225 y226):=by
 refine jvu (drawn:=fun n0=>jsy Tryz.prog (sp_99 (sp_120 (sp_94 (sp_102 (sp_104 (sp_105 (sp_106 (sp_118 sp0)))))))) 91 n0 11 [0,1,2,3,10,11,12,18,19,20,34,35,64,65,66] [0,1,2,3,10,11,12,18,34,35,64,65,66] [0,1,2,3]) (fun B n0 I w=>jys jHL mixed (sp_99_ok (sp_120_ok (sp_94_ok (sp_102_ok (sp_104_ok (sp_105_ok (sp_106_ok (sp_118_ok jaj)))))))) 11 [0,1,2,3,10,11,12,18,19,20,34,35,64,65,66] [0,1,2,3,10,11,12,18,34,35,64,65,66] [0,1,2,3]) (sp:=(sp_99 (sp_120 (sp_94 (sp_102 (sp_104 (sp_105 (sp_106 (sp_118 sp0))))))))) (fn:=Tryz.f117) (body:=bodyOf Tryz.f117) (sp_99_ok (sp_120_ok (sp_94_ok (sp_102_ok (sp_104_ok (sp_105_ok (sp_106_ok (sp_118_ok jaj)))))))) Tryz.func117 (by kernel_rfl) (by kernel_rfl) fun ls t h ho b hb=>?_;unfold y226 at h;split at h
 ·rename_i u7 u5 u6 in_ l u56 u57 u47;cases h;obtain rfl:=jap hb;exact⟨zh (by kernel_rfl),_,_,jmb u7 u5 u6 in_ l u56 u57 u47 _ (jai ho)⟩
 ·cases h
def sp_117_118_ok {sp:jaa} (h:jab Tryz.prog sp):jab Tryz.prog (sp_117_118 sp):=jag jmc h
attribute [irreducible] y28
end Go.Sh
end

section
namespace Go.Sh
open Go Go.Proofs Go.RowKit Go.Sx
abbrev sp_117:jaa->jaa:=sp_117_118
def sp_117_ok {sp:jaa} (h:jab Tryz.prog sp):jab Tryz.prog (sp_117 sp):=sp_117_118_ok h
def juP:List SV:=[.a [.d,.x (.st zS [])],.c (.x (.bb .f32 32 [])),.c (.r (.recs 2 []))]
def jcv (u3:ByteArray) (u1:List (List NC)) (in_:List (List (List Nat))) (l:List (List Int)):Option (List (List (List Nat)) × Int × Int) :=
 if(jih u3 u1)=true then
  zb (jct u3 u1) fun r0 =>
  some (([],0,nzI r0))
 else
  zb (jas u3 u1) fun r1 =>
  zb (y33 u3 u1 r1 in_ l) fun r2 =>
  if(r2 != 0)=true then
  some (([],0,r2))
  else
  zb (y28 u3 u1 r1 in_ l r1) fun r3 =>
  some ((r3.1,r3.2,0))
def juQ:List Lf->Option GT
 |[.d (.s u3),.x (.st [.s,.i .i64,.ints .i64,.ints .i64,.ints .i64,.i .i64,.recs 5,.i .i64] u1),.x (.bb .f32 32 in_),.r (.recs 2 l)]=>some (.leaf (ok (jcv u3 u1 in_ l)) [.c (.m 79 [(110:Nat)] (.bb .f32 32 ((val (jcv u3 u1 in_ l)).1))),.c (.d (.i .i64 ((val (jcv u3 u1 in_ l)).2.1))),.c (.d (.i .i64 ((val (jcv u3 u1 in_ l)).2.2)))])
 |_=>none
abbrev sp_63:jaa->jaa:=jan 63 true (jah juP juQ)
def jIp (u3:ByteArray) (u1:List (List NC)) (in_:List (List (List Nat))) (l:List (List Int)) (r:List (List (List Nat)) × Int × Int):Sk (top r) (jcv u3 u1 in_ l) :=
 .brB
 (.call (.obT (.obT (.obT (.ret (fun r=>(Ob (ze r.1=(0:Nat)) ∧
 (Ob ((0:Int)=r.2.1) ∧
 (Ob (nzI (val (jct u3 u1))=r.2.2) ∧
 True)))) ⟨⟨rfl⟩,⟨⟨rfl⟩,⟨⟨rfl⟩,trivial⟩⟩⟩)))))
 (.call (.call (.brB
 (.obT (.obT (.obT (.ret (fun r=>(Ob (ze r.1=(0:Nat)) ∧
 (Ob ((0:Int)=r.2.1) ∧
 (Ob (val (y33 u3 u1 (val (jas u3 u1)) in_ l)=r.2.2) ∧
 True)))) ⟨⟨rfl⟩,⟨⟨rfl⟩,⟨⟨rfl⟩,trivial⟩⟩⟩))))
 (.call (.obT (.obT (.obT (.rc))))))))
def jHa (u3:ByteArray) (u1:List (List NC)) (in_:List (List (List Nat))) (l:List (List Int)) (r:List (List (List Nat)) × Int × Int) (h:zb (jcv u3 u1 in_ l) some=some r):jaG Tryz.f63 ((sp_80 (sp_116 (sp_118 (sp_117 sp0))))) (fun _ _ _=>none) (jaC juP [.d (.s u3),.x (.st zS u1),.x (.bb .f32 32 in_),.r (.recs 2 l)]) [.c (.m 79 [(110:Nat)] (.bb .f32 32 r.1)),.c (.d (.i .i64 r.2.1)),.c (.d (.i .i64 r.2.2))] :=
 Sk.vc (jIp u3 u1 in_ l r) (by kernel_rfl) h
def jHb:jaf Tryz.prog 63 true (jah juP juQ):=by
 refine jal (sp:=(sp_80 (sp_116 (sp_118 (sp_117 sp0))))) (fn:=Tryz.f63) (body:=bodyOf Tryz.f63) mixed (sp_80_ok (sp_116_ok (sp_118_ok (sp_117_ok jaj)))) Tryz.func63 (by kernel_rfl) (by kernel_rfl) fun ls t h ho b hb=>?_;unfold juQ at h;split at h
 ·rename_i u3 u1 in_ l;cases h;obtain rfl:=jap hb;exact⟨zh (by kernel_rfl),_,_,jHa u3 u1 in_ l _ (jai ho)⟩
 ·cases h
def sp_63_ok {sp:jaa} (h:jab Tryz.prog sp):jab Tryz.prog (sp_63 sp):=jag jHb h
open Go.IntKind (wrap)
def jlv:List SV:=[.a [.r (.ints .i64 []),.d],.c (.d),.c (.d)]
def jjt (u85:List Int) (u86 i by_:Int):Option (List Int × Int) :=
 zb (jaT u85) fun r0 =>
 if(ze r0+ze [i])*8<=140737488355328∧ze r0+ze [i]<=9223372036854775807 then
  some ((r0++[i],wrap .i64 (u86+by_)))
 else none
def jlw:List Lf->Option GT
 |[.r (.ints .i64 u85),.d (.i .i64 u86),.d (.i .i64 i),.d (.i .i64 by_)]=>some (.leaf (ok (jjt u85 u86 i by_)) [.s [.row 3 (.ints .i64 ((val (jjt u85 u86 i by_)).1)),.d (.i .i64 ((val (jjt u85 u86 i by_)).2))]])
 |_=>none
abbrev sp_133:jaa->jaa:=jan 133 true (jah jlv jlw)
def jCU (u85:List Int) (u86 i by_:Int) (r:List Int × Int):Sk (top r) (jjt u85 u86 i by_) :=
 .call (.ob (.obT (.rc)))
def jAl (u85:List Int) (u86 i by_:Int) (r:List Int × Int) (h:zb (jjt u85 u86 i by_) some=some r):jaG Tryz.f133 ((sp_136 sp0)) (fun _ _ _=>none) (jaC jlv [.r (.ints .i64 u85),.d (.i .i64 u86),.d (.i .i64 i),.d (.i .i64 by_)]) [.s [.row 3 (.ints .i64 r.1),.d (.i .i64 r.2)]] :=
 Sk.vc (jCU u85 u86 i by_ r) (by kernel_rfl) h
def jAm:jaf Tryz.prog 133 true (jah jlv jlw):=by
 refine jal (sp:=(sp_136 sp0)) (fn:=Tryz.f133) (body:=bodyOf Tryz.f133) mixed (sp_136_ok jaj) Tryz.func133 (by kernel_rfl) (by kernel_rfl) fun ls t h ho b hb=>?_;unfold jlw at h;split at h
 ·rename_i u85 u86 i by_;cases h;obtain rfl:=jap hb;exact⟨zh (by kernel_rfl),_,_,jAl u85 u86 i by_ _ (jai ho)⟩
 ·cases h
def sp_133_ok {sp:jaa} (h:jab Tryz.prog sp):jab Tryz.prog (sp_133 sp):=jag jAm h
end Go.Sh
end

section
namespace Go.Sh
open Go Go.Proofs Go.RowKit Go.Sx
open Go.IntKind (wrap)
def jff:List SV:=[.c (.p [.d,.x (.st zS []),.r (.ints .i64 [])])]
def y292 (u5:List (List NC)) (u6:List Int) (x0:Int × List (List NC)) (x1:(Int × List (List NC))):Option ((Int × List (List NC)) ⊕ ((Int × Int × List Int × List Int) ⊕ (List (List NC)))) :=
 if x1.1<(↑(ze (nL u5 (zg (za u6 x0.1.toNat (0:Int))) (2:Nat))):Int)then
  if 0<=x1.1∧x1.1<(↑(ze (nL u5 (zg (za u6 x0.1.toNat (0:Int))) (2:Nat))):Int)then
  if zg x1.1<ze (nL u5 (zg (za u6 x0.1.toNat (0:Int))) (2:Nat))then
   if 0<=za (nL u5 (zg (za u6 x0.1.toNat (0:Int))) (2:Nat)) x1.1.toNat (0:Int)∧za (nL u5 (zg (za u6 x0.1.toNat (0:Int))) (2:Nat)) x1.1.toNat 0<(↑x1.2.length:Int)then
   if zg (za (nL u5 (zg (za u6 x0.1.toNat (0:Int))) (2:Nat)) x1.1.toNat (0:Int))<ze x1.2 then
    if 0<=x1.1∧x1.1<(↑(ze (nL u5 (zg (za u6 x0.1.toNat (0:Int))) (3:Nat))):Int)then
    if zg x1.1<ze (nL u5 (zg (za u6 x0.1.toNat (0:Int))) (3:Nat))then
     zb (jjt (nL x1.2 (zg (za (nL u5 (zg (za u6 x0.1.toNat (0:Int))) (2:Nat)) x1.1.toNat (0:Int))) (0:Nat)) (nI x1.2 (zg (za (nL u5 (zg (za u6 x0.1.toNat (0:Int))) (2:Nat)) x1.1.toNat (0:Int))) (1:Nat)) (za u6 x0.1.toNat (0:Int)) (wrap .i64 (za (nL u5 (zg (za u6 x0.1.toNat (0:Int))) (3:Nat)) x1.1.toNat 0+nI u5 (zg (za u6 x0.1.toNat (0:Int))) (5:Nat)))) fun r0 =>
     if(x1.1==0)=true then
     if 0<=za u6 x0.1.toNat (0:Int)∧za u6 x0.1.toNat 0<(↑x1.2.length:Int)then
      if zg (za u6 x0.1.toNat (0:Int))<ze x1.2 then
      some (.inl ((wrap .i64 (x1.1+1),qw x1.2 (zg (za u6 x0.1.toNat (0:Int))) [NC.r (Cont.ints .i64 r0.1),NC.d (D.i .i64 r0.2)])))
      else none
     else none
     else
     if 0<=za u6 x0.1.toNat (0:Int)∧za u6 x0.1.toNat 0<(↑x1.2.length:Int)then
      if zg (za u6 x0.1.toNat (0:Int))<ze x1.2 then
      if(r0.2 != nI x1.2 (zg (za u6 x0.1.toNat (0:Int))) (1:Nat))=true then
       if 0<=za u6 x0.1.toNat (0:Int)∧za u6 x0.1.toNat 0<(↑x1.2.length:Int)then
       if zg (za u6 x0.1.toNat (0:Int))<ze x1.2 then
        some (.inr ((.inl ((nI x1.2 (zg (za u6 x0.1.toNat (0:Int))) (1:Nat),r0.2,nL x1.2 (zg (za u6 x0.1.toNat (0:Int))) (0:Nat),r0.1)))))
       else none
       else none
      else
       some (.inl ((wrap .i64 (x1.1+1),x1.2)))
      else none
     else none
    else none
    else none
   else none
   else none
  else none
  else none
 else
  some (.inr (.inr x1.2))
def jo9 (x0:Int × List (List NC)) (u26:Int × Int × List Int × List Int):Option ((Int × List (List NC)) ⊕ ((Int × Int × List Int × List Int) ⊕ (List (List NC)))) :=
 some (.inr ((.inl ((u26.1,u26.2.1,u26.2.2.1,u26.2.2.2)))))
def jpa (x0:Int × List (List NC)) (u33:List (List NC)):Option ((Int × List (List NC)) ⊕ ((Int × Int × List Int × List Int) ⊕ (List (List NC)))) :=
 some (.inl ((wrap .i64 (x0.1+1),u33)))
def y293 (x0:Int × List (List NC)):((Int × Int × List Int × List Int) ⊕ (List (List NC)))->Option ((Int × List (List NC)) ⊕ ((Int × Int × List Int × List Int) ⊕ (List (List NC)))) :=
 (qC (jo9 x0) (jpa x0))
def y294 (u5:List (List NC)) (u6:List Int) (x0:(Int × List (List NC))):Option ((Int × List (List NC)) ⊕ ((Int × Int × List Int × List Int) ⊕ (List (List NC)))) :=
 if x0.1<(↑u6.length:Int)then
  if 0<=x0.1∧x0.1<(↑u6.length:Int)then
  if zg x0.1<ze u6 then
   if 0<=za u6 x0.1.toNat (0:Int)∧za u6 x0.1.toNat 0<(↑u5.length:Int)then
   if zg (za u6 x0.1.toNat (0:Int))<ze u5 then
    if((↑(ze (nL u5 (zg (za u6 x0.1.toNat (0:Int))) (2:Nat))):Int)==0)=true then
    if 0<=za u6 x0.1.toNat (0:Int)∧za u6 x0.1.toNat 0<(↑x0.2.length:Int)then
     if zg (za u6 x0.1.toNat (0:Int))<ze x0.2 then
     zb (jae (y292 u5 u6 x0) big (((0:Int),qw x0.2 (zg (za u6 x0.1.toNat (0:Int))) [NC.r (Cont.ints .i64 [za u6 x0.1.toNat (0:Int)]),NC.d (D.i .i64 0)]))) (y293 x0)
     else none
    else none
    else
    zb (jae (y292 u5 u6 x0) big (((0:Int),x0.2))) (y293 x0)
   else none
   else none
  else none
  else none
 else
  some (.inr (.inr x0.2))
def jpb (u4:Int × Int × List Int × List Int):Option (List (List NC) × List Int × Int × List Int × Int × Bool) :=
 some ([],u4.2.2.1,u4.1,u4.2.2.2,u4.2.1,true)
def jpc (u9:List (List NC)):Option (List (List NC) × List Int × Int × List Int × Int × Bool) :=
 some ((u9,[],0,[],0,false))
def y295:((Int × Int × List Int × List Int) ⊕ (List (List NC)))->Option (List (List NC) × List Int × Int × List Int × Int × Bool) :=
 (qC (jpb) (jpc))
def y12 (u7:ByteArray) (u5:List (List NC)) (u6:List Int):Option (List (List NC) × List Int × Int × List Int × Int × Bool) :=
 if 0<=(↑u5.length:Int)∧(↑u5.length:Int)=(↑u5.length:Int)∧(↑(32:Nat):Int)*(↑u5.length:Int)<=281474976710656∧(↑u5.length:Int)<=9223372036854775807 then
  zb (jae (y294 u5 u6) big (((0:Int),zf (zg (↑u5.length:Int)) [NC.r (Cont.ints .i64 []),NC.d (D.i .i64 0)]))) (y295)
 else none
def jfg:List Lf->Option GT
 |[.d (.s u7),.x (.st [.s,.i .i64,.ints .i64,.ints .i64,.ints .i64,.i .i64,.recs 5,.i .i64] u5),.r (.ints .i64 u6)]=>some (.leaf (ok (y12 u7 u5 u6)) [.c (.x 140 (.st ([NK.ints .i64,NK.i .i64]) ((val (y12 u7 u5 u6)).1))),.s [.fe (.ints .i64 ((val (y12 u7 u5 u6)).2.1)),.d (.i .i64 ((val (y12 u7 u5 u6)).2.2.1)),.row 3 (.ints .i64 ((val (y12 u7 u5 u6)).2.2.2.1)),.d (.i .i64 ((val (y12 u7 u5 u6)).2.2.2.2.1))],.c (.d (.b ((val (y12 u7 u5 u6)).2.2.2.2.2)))])
 |_=>none
abbrev sp_88:jaa->jaa:=jan 88 true (jah jff jfg)
abbrev y296 (u7:ByteArray) (u5:List (List NC)) (u6:List Int) (r:List (List NC) × List Int × Int × List Int × Int × Bool):Lp ((Int × List (List NC)) × Nat) ((Int × List (List NC))) (((Int × Int × List Int × List Int) ⊕ (List (List NC)))) ((List (List NC) × List Int × Int × List Int × Int × Bool)) (List (List NC) × List Int × Int × List Int × Int × Bool) :=
 ⟨fun z=>z.1,fun z=>z.2,fun z x n=>(x,n),fun z=>y294 u5 u6,fun z=>y295,fun z=>top r,fun z=>0,[.c fun _=>0,.c fun _=>0,.c fun _=>(↑u6.length:Int),.c fun vv=>vv.1.1,.c fun _=>u7,.c fun vv=>vv.1.2,.c fun _=>qd none (0:Nat) (0:Nat),.c fun _=>(0:Int),.c fun _=>qd none (0:Nat) (0:Nat),.c fun _=>(0:Int),.c fun _=>u6,.c fun _=>u5]⟩
abbrev y297 (u7:ByteArray) (u5:List (List NC)) (u6:List Int) (r:List (List NC) × List Int × Int × List Int × Int × Bool) (m1:Nat):Lp ((Int × List (List NC)) × Nat × (Int × List (List NC)) × Nat) ((Int × List (List NC))) (((Int × Int × List Int × List Int) ⊕ (List (List NC)))) (((Int × List (List NC)) ⊕ ((Int × Int × List Int × List Int) ⊕ (List (List NC))))) (List (List NC) × List Int × Int × List Int × Int × Bool) :=
 ⟨fun z=>z.2.2.1,fun z=>z.2.2.2,fun z x n=>(z.1,z.2.1,x,n),fun z=>y292 u5 u6 z.1,fun z=>y293 z.1,fun z=>(y296 u7 u5 u6 r).cx (z.1,m1),fun z=>z.2.1,[.c fun _=>0,.c fun _=>0,.c fun vv=>za u6 vv.1.1.toNat (0:Int),.c fun _=>0,.c fun _=>(↑u6.length:Int),.c fun vv=>vv.1.1,.c fun vv=>(↑(ze (nL u5 (zg (za u6 vv.1.1.toNat (0:Int))) (2:Nat))):Int),.c fun vv=>vv.2.2.1.1,.c fun _=>u7,.c fun vv=>vv.2.2.1.2,.c fun _=>qd none (0:Nat) (0:Nat),.c fun _=>(0:Int),.c fun _=>qd none (0:Nat) (0:Nat),.c fun _=>(0:Int),.c fun vv=>nS u5 (zg (za u6 vv.1.1.toNat (0:Int))) (0:Nat),.c fun vv=>nI u5 (zg (za u6 vv.1.1.toNat (0:Int))) (1:Nat),.c fun vv=>nI u5 (zg (za u6 vv.1.1.toNat (0:Int))) (5:Nat),.c fun vv=>nI u5 (zg (za u6 vv.1.1.toNat (0:Int))) (7:Nat),.c fun _=>u6,.c fun vv=>nL u5 (zg (za u6 vv.1.1.toNat (0:Int))) (2:Nat),.c fun _=>u5,.c fun vv=>nL u5 (zg (za u6 vv.1.1.toNat (0:Int))) (3:Nat),.c fun vv=>nL u5 (zg (za u6 vv.1.1.toNat (0:Int))) (4:Nat),.c fun vv=>nR u5 (zg (za u6 vv.1.1.toNat (0:Int))) (6:Nat)]⟩
def js2 (u7:ByteArray) (u5:List (List NC)) (u6:List Int) (r:List (List NC) × List Int × Int × List Int × Int × Bool):Sk (top r) (zb (jae (y294 u5 u6) big (((0:Int),zf (zg (↑u5.length:Int)) [NC.r (Cont.ints .i64 []),NC.d (D.i .i64 0)]))) (y295)) :=
 .loop (y296 u7 u5 u6 r) (fun kk=>(((0:Int),zf (zg (↑u5.length:Int)) [NC.r (Cont.ints .i64 []),NC.d (D.i .i64 0)]),big)) fun z0 =>
 .br
 (.ob (.ob (.obT (.ob (.ob (.brB
 (.ob (.ob (.loop (y297 u7 u5 u6 r z0.2) (fun kk=>(z0.1,kk,((0:Int),qw z0.1.2 (zg (za u6 z0.1.1.toNat (0:Int))) [NC.r (Cont.ints .i64 [za u6 z0.1.1.toNat (0:Int)]),NC.d (D.i .i64 0)]),big)) fun z1 =>
 .br
 (.ob (.ob (.ob (.ob (.ob (.ob (.call (.brB
 (.ob (.ob (.next)))
 (.ob (.ob (.brB
 (.ob (.ob (.exit (.exit (.obT (.obT (.obT (.ret (fun r=>(Ob (ze r.1=(0:Nat)) ∧
 (Ob (nL z1.2.2.1.2 (zg (za u6 z1.1.1.toNat (0:Int))) (0:Nat)=r.2.1) ∧
 (Ob (nI z1.2.2.1.2 (zg (za u6 z1.1.1.toNat (0:Int))) (1:Nat)=r.2.2.1) ∧
 (Ob ((val (jjt (nL z1.2.2.1.2 (zg (za (nL u5 (zg (za u6 z1.1.1.toNat (0:Int))) (2:Nat)) z1.2.2.1.1.toNat (0:Int))) (0:Nat)) (nI z1.2.2.1.2 (zg (za (nL u5 (zg (za u6 z1.1.1.toNat (0:Int))) (2:Nat)) z1.2.2.1.1.toNat (0:Int))) (1:Nat)) (za u6 z1.1.1.toNat (0:Int)) (wrap .i64 (za (nL u5 (zg (za u6 z1.1.1.toNat (0:Int))) (3:Nat)) z1.2.2.1.1.toNat 0+nI u5 (zg (za u6 z1.1.1.toNat (0:Int))) (5:Nat))))).1=r.2.2.2.1) ∧
 (Ob ((val (jjt (nL z1.2.2.1.2 (zg (za (nL u5 (zg (za u6 z1.1.1.toNat (0:Int))) (2:Nat)) z1.2.2.1.1.toNat (0:Int))) (0:Nat)) (nI z1.2.2.1.2 (zg (za (nL u5 (zg (za u6 z1.1.1.toNat (0:Int))) (2:Nat)) z1.2.2.1.1.toNat (0:Int))) (1:Nat)) (za u6 z1.1.1.toNat (0:Int)) (wrap .i64 (za (nL u5 (zg (za u6 z1.1.1.toNat (0:Int))) (3:Nat)) z1.2.2.1.1.toNat 0+nI u5 (zg (za u6 z1.1.1.toNat (0:Int))) (5:Nat))))).2=r.2.2.2.2.1) ∧
 (Ob (true=r.2.2.2.2.2) ∧
 True))))))) ⟨⟨rfl⟩,⟨⟨rfl⟩,⟨⟨rfl⟩,⟨⟨rfl⟩,⟨⟨rfl⟩,⟨⟨rfl⟩,trivial⟩⟩⟩⟩⟩⟩))))))))
 (.next))))))))))))
 (.exit (.next)))))
 (.loop (y297 u7 u5 u6 r z0.2) (fun kk=>(z0.1,kk,((0:Int),z0.1.2),big)) fun z1 =>
 .br
 (.ob (.ob (.ob (.ob (.ob (.ob (.call (.brB
 (.ob (.ob (.next)))
 (.ob (.ob (.brB
 (.ob (.ob (.exit (.exit (.obT (.obT (.obT (.ret (fun r=>(Ob (ze r.1=(0:Nat)) ∧
 (Ob (nL z1.2.2.1.2 (zg (za u6 z1.1.1.toNat (0:Int))) (0:Nat)=r.2.1) ∧
 (Ob (nI z1.2.2.1.2 (zg (za u6 z1.1.1.toNat (0:Int))) (1:Nat)=r.2.2.1) ∧
 (Ob ((val (jjt (nL z1.2.2.1.2 (zg (za (nL u5 (zg (za u6 z1.1.1.toNat (0:Int))) (2:Nat)) z1.2.2.1.1.toNat (0:Int))) (0:Nat)) (nI z1.2.2.1.2 (zg (za (nL u5 (zg (za u6 z1.1.1.toNat (0:Int))) (2:Nat)) z1.2.2.1.1.toNat (0:Int))) (1:Nat)) (za u6 z1.1.1.toNat (0:Int)) (wrap .i64 (za (nL u5 (zg (za u6 z1.1.1.toNat (0:Int))) (3:Nat)) z1.2.2.1.1.toNat 0+nI u5 (zg (za u6 z1.1.1.toNat (0:Int))) (5:Nat))))).1=r.2.2.2.1) ∧
 (Ob ((val (jjt (nL z1.2.2.1.2 (zg (za (nL u5 (zg (za u6 z1.1.1.toNat (0:Int))) (2:Nat)) z1.2.2.1.1.toNat (0:Int))) (0:Nat)) (nI z1.2.2.1.2 (zg (za (nL u5 (zg (za u6 z1.1.1.toNat (0:Int))) (2:Nat)) z1.2.2.1.1.toNat (0:Int))) (1:Nat)) (za u6 z1.1.1.toNat (0:Int)) (wrap .i64 (za (nL u5 (zg (za u6 z1.1.1.toNat (0:Int))) (3:Nat)) z1.2.2.1.1.toNat 0+nI u5 (zg (za u6 z1.1.1.toNat (0:Int))) (5:Nat))))).2=r.2.2.2.2.1) ∧
 (Ob (true=r.2.2.2.2.2) ∧
 True))))))) ⟨⟨rfl⟩,⟨⟨rfl⟩,⟨⟨rfl⟩,⟨⟨rfl⟩,⟨⟨rfl⟩,⟨⟨rfl⟩,trivial⟩⟩⟩⟩⟩⟩))))))))
 (.next))))))))))))
 (.exit (.next)))))))))
 (.exit (.obT (.obT (.obT (.ret (fun r=>(Ob (z0.1.2=r.1) ∧
 (Ob (ze r.2.1=(0:Nat)) ∧
 (Ob ((0:Int)=r.2.2.1) ∧
 (Ob (ze r.2.2.2.1=(0:Nat)) ∧
 (Ob ((0:Int)=r.2.2.2.2.1) ∧
 (Ob (false=r.2.2.2.2.2) ∧
 True))))))) ⟨⟨rfl⟩,⟨⟨rfl⟩,⟨⟨rfl⟩,⟨⟨rfl⟩,⟨⟨rfl⟩,⟨⟨rfl⟩,trivial⟩⟩⟩⟩⟩⟩)))))
def juR (u7:ByteArray) (u5:List (List NC)) (u6:List Int) (r:List (List NC) × List Int × Int × List Int × Int × Bool):Sk (top r) (y12 u7 u5 u6) :=
 .obT (.ob (.obT (js2 u7 u5 u6 r)))
def js3 (u7:ByteArray) (u5:List (List NC)) (u6:List Int) (r:List (List NC) × List Int × Int × List Int × Int × Bool) (h:zb (y12 u7 u5 u6) some=some r):jaG Tryz.f88 ((sp_133 sp0)) (fun gs id _=>match id with
 |0=>some ⟨(Int × List (List NC)) × Nat,fun z=>⟨[(0,.w (.c (.p 2 0 1 0))),(2,.w (.c (.o 3))),(3,.w (.c (.p 4 0 1 0))),(21,.w (.c (.o 1))),(22,.w (.c (.d (.i .i64 ((↑u6.length:Int)))))),(23,.w (.c (.d (.i .i64 z.1.1))))],[(2,.ebox [.d (.s u7),.o 0,.o 1]),(3,.xrow 140 (XC.st [NK.ints .i64,NK.i .i64] z.1.2)),(4,.box 141 [.d (.v (qd none (0:Nat) (0:Nat))),.d (.i .i64 0),.d (.v (qd none (0:Nat) (0:Nat))),.d (.i .i64 0)]),(1,.ext (.ints .i64 u6)),(0,.xext (XC.st zS u5))],5⟩,fun z=>(y296 u7 u5 u6 r).inv z,fun z=>z.2⟩
 |2=>some ⟨(Int × List (List NC)) × Nat × (Int × List (List NC)) × Nat,fun z=>⟨[(0,.w (.c (.p 2 0 1 0))),(2,.w (.c (.o 3))),(3,.w (.c (.p 4 0 1 0))),(6,.w (.c (.d (.i .i64 (za u6 z.1.1.toNat (0:Int)))))),(7,.w (.c (.p 5 0 1 0))),(21,.w (.c (.o 1))),(22,.w (.c (.d (.i .i64 ((↑u6.length:Int)))))),(23,.w (.c (.d (.i .i64 (z.1.1))))),(46,.w (.c (.o 6))),(47,.w (.c (.d (.i .i64 ((↑(ze (nL u5 (zg (za u6 z.1.1.toNat (0:Int))) (2:Nat))):Int)))))),(48,.w (.c (.d (.i .i64 z.2.2.1.1))))],[(2,.ebox [.d (.s u7),.o 0,.o 1]),(3,.xrow 140 (XC.st [NK.ints .i64,NK.i .i64] z.2.2.1.2)),(4,.box 141 [.d (.v (qd none (0:Nat) (0:Nat))),.d (.i .i64 0),.d (.v (qd none (0:Nat) (0:Nat))),.d (.i .i64 0)]),(5,.box 118 [.d (.s (nS u5 (zg (za u6 z.1.1.toNat (0:Int))) (0:Nat))),.d (.i .i64 (nI u5 (zg (za u6 z.1.1.toNat (0:Int))) (1:Nat))),.o 6,.o 7,.o 8,.d (.i .i64 (nI u5 (zg (za u6 z.1.1.toNat (0:Int))) (5:Nat))),.o 9,.d (.i .i64 (nI u5 (zg (za u6 z.1.1.toNat (0:Int))) (7:Nat)))]),(1,.ext (.ints .i64 u6)),(6,.ext (.ints .i64 (nL u5 (zg (za u6 z.1.1.toNat (0:Int))) (2:Nat)))),(0,.xext (XC.st zS u5)),(7,.ext (.ints .i64 (nL u5 (zg (za u6 z.1.1.toNat (0:Int))) (3:Nat)))),(8,.ext (.ints .i64 (nL u5 (zg (za u6 z.1.1.toNat (0:Int))) (4:Nat)))),(9,.ext (.recs 5 (nR u5 (zg (za u6 z.1.1.toNat (0:Int))) (6:Nat))))],10⟩,fun z=>(y297 u7 u5 u6 r (gs.getD 0 0)).inv z,fun z=>z.2.2.2⟩
 |_=>none) (jaC jff [.d (.s u7),.x (.st zS u5),.r (.ints .i64 u6)]) [.c (.x 140 (.st ([NK.ints .i64,NK.i .i64]) r.1)),.s [.fe (.ints .i64 r.2.1),.d (.i .i64 r.2.2.1),.row 3 (.ints .i64 r.2.2.2.1),.d (.i .i64 r.2.2.2.2.1)],.c (.d (.b r.2.2.2.2.2))] :=
 Sk.vc (juR u7 u5 u6 r) (by kernel_rfl) h
def js4:jaf Tryz.prog 88 true (jah jff jfg):=by
 refine jal (sp:=(sp_133 sp0)) (fn:=Tryz.f88) (body:=bodyOf Tryz.f88) mixed (sp_133_ok jaj) Tryz.func88 (by kernel_rfl) (by kernel_rfl) fun ls t h ho b hb=>?_;unfold jfg at h;split at h
 ·rename_i u7 u5 u6;cases h;obtain rfl:=jap hb;exact⟨zh (by kernel_rfl),_,_,js3 u7 u5 u6 _ (jai ho)⟩
 ·cases h
def sp_88_ok {sp:jaa} (h:jab Tryz.prog sp):jab Tryz.prog (sp_88 sp):=jag js4 h
end Go.Sh
end

section
namespace Go.Sh
open Go Go.Proofs Go.RowKit Go.Sx
open Go.IntKind (wrap)
def jgi:List SV:=[.a [.d,.x (.st zS [])]]
def jfh (r2:List (List NC) × List Int × Int × List Int × Int × Bool) (x0:(Int × List Int)):Option ((Int × List Int) ⊕ (List Int)) :=
 if x0.1<(↑r2.1.length:Int)then
  if 0<=x0.1∧x0.1<(↑r2.1.length:Int)then
  if zg x0.1<ze r2.1 then
   if(ze x0.2+ze [nI r2.1 x0.1.toNat (1:Nat)])*8<=140737488355328∧ze x0.2+ze [nI r2.1 x0.1.toNat (1:Nat)]<=9223372036854775807 then
   some (.inl ((wrap .i64 (x0.1+1),x0.2++[nI r2.1 x0.1.toNat (1:Nat)])))
   else none
  else none
  else none
 else
  some (.inr x0.2)
def jfi (u4:List Int):Option (List Int × Int) :=
 some ((u4,0))
def juS (u3:ByteArray) (u1:List (List NC)):Option (List Int × Int) :=
 if(jih u3 u1)=true then
  zb (jct u3 u1) fun r0 =>
  some ([],nzI r0)
 else
  zb (jas u3 u1) fun r1 =>
  zb (y12 u3 u1 r1) fun r2 =>
  if(r2.2.2.2.2.2)=true then
  some (([],13))
  else
  zb (jae (jfh r2) big (((0:Int),[]))) (jfi)
def jgj:List Lf->Option GT
 |[.d (.s u3),.x (.st [.s,.i .i64,.ints .i64,.ints .i64,.ints .i64,.i .i64,.recs 5,.i .i64] u1)]=>some (.leaf (ok (juS u3 u1)) [.c (.row 3 (.ints .i64 ((val (juS u3 u1)).1))),.c (.d (.i .i64 ((val (juS u3 u1)).2)))])
 |_=>none
abbrev sp_31:jaa->jaa:=jan 31 true (jah jgi jgj)
abbrev jki (u3:ByteArray) (u1:List (List NC)) (r:List Int × Int):Lp ((Int × List Int) × Nat) (Int × List Int) (List Int) (List Int × Int) (List Int × Int) :=
 ⟨fun z=>z.1,fun z=>z.2,fun z x n=>(x,n),fun z=>jfh (val (y12 u3 u1 (val (jas u3 u1)))),fun z=>jfi,fun z=>top r,fun z=>0,[.c fun _=>(↑(ze (val (y12 u3 u1 (val (jas u3 u1)))).1):Int),.c fun vv=>vv.1.1,.c fun vv=>vv.1.2,.c fun _=>(val (y12 u3 u1 (val (jas u3 u1)))).1]⟩
def juT (u3:ByteArray) (u1:List (List NC)) (r:List Int × Int):Sk (top r) (zb (jae (jfh (val (y12 u3 u1 (val (jas u3 u1))))) big (((0:Int),[]))) (jfi)) :=
 .loopQ (jki u3 u1 r) [.c fun _=>(↑(ze (val (y12 u3 u1 (val (jas u3 u1)))).1):Int),.c fun vv=>vv.1.1,.p fun vv=>ze vv.1.2=(0:Nat),.c fun _=>(val (y12 u3 u1 (val (jas u3 u1)))).1] (fun kk=>(((0:Int),[]),big)) (fun z0 =>
 .br
 (.ob (.ob (.ob (.next))))
 (.exit (.obT (.obT (.rc))))) (fun _=>⟨rfl,trivial⟩)
def jwH (u3:ByteArray) (u1:List (List NC)) (r:List Int × Int):Sk (top r) (juS u3 u1) :=
 .brB
 (.call (.obT (.obT (.ret (fun r=>(Ob (ze r.1=(0:Nat)) ∧
 (Ob (nzI (val (jct u3 u1))=r.2) ∧
 True))) ⟨⟨rfl⟩,⟨⟨rfl⟩,trivial⟩⟩))))
 (.call (.call (.brB
 (.obT (.obT (.ret (fun r=>(Ob (ze r.1=(0:Nat)) ∧
 (Ob ((13:Int)=r.2) ∧
 True))) ⟨⟨rfl⟩,⟨⟨rfl⟩,trivial⟩⟩)))
 (juT u3 u1 r))))
def juU (u3:ByteArray) (u1:List (List NC)) (r:List Int × Int) (h:zb (juS u3 u1) some=some r):jaG Tryz.f31 ((sp_80 (sp_88 sp0))) (fun gs id _=>match id with
 |0=>some ⟨(Int × List Int) × Nat,fun z=>⟨[(9,.w (.c (.o 1))),(27,.w (.c (.o 2))),(28,.w (.c (.d (.i .i64 ((↑(ze (val (y12 u3 u1 (val (jas u3 u1)))).1):Int)))))),(29,.w (.c (.d (.i .i64 z.1.1))))],[(1,.row 3 (.ints .i64 z.1.2)),(2,.xrow 140 (XC.st [NK.ints .i64,NK.i .i64] (val (y12 u3 u1 (val (jas u3 u1)))).1))],3⟩,fun z=>(jki u3 u1 r).inv z,fun z=>z.2⟩
 |_=>none) (jaC jgi [.d (.s u3),.x (.st zS u1)]) [.c (.row 3 (.ints .i64 r.1)),.c (.d (.i .i64 r.2))] :=
 Sk.vc (jwH u3 u1 r) (by kernel_rfl) h
def juV:jaf Tryz.prog 31 true (jah jgi jgj):=by
 refine jal (sp:=(sp_80 (sp_88 sp0))) (fn:=Tryz.f31) (body:=bodyOf Tryz.f31) mixed (sp_80_ok (sp_88_ok jaj)) Tryz.func31 (by kernel_rfl) (by kernel_rfl) fun ls t h ho b hb=>?_;unfold jgj at h;split at h
 ·rename_i u3 u1;cases h;obtain rfl:=jap hb;exact⟨zh (by kernel_rfl),_,_,juU u3 u1 _ (jai ho)⟩
 ·cases h
def sp_31_ok {sp:jaa} (h:jab Tryz.prog sp):jab Tryz.prog (sp_31 sp):=jag juV h
end Go.Sh
end

section
namespace Go.Sh
open Go Go.Proofs Go.RowKit Go.Sx
variable {g:List (List NC)} {l:List Int}
def jvJ {i:Nat} (h:jbm g i=0):jdX (nI g i 1) (nL g i 2).length (nL g i 3).length (nL g i 4).length=true∧jcu (nI g i 1) (nL g i 3) (nL g i 4) (nI g i 5)=true∧jhz (nL g i 2)=false∧inB (nI g i 1) 0 4=true:=by
 unfold jbm at h
 repeat' (split at h)
 all_goals first|omega|skip
 all_goals
  rename_i h1 h2 h3 h4 h5 h6 h7 h8 h9 h10;simp at *
 all_goals simp_all
def jIq {i:Nat} (h:jbm g i=0):(nL g i 3).length=(nL g i 2).length∧((nL g i 2).length=0<->nI g i 1=0):=by
 have h1:=(jvJ h).1;unfold jdX at h1;split at h1
 ·rename_i hk;simp only[inB,zm,decide_eq_true_eq,beq_iff_eq]at h1 hk;omega
 ·rename_i hk;split at h1
  all_goals
   simp only[inB,zm,decide_eq_true_eq,beq_iff_eq]at h1 hk;omega
def jJB {i:Nat} (h:jbm g i=0):(∀k,k<(nL g i 3).length->0<=(nL g i 3).getD k 0∧(nL g i 3).getD k 0<=64)∧0<=nI g i 5∧nI g i 5<=64:=by
 have h1:=(jvJ h).2.1;unfold jcu at h1;rw[zm,zm,zm]at h1;obtain⟨⟨⟨ha,_⟩,hd⟩,_⟩:=h1;simp only[inB,zm,decide_eq_true_eq]at hd;refine⟨fun k hk=>?_,hd⟩;rw[xt,xx]at ha;have:=ha ((nL g i 3).getD k 0) (by simp[za,hk])
 generalize (nL g i 3).getD k 0=c at *
 simp only[inB,jZ,Bool.not_eq_false',zm,decide_eq_true_eq]at this;exact this
inductive WayTo (g:List (List NC)):List Int->Int->Nat->Prop where
 |one {i:Nat} (hi:i<g.length) (h:nI g i 1=0):WayTo g [(i:Int)] 0 i
 |on {w:List Int} {n:Int} {u i k:Nat} (h:WayTo g w n u) (hi:i<g.length) (hk:k<(nL g i 2).length) (he:(nL g i 2).getD k 0=(u:Int)):WayTo g (w++[(i:Int)]) (n+((nL g i 3).getD k 0+nI g i 5)) i
def WayTo.bound (hall:∀i,i<g.length->jbm g i=0) {w:List Int} {n:Int} {i:Nat} (h:WayTo g w n i):0<=n∧n<=128*(w.length:Int)∧i<g.length∧1<=w.length:=by
 induction h with
 |one hi h=>simp;omega
 | @on w n u i k h hi hk he ih =>
  obtain⟨h1,h2,h3⟩:=jJB (hall i hi);have:=h1 k (by have:=(jIq (hall i hi)).1;omega);simp only[qh,zA,qi];omega
end Go.Sh
end

section
namespace Go.Sh
open Go Go.Proofs Go.RowKit Go.Sx
variable {g:List (List NC)} {l:List Int}
def jCV (h:Rg g l) {nm:ByteArray} (hs:nm.size<1000) (h0:(cg nm g).2=0):jb3 nm g=none∧jbH nm g=some (nm,l,0) :=
 ⟨by rw[jGw h.fw hs h0,h.ord],jGx h.fw hs h0 h.ord⟩
end Go.Sh
end

section
namespace Go.Sh
open Go Go.Proofs Go.RowKit Go.Sx Go.Sx06
variable {g:List (List NC)} {l:List Int}
def jCW {α:Type} (l:List α) (d:α):l=(zo l.length).map fun c=>l.getD c d:=by
 apply xH
 ·simp
 ·intro i h1 h2;simp only[List.getElem_map,List.getElem_range];rw[jaw h1]
def jdd (outs:List (List (List Nat))) (o:List (List Nat)):List (List (List Nat)):=(zo outs.length).map fun c=>outs.getD c []++[o.getD c []]
def jIr {outs:List (List (List Nat))} {o:List (List Nat)} (hl:o.length=outs.length) (hn:outs.length<1000) (hr:∀c,c<outs.length->(outs.getD c []).length<1000) :
  jae (y44 o) big (0,outs)=some (jdd outs o):=by
 have hrec:∀x:List (List Nat),NC.toFrs (qg [NC.r (Cont.frs FloatKind.f32 32 x)] (NC.d (D.v z3)))=x:=fun x=>rfl
 have e0:outs=(zo outs.length).map fun c=>if c<0 then outs.getD c []++[o.getD c []]else outs.getD c []:=by
  conv=>lhs;rw[jCW outs []]
  exact jbk fun x _=>by rw[if_neg (by omega)]
 have key:∀i,i<outs.length->y44 o ((i:Int),(zo outs.length).map fun c=>if c<i then outs.getD c []++[o.getD c []]else outs.getD c []) =
   some (.inl (((i+1:Nat):Int),(zo outs.length).map fun c=>if c<i+1 then outs.getD c []++[o.getD c []]else outs.getD c [])):=fun i hi=>by
  have hri:=hr i hi;unfold y44;simp only[hrec,zi];rw[jbS _ hi,if_neg (show ¬i<i by omega)];simp only[qk,yq,zA,qi];rw[if_pos (by omega),if_pos (by omega),if_pos (by omega),if_pos (by omega),if_pos hi,if_pos (by omega),if_pos (by omega),if_pos (by simpa using hi),jao (by omega),jnZ]
  have er:((zo outs.length).map fun x=>if x=i then outs.getD i []++[o.getD i []]else if x<i then outs.getD x []++[o.getD x []]else outs.getD x [])=(zo outs.length).map fun c=>if c<i+1 then outs.getD c []++[o.getD c []]else outs.getD c []:=jbk fun x hx=>by
   by_cases hxi:x=i
   ·subst hxi;rw[if_pos rfl,if_pos (by omega)]
   ·rw[if_neg hxi]
    by_cases hlt:x<i
    ·rw[if_pos hlt,if_pos (by omega)]
    ·rw[if_neg hlt,if_neg (by omega)]
  rw[er];rfl
 have hit:=jaJ (body:=y44 o) (fun i=>((i:Int),(zo outs.length).map fun c=>if c<i then outs.getD c []++[o.getD c []]else outs.getD c [])) (y:=jdd outs o) (k:=outs.length) key (by
  unfold y44;dsimp only;rw[if_neg (by omega)];unfold jdd;exact congrArg (fun x=>some (Sum.inr x)) (jbk fun x hx=>by rw[if_pos hx])) (by omega)
 have e1:((0:Int),outs)=(((0:Nat):Int),(zo outs.length).map fun c=>if c<0 then outs.getD c []++[o.getD c []]else outs.getD c []):=by rw[<-e0];rfl
 rw[e1];exact hit
def jIs (outs:List (List (List Nat))) (o:List (List Nat)):(jdd outs o).length=outs.length:=by simp[jdd]
def jIt {outs:List (List (List Nat))} {o:List (List Nat)} {c:Nat} (hc:c<outs.length):(jdd outs o).getD c []=outs.getD c []++[o.getD c []]:=jbS _ hc
def inK (t:List (List (List Nat))) (k:Nat):List (List Nat):=t.map fun r=>r.getD k []
def jy9 {t:List (List (List Nat))} (ht:TR g t) {k:Nat} (hk:k<(t.getD 0 []).length):BR g (inK t k):=by
 refine⟨by unfold inK;rw[qk];exact ht.len,fun c hc=>?_⟩;have hc:c<t.length:=by simpa [inK]using hc
 have e:(inK t k).getD c []=(t.getD c []).getD k []:=joD (fun r:List (List Nat)=>r.getD k []) [] hc;rw[e];exact ht.blk c k hc hk
def jJC {t:List (List (List Nat))} (ht:TR g t) (hn:t.length<1000) {k:Nat} (hk:k<(t.getD 0 []).length) (cuts n:Int) (outs:List (List (List Nat))) (b:Int) (P:List (List Nat)) (fs:List (List (List Int))) :
  jae (y23 t) big (cuts,(k:Int),n,(k:Int),0,outs,b,[],P,fs)=some (cuts,(k:Int),n,(k:Int),outs,b,inK t k,P,fs):=by
 have key:∀i,i<t.length->y23 t (cuts,(k:Int),n,(k:Int),(i:Int),outs,b,(t.take i).map fun r=>r.getD k [],P,fs)=some (.inl (cuts,(k:Int),n,(k:Int),((i+1:Nat):Int),outs,b,(t.take (i+1)).map fun r=>r.getD k [],P,fs)):=fun i hi=>by
  have hrow:=ht.row i hi;unfold y23;simp only[zi];rw[if_pos (by omega),if_pos (by omega),if_pos hi,if_pos (by omega),if_pos (by omega),if_pos (by simp only[qk,List.length_take,zA,qi];omega),jao (by omega),jdZ hi [],qQ];rfl
 have hlast:y23 t (cuts,(k:Int),n,(k:Int),(t.length:Int),outs,b,(t.take t.length).map fun r=>r.getD k [],P,fs)=some (.inr (cuts,(k:Int),n,(k:Int),outs,b,inK t k,P,fs)):=by
  unfold y23;dsimp only;rw[if_neg (by omega),List.take_length];rfl
 have hb:t.length<18446744073709551616:=by omega
 obtain⟨F,hF⟩:∃F:Nat->(Int × Int × Int × Int × Int × List (List (List Nat)) × Int × List (List Nat) × List (List Nat) × List (List (List Int))),F=fun(i:Nat)=>(cuts,(k:Int),n,(k:Int),(i:Int),outs,b,(t.take i).map fun r=>r.getD k [],P,fs):=⟨_,rfl⟩
 have key':∀i,i<t.length->y23 t (F i)=some (.inl (F (i+1))):=fun i hi=>by rw[hF];exact key i hi
 have hlast':y23 t (F t.length)=some (.inr (cuts,(k:Int),n,(k:Int),outs,b,inK t k,P,fs)):=by rw[hF];exact hlast
 have hit:=jaJ F key' hlast' hb;rw[hF]at hit;exact hit
def plI (g:List (List NC)) (l:List Int) (fbk:Nat->Nat->Bool) (t:List (List (List Nat))):Nat->List (List Nat) × List (List (List Int)) × List (List (List Nat)) × Int
 |0=>(P0 g.length,fs0 g,zf (jaD g 4).length [],0)
 |k+1 =>
  ((
   jbT g l (fbk k) (plI g l fbk t k).1 (plI g l fbk t k).2.1 (inK t k)).2.2.1,(jbT g l (fbk k) (plI g l fbk t k).1 (plI g l fbk t k).2.1 (inK t k)).2.2.2,
   jdd (plI g l fbk t k).2.2.1 (jbT g l (fbk k) (plI g l fbk t k).1 (plI g l fbk t k).2.1 (inK t k)).1,(plI g l fbk t k).2.2.2+(jbT g l (fbk k) (plI g l fbk t k).1 (plI g l fbk t k).2.1 (inK t k)).2.1)
def jwQ (h:Rg g l) (fbk:Nat->Nat->Bool) {t:List (List (List Nat))} (ht:TR g t):∀k,k<=(t.getD 0 []).length ->
  PR g.length (plI g l fbk t k).1∧FR g (plI g l fbk t k).2.1∧(plI g l fbk t k).2.2.1.length=(jaD g 4).length∧(∀c,c<(jaD g 4).length->((plI g l fbk t k).2.2.1.getD c []).length=k)∧0<=(plI g l fbk t k).2.2.2∧(plI g l fbk t k).2.2.2<=k*200000
 |0,_=>⟨P0_PR _,jJr g,by simp[plI],fun c hc=>by show((zf (jaD g 4).length []).getD c []).length=0;rw[jbJ hc];rfl,Int.le_refl 0,by simp[plI]⟩
 |k+1,hk=>by
  obtain⟨h1,h2,h3,h4,h5⟩:=jwQ h fbk ht k (by omega);obtain⟨r1,r2,r3,r4⟩:=jEB h (fbk k) h1 h2 (jy9 ht (k:=k) (by omega));refine⟨r1,r2,?_,fun c hc=>?_,?_⟩
  ·show(jdd _ _).length=_
   rw[jIs,h3]
  ·show((jdd _ _).getD c []).length=_
   rw[jIt (by omega),qh,h4 c hc];rfl
  ·unfold plI;dsimp only
   push_cast
   omega
def jIu (h:Rg g l) (nm:ByteArray) {t:List (List (List Nat))} (ht:TR g t) {f:List (List Int)} (hf:f.length<=24) (hz:∀i,i<f.length->jdv g.length f i=0) :
  y28 nm g l t f l=some ((plI g l (fun k=>jbn (jcC f (k:Int) g.length)) t (t.getD 0 []).length).2.2.1,(plI g l (fun k=>jbn (jcC f (k:Int) g.length)) t (t.getD 0 []).length).2.2.2):=by
 have hn:=h.n;have hkl:=je8 g 4 g.length;have hk4:(jaD g 4).length<1000:=by unfold jaD;omega
 have hkl0:=je8 g 0 g.length;have htl:t.length<1000:=by rw[ht.len];unfold jaD;omega
 have hsht:=ht.sht
 generalize hfb:(fun k:Nat=>jbn (jcC f (k:Int) g.length))=fbk
 have key:∀k,k<(t.getD 0 []).length->y24 nm g l t f l ((plI g l fbk t k).2.2.2,((t.getD 0 []).length:Int),(k:Int),(plI g l fbk t k).2.2.1,(k:Int),(plI g l fbk t k).1,(plI g l fbk t k).2.1) =
   some (.inl ((plI g l fbk t (k+1)).2.2.2,((t.getD 0 []).length:Int),((k+1:Nat):Int),(plI g l fbk t (k+1)).2.2.1,((k+1:Nat):Int),(plI g l fbk t (k+1)).1,(plI g l fbk t (k+1)).2.1)):=fun k hk=>by
  obtain⟨p1,p2,p3,p4,p5⟩:=jwQ h fbk ht k (by omega);have hB:=jy9 ht hk;obtain⟨r1,r2,r3,r4⟩:=jEB h (fbk k) p1 p2 hB
  have hs:plI g l fbk t (k+1)=((jbT g l (fbk k) (plI g l fbk t k).1 (plI g l fbk t k).2.1 (inK t k)).2.2.1,(jbT g l (fbk k) (plI g l fbk t k).1 (plI g l fbk t k).2.1 (inK t k)).2.2.2,
   jdd (plI g l fbk t k).2.2.1 (jbT g l (fbk k) (plI g l fbk t k).1 (plI g l fbk t k).2.1 (inK t k)).1,(plI g l fbk t k).2.2.2+(jbT g l (fbk k) (plI g l fbk t k).1 (plI g l fbk t k).2.1 (inK t k)).2.1):=rfl
  rw[hs]
  generalize (plI g l fbk t k).2.2.2=cuts at *
  generalize (plI g l fbk t k).2.2.1=outs at *
  generalize (plI g l fbk t k).2.1=fs at *
  generalize (plI g l fbk t k).1=P at *
  obtain⟨y,y1,y2,y3⟩:=jyS (g:=g) nm l f (k:Int) hn hf hz
  have hwho:jdD g (fun i=>y.getD i false)=jdD g (fbk k):=by
   rw[y3,<-hfb]
  have hw:=jsS h (fbk k);obtain⟨hR,_⟩:=jgR h p1 p2 hB hw g.length (zq _);unfold y24;dsimp only;rw[if_pos (by omega),jJC ht htl hk,jac];unfold y196;dsimp only;rw[y1,jac,jAi h nm _ y2,jac];dsimp only;rw[hwho,jIn h p1 p2 hB hw,jac];dsimp only;rw[jGM hR.gr hn,jac,jIr (o:=jgH g _) (by unfold jgH;rw[qk,p3]) (by omega) (fun c hc=>by rw[p4 c (by omega)];omega),jac];unfold y195;dsimp only;rw[jCS hn hR.cl hR.cr,jac,jEA p1 hR.gr hn,jac];have hc:=jiv hR.cr g.length (zq _);dsimp only;rw[jao (x:=cuts+_) (by omega),jao (by omega),show((k+1:Nat):Int)=(k:Int)+1 from rfl];rfl
 have hit:=jaJ (body:=y24 nm g l t f l) (fun k=>((plI g l fbk t k).2.2.2,((t.getD 0 []).length:Int),(k:Int),(plI g l fbk t k).2.2.1,(k:Int),(plI g l fbk t k).1,(plI g l fbk t k).2.1))
  (y:=((plI g l fbk t (t.getD 0 []).length).2.2.2,(plI g l fbk t (t.getD 0 []).length).2.2.1)) (k:=(t.getD 0 []).length) key (by
   unfold y24;dsimp only;rw[if_neg (by omega)]) (by omega)
 have e0:((plI g l fbk t 0).2.2.2,((t.getD 0 []).length:Int),((0:Nat):Int),(plI g l fbk t 0).2.2.1,((0:Nat):Int),(plI g l fbk t 0).1,(plI g l fbk t 0).2.1)=(0,((t.getD 0 []).length:Int),0,zf (jaD g 4).length [],0,P0 g.length,fs0 g):=rfl;rw[e0]at hit;have hrec:NC.toFrs (qg [NC.r (Cont.frs FloatKind.f32 32 [])] (NC.d (D.v z3)))=[]:=rfl;unfold y28;rw[jkb hn,jac,if_pos (by omega),jGN h,jac,hrec,zi];dsimp only
 by_cases c0:0<t.length
 ·rw[if_pos (by omega),if_pos (by omega),if_pos c0,hit];rfl
 ·have e1:t=[]:=z5 (by omega);subst e1;rw[if_neg (by simp)]
  change (jae _ big (0,((([]:List (List (List Nat))).getD 0 []).length:Int),0,zf (jaD g 4).length [],0,P0 g.length,fs0 g)).bind _=_
  rw[hit];rfl
def jBf (h:Rg g l) {nm:ByteArray} (hs:nm.size<1000) (h0:(cg nm g).2=0) {t:List (List (List Nat))} (htl:t.length<1000000000) (h32:T32 t) (f:List (List Int)) :
  jcv nm g t f=some (if teG (jaD g 0).length t≠0 then([],0,teG (jaD g 0).length t)else if(cf g.length f).2≠0 then([],0,(cf g.length f).2)else
   ((plI g l (fun k=>jbn (jcC f (k:Int) g.length)) t (t.getD 0 []).length).2.2.1,(plI g l (fun k=>jbn (jcC f (k:Int) g.length)) t (t.getD 0 []).length).2.2.2,0)):=by
 obtain⟨h1,h2⟩:=jCV h hs h0;unfold jcv jih jct jas;rw[h1,h2]
 show zb (y33 nm g l t f) _=_
 rw[jG2 h.n nm l htl h32 f,jac]
 by_cases c1:teG (jaD g 0).length t=0
 ·rw[if_neg (show ¬teG (jaD g 0).length t≠0 by omega),if_neg (show ¬teG (jaD g 0).length t≠0 by omega)]
  by_cases c2:(cf g.length f).2=0
  ·obtain⟨_,z1,z2⟩:=jIc c2;rw[if_neg (show ¬(cf g.length f).2≠0 by omega),if_neg (by rw[c2];simp)]
   show zb (y28 nm g l t f l) _=_
   rw[jIu h nm (jED h32 c1) z1 z2];rfl
  ·rw[if_pos c2,if_pos (by simpa using c2)]
 ·rw[if_pos c1,if_pos c1,if_pos (by simpa using c1)]
end Go.Sh
end

section
namespace Go.Sh
open Go Go.Proofs Go.RowKit Go.Sx Go.Sx06
variable {g:List (List NC)} {l:List Int}
def jBg:fi 0=0:=by
 rw[show(0:Nat)=nf 0 by decide];exact jCH (by omega)
def juW {α:Type} (n i:Nat) (x:α):(zf n x).getD i x=x:=by
 simp only[za,yQ];split<;>rfl
def G0 (n:Nat):List (List Int):=zf n (zf 32 0)
def jza {α:Type} (n m u j:Nat) (x:α):((zf n (zf m x)).getD u []).getD j x=x:=by
 simp only[za,yQ]
 by_cases h:u<n
 ·rw[if_pos h];simp only[zY,yQ];split<;>rfl
 ·rw[if_neg h];rfl
def juX (n:Nat) (u k:Int):atI (P0 n) (G0 n) u k=0:=by
 unfold atI P0 G0;rw[jza,jza,jBg];split<;>rfl
def jiC {α:Type} {n:Nat} {f:Nat->α} {x:α} (h:∀i,f i=x):(zo n).map f=zf n x:=by
 rw[List.eq_replicate_iff];refine⟨by simp,fun b hb=>?_⟩;obtain⟨i,_,rfl⟩:=qa.1 hb;exact h i
def js5 (n:Nat) (u d:Int):jbR (P0 n) (G0 n) u d=zf 32 0:=jiC fun i=>juX n u _
def jod (n:Nat) (fr al ga:List Int):∀m x,jbx (P0 n) (G0 n) fr al ga m x=0
 |0,_=>rfl
 |m+1,x=>by
  unfold jbx;rw[jod n fr al ga m x,juX,Int.mul_zero];rfl
def jAn (n:Nat) (fr al ga:List Int):jnY (P0 n) (G0 n) fr al ga=zf 32 0:=jiC fun i=>by rw[jod];decide
def jCX (n:Nat) (fr al ga:List Int):jc3 (fun x=>jbx (P0 n) (G0 n) fr al ga ga.length x) 32=0:=by
 rw[jsN (f':=fun _=>0) 32 fun x _=>jod n fr al ga _ x];decide
def zU (u:List Int):Prop:=∃a b c d e,u=[a,b,c,d,e,0,0,0,0,0]
def jzb {u:List Int} (h:zU u):jd0 u 0=0∧jqU u 0=u∧stU u=[0,0,0,0]∧u.getD 9 0=0:=by
 obtain⟨a,b,c,d,e,rfl⟩:=h
 have hr:jqT [a,b,c,d,e,0,0,0,0,0] 0=0:=by
  unfold jqT;simp only[List.getD_cons_zero,List.getD_cons_succ,Int.mul_zero];decide
 have ho:jd0 [a,b,c,d,e,0,0,0,0,0] 0=0:=by
  unfold jd0;rw[hr];decide
 refine⟨ho,?_,rfl,rfl⟩;unfold jqU;rw[ho,hr];rfl
def jBh:∀{us:List (List Int)},(∀u∈us,zU u)->jcB us 0=0∧jbw us 0=us
 |[],_=>⟨rfl,rfl⟩
 |u::us,h=>by
  obtain⟨h1,h2,_⟩:=jzb (h u zw);obtain⟨h3,h4⟩:=jBh (us:=us) fun v hv=>h v (zu _ hv);unfold jcB jbw;rw[h1,h2,h3,h4];exact⟨rfl,rfl⟩
def jEF {us:List (List Int)} (h:∀u∈us,zU u):∀n:Nat,jbI us (zf n 0)=us∧jbL us (zf n 0)=zf n 0
 |0=>⟨rfl,rfl⟩
 |n+1=>by
  obtain⟨h1,h2⟩:=jBh h;obtain⟨h3,h4⟩:=jEF h n;rw[yu];unfold jbI jbL;rw[h1,h2,h3,h4];exact⟨rfl,rfl⟩
def jBi:∀{us:List (List Int)},(∀u∈us,zU u)->ja7 us=0
 |[],_=>rfl
 |u::us,h=>by
  unfold ja7;rw[(jzb (h u zw)).2.2.2,jBi (us:=us) fun v hv=>h v (zu _ hv)];rfl
def mk_zU (c:List (List Int)):∀u∈jbo c (zf c.length [0,0,0,0]) c.length,zU u:=fun u hu=>by
 simp only[jbo,qa,qJ]at hu;obtain⟨i,hi,rfl⟩:=hu;rw[jbJ hi];exact⟨_,_,_,_,_,rfl⟩
def jHi (h:Rg g l) {i:Nat} (hi:i<g.length):jf9 g (P0 g.length) (fs0 g) (zf (jaD g 0).length Z32) (G0 g.length) i=(zf 32 0,(fs0 g).getD i [],0):=by
 unfold jf9;split
 ·rename_i h0;obtain⟨_,hc⟩:=jlp h.n hi;rw[h0]at hc;rw[jbJ hc,jEk,yT,jBg]
 ·split
  ·rw[jAn,jCX]
  ·split
   ·have hf:(fs0 g).getD i []=zf (nR g i 6).length [0,0,0,0]:=jbS _ hi;rw[js5,hf];have hz:=mk_zU (nR g i 6);have hl:=jfw (nR g i 6) (zf (nR g i 6).length [0,0,0,0]) (nR g i 6).length
    generalize jbo (nR g i 6) (zf (nR g i 6).length [0,0,0,0]) (nR g i 6).length=us at *
    obtain⟨r1,r2⟩:=jEF hz 32;rw[r1,r2,jBi hz]
    have:us.map stU=zf (nR g i 6).length [0,0,0,0]:=by
     rw[List.eq_replicate_iff];refine⟨by simpa using hl,fun b hb=>?_⟩;obtain⟨u,hu,rfl⟩:=qa.1 hb;exact(jzb (hz u hu)).2.2.1
    rw[this]
   ·rw[js5]
def jEG (h:Rg g l) {who:List Int} (hw:WR g.length who) {i:Nat} (hi:i<g.length) (A:List (List (List Int))) :
  jcj g (P0 g.length) (fs0 g) (zf (jaD g 0).length Z32) who i (G0 g.length) A (zf g.length 0)=(G0 g.length,A.set i ((fs0 g).getD i []),zf g.length 0):=by
 have hg:∀u,u<g.length->(G0 g.length).getD u []=zf 32 0:=fun u hu=>jbJ hu;have hset:(G0 g.length).set i (zf 32 0)=G0 g.length:=jqY _ i [] _ (hg i hi) (by simp[G0];exact hi);unfold jcj;split
 ·rfl
 ·rename_i w1;split
  ·obtain⟨u,hu,hue⟩:=(hw.2 i hi).resolve_left w1;rw[hue,zi,hg u hu,hset]
  ·rw[jHi h hi,hset];have hc:(zf g.length (0:Int)).set i 0=zf g.length 0:=jqY _ i 0 _ (juW _ _ _) (by simpa using hi);dsimp only;rw[hc];split<;>rfl
def jvK (h:Rg g l) {who:List Int} (hw:WR g.length who):∀k,k<=g.length ->
  (jaM g (P0 g.length) (fs0 g) (zf (jaD g 0).length Z32) who l k).1=G0 g.length∧(jaM g (P0 g.length) (fs0 g) (zf (jaD g 0).length Z32) who l k).2.2=zf g.length 0 ∧
  (jaM g (P0 g.length) (fs0 g) (zf (jaD g 0).length Z32) who l k).2.1.length=g.length ∧
  ∀j,j<k->(jaM g (P0 g.length) (fs0 g) (zf (jaD g 0).length Z32) who l k).2.1.getD (l.getD j 0).toNat []=(fs0 g).getD (l.getD j 0).toNat []
 |0,_=>⟨rfl,rfl,by simp[jaM],fun j hj=>absurd hj (by omega)⟩
 |k+1,hk=>by
  obtain⟨h1,h2,h3,h4⟩:=jvK h hw k (by omega);obtain⟨i,hi,e,_⟩:=h.at (j:=k) (by omega)
  have hs:jaM g (P0 g.length) (fs0 g) (zf (jaD g 0).length Z32) who l (k+1)=(G0 g.length,(jaM g (P0 g.length) (fs0 g) (zf (jaD g 0).length Z32) who l k).2.1.set i ((fs0 g).getD i []),zf g.length 0):=by
   show jcj g _ _ _ who (l.getD k 0).toNat _ _ _=_
   rw[e,zi,h1,h2,jEG h hw hi]
  rw[hs];refine⟨rfl,rfl,by simpa using h3,fun j hj=>?_⟩;dsimp only;rw[ja8 _ _ _ _ _ (by omega)]
  by_cases hjk:j=k
  ·subst hjk;rw[e,zi,if_pos rfl]
  ·obtain⟨i',hi',e',_⟩:=h.at (j:=j) (by omega);have hne:=jnQ h (j:=k) (j':=j) (by omega) (by omega) e e';have:=h4 j (by omega);rw[e',zi]at this ⊢;rw[if_neg hne];exact this
def jHj (h:Rg g l) (fb:Nat->Bool):jbT g l fb (P0 g.length) (fs0 g) (zf (jaD g 0).length Z32)=(zf (jaD g 4).length Z32,0,P0 g.length,fs0 g):=by
 obtain⟨h1,h2,h3,h4⟩:=jvK h (jsS h fb) g.length (zq _);unfold jbT
 have ha:(jaM g (P0 g.length) (fs0 g) (zf (jaD g 0).length Z32) (jdD g fb) l g.length).2.1=fs0 g:=by
  apply xH
  ·rw[h3];simp[fs0]
  ·intro i a b;obtain⟨j,hj,e⟩:=h.surj (i:=i) (by omega);have:=h4 j hj;rw[e,zi,jaw a,jaw b]at this;exact this
 have hc:∀m,csN (zf g.length 0) m=0:=fun m=>by
  induction m with
  |zero=>rfl
  |succ m ih =>
   unfold csN;rw[ih,juW];rfl
 have hp:jlr (P0 g.length) (G0 g.length) g.length=P0 g.length:=jiC fun u=>jiC fun k=>by rw[juX];decide
 have ho:jgH g (G0 g.length)=zf (jaD g 4).length Z32:=by
  unfold jgH;rw[List.eq_replicate_iff];refine⟨by simp,fun b hb=>?_⟩;obtain⟨u,hu,rfl⟩:=qa.1 hb;obtain⟨v,hv,rfl,_⟩:=juv hu;rw[zi,jsL (by simp[G0];exact hv),show(G0 g.length).getD v []=zf 32 0 from jbJ hv,yT];decide
 rw[h1,h2,ha,hc,hp,ho]
def jaY (t:List (List (List Nat))):List (List (List Nat)):=t.map fun r=>Z32::r
def jdw {t:List (List (List Nat))} {c:Nat} (hc:c<t.length):(jaY t).getD c []=Z32::t.getD c []:=joD (fun r:List (List Nat)=>Z32::r) [] hc
def jJD (t:List (List (List Nat))):inK (jaY t) 0=zf t.length Z32:=by
 unfold inK jaY;rw[xh,List.eq_replicate_iff];refine⟨by simp,fun b hb=>?_⟩;obtain⟨r,_,rfl⟩:=qa.1 hb;rfl
def jJE (t:List (List (List Nat))) (k:Nat):inK (jaY t) (k+1)=inK t k:=by
 unfold inK jaY;rw[xh];rfl
def jHk {outs:List (List (List Nat))} (o:List (List Nat)):jdd (jaY outs) o=jaY (jdd outs o):=by
 unfold jdd;have e:(jaY outs).length=outs.length:=by simp[jaY]
 rw[e]
 conv=>rhs;unfold jaY
 rw[xh];refine jbk fun c hc=>?_;rw[jdw hc];rfl
def jBj (h:Rg g l) (fb:Nat->Bool) {t:List (List (List Nat))} (ht:t.length=(jaD g 0).length):∀k,plI g l (fun _=>fb) (jaY t) (k+1) =
  ((plI g l (fun _=>fb) t k).1,(plI g l (fun _=>fb) t k).2.1,jaY (plI g l (fun _=>fb) t k).2.2.1,(plI g l (fun _=>fb) t k).2.2.2)
 |0=>by
  show(_,_,_,_)=_
  have e:inK (jaY t) 0=zf (jaD g 0).length Z32:=by rw[jJD,ht]
  have hr:=jHj h fb
  have ha:jdd (zf (jaD g 4).length []) (zf (jaD g 4).length Z32)=jaY (zf (jaD g 4).length []):=by
   unfold jdd jaY;rw[yf,yT,List.eq_replicate_iff];refine⟨by simp,fun b hb=>?_⟩;obtain⟨c,hc,rfl⟩:=qa.1 hb;rw[qJ]at hc;rw[jbJ hc,jbJ hc];rfl
  show((jbT g l fb (P0 g.length) (fs0 g) (inK (jaY t) 0)).2.2.1,(jbT g l fb (P0 g.length) (fs0 g) (inK (jaY t) 0)).2.2.2,jdd (zf (jaD g 4).length []) (jbT g l fb (P0 g.length) (fs0 g) (inK (jaY t) 0)).1,0+(jbT g l fb (P0 g.length) (fs0 g) (inK (jaY t) 0)).2.1)=_
  rw[e,hr];dsimp only;rw[ha];rfl
 |k+1=>by
  have ih:=jBj h fb ht k
  have e:∀x,plI g l (fun _=>fb) x (k+1+1)=((jbT g l fb (plI g l (fun _=>fb) x (k+1)).1 (plI g l (fun _=>fb) x (k+1)).2.1 (inK x (k+1))).2.2.1,(jbT g l fb (plI g l (fun _=>fb) x (k+1)).1 (plI g l (fun _=>fb) x (k+1)).2.1 (inK x (k+1))).2.2.2,
   jdd (plI g l (fun _=>fb) x (k+1)).2.2.1 (jbT g l fb (plI g l (fun _=>fb) x (k+1)).1 (plI g l (fun _=>fb) x (k+1)).2.1 (inK x (k+1))).1,(plI g l (fun _=>fb) x (k+1)).2.2.2+(jbT g l fb (plI g l (fun _=>fb) x (k+1)).1 (plI g l (fun _=>fb) x (k+1)).2.1 (inK x (k+1))).2.1):=fun x=>rfl
  rw[e (jaY t),ih,jJE];dsimp only;rw[jHk];rfl
def jIv {t:List (List (List Nat))} (ht:TR g t) (h0:0<t.length) (h16:(t.getD 0 []).length<=15):TR g (jaY t):=by
 have e:(jaY t).length=t.length:=by simp[jaY]
 have hz:∀j,j<32->se (Z32.getD j 0)=0:=fun j hj=>by rw[jEk,juW];exact jBe
 refine⟨by rw[e];exact ht.len,fun c hc=>?_,?_,fun c k hc hk=>?_⟩
 ·rw[e]at hc;rw[jdw hc,jdw h0,zA,zA,ht.row c hc]
 ·rw[jdw h0,zA];omega
 ·rw[e]at hc;rw[jdw h0,zA]at hk;rw[jdw hc];cases k with
  |zero=>exact⟨rfl,hz⟩
  |succ k=>exact ht.blk c k hc (by omega)
def jIw {t:List (List (List Nat))} (h:T32 t):T32 (jaY t):=fun r hr b hb=>by
 obtain⟨s,hs,rfl⟩:=qa.1 hr;rcases qp.1 hb with rfl|hb
 ·rfl
 ·exact h s hs b hb
def jJF {outs:List (List (List Nat))} {o:List (List Nat)} (h:T32 outs) (ho:∀b∈o,b.length=32) (hl:o.length=outs.length):T32 (jdd outs o):=fun r hr b hb=>by
 obtain⟨c,hc,rfl⟩:=qa.1 hr;rw[qJ]at hc;rcases qE.1 hb with hb|hb
 ·exact h _ (by rw[jaw hc];exact zZ hc) b hb
 ·rw[zW]at hb;subst hb;exact ho _ (by rw[jaw (by omega)];exact zZ _)
def jIx {G:List (List Int)} (hG:GR g.length G):∀b∈jgH g G,b.length=32:=fun b hb=>by
 have h1:=hG.1;obtain⟨u,hu,rfl⟩:=qa.1 hb;obtain⟨v,hv,rfl,_⟩:=juv hu;rw[zi,jsL (by omega),qk];exact(hG.2 v hv).1
def jHQ (h:Rg g l) (fbk:Nat->Nat->Bool) {t:List (List (List Nat))} (ht:TR g t):∀k,k<=(t.getD 0 []).length->T32 (plI g l fbk t k).2.2.1
 |0,_=>fun r hr b hb=>by
  have hr:r∈zf (jaD g 4).length []:=hr;rw[xB hr]at hb;cases hb
 |k+1,hk=>by
  obtain⟨h1,h2,h3,_⟩:=jwQ h fbk ht k (by omega);obtain⟨hR,_⟩:=jgR h h1 h2 (jy9 ht (k:=k) (by omega)) (jsS h (fbk k)) g.length (zq _);exact jJF (jHQ h fbk ht k (by omega)) (jIx hR.gr) (by rw[h3];simp[jgH,jbT])
end Go.Sh
end

section
namespace Go.Sh
open Go Go.Proofs Go.RowKit Go.Sx
def jju:List SV:=[]
def jfK:Option (ByteArray × List (List NC)) :=
 some ((qD #[(112:UInt8)],[[NC.d (D.s (qD #[(109:UInt8),(105:UInt8),(99:UInt8)])),NC.d (D.i .i64 0),NC.r (Cont.ints .i64 []),NC.r (Cont.ints .i64 []),NC.r (Cont.ints .i64 []),NC.d (D.i .i64 0),NC.r (Cont.recs (5:Nat) []),NC.d (D.i .i64 (-1:Int))],[NC.d (D.s (qD #[(100:UInt8)])),NC.d (D.i .i64 2),NC.r (Cont.ints .i64 [(0:Int)]),NC.r (Cont.ints .i64 [(0:Int)]),NC.r (Cont.ints .i64 []),NC.d (D.i .i64 3),NC.r (Cont.recs (5:Nat) []),NC.d (D.i .i64 (-1:Int))],[NC.d (D.s (qD #[(109:UInt8),(105:UInt8),(120:UInt8)])),NC.d (D.i .i64 1),NC.r (Cont.ints .i64 [(0:Int),1]),NC.r (Cont.ints .i64 [(0:Int),0]),NC.r (Cont.ints .i64 [(500:Int),1000]),NC.d (D.i .i64 0),NC.r (Cont.recs (5:Nat) []),NC.d (D.i .i64 (-1:Int))],[NC.d (D.s (qD #[(111:UInt8),(117:UInt8),(116:UInt8)])),NC.d (D.i .i64 4),NC.r (Cont.ints .i64 [(2:Int)]),NC.r (Cont.ints .i64 [(0:Int)]),NC.r (Cont.ints .i64 []),NC.d (D.i .i64 0),NC.r (Cont.recs (5:Nat) []),NC.d (D.i .i64 (-1:Int))]]))
def jAo (r:ByteArray × List (List NC)):Sk (top r) (jfK) :=
 .obT (.rc)
def jzc (r:ByteArray × List (List NC)) (h:zb (jfK) some=some r):jaG Tryz.f75 (sp0) (fun _ _ _=>none) (jaC jju []) [.s [.d (.s r.1),.x 118 (.st (zS) r.2)]] :=
 Sk.vc (jAo r) (by kernel_rfl) h
attribute [irreducible] jfK
def jgk:List SV:=[.c (.d)]
def joe (n:Int):Option (List Nat) :=
 some (jev (32:Nat) zO (0:Nat) (qv .f32 (if(if n<32767 then n else(32767:Int))>(-32767:Int)then if n<32767 then n else(32767:Int)else(-32767:Int))))
def jgl:List Lf->Option GT
 |[.d (.i .i64 n)]=>some (.leaf (ok (joe n)) [.b 32 (.f .f32 ((val (joe n))))])
 |_=>none
abbrev sp_74:jaa->jaa:=jan 74 true (jah jgk jgl)
def jwI (n:Int) (r:List Nat):Sk (top r) (joe n) :=
 .obT (.obC ((0:Int)<=0∧(0:Int)<32) (by decide) (.obC ((0:Nat)<32) (by decide) (.obT (.obT (.obT (.ret (fun r=>(Ob (r=jev (32:Nat) zO (0:Nat) (qv .f32 (if(if n<32767 then n else(32767:Int))>(-32767:Int)then if n<32767 then n else(32767:Int)else(-32767:Int)))) ∧
 True)) ⟨⟨rfl⟩,trivial⟩))))))
def juY (n:Int) (r:List Nat) (h:zb (joe n) some=some r):jaG Tryz.f74 (sp0) (fun _ _ _=>none) (jaC jgk [.d (.i .i64 n)]) [.b 32 (.f .f32 r)] :=
 Sk.vc (jwI n r) (by kernel_rfl) h
def juZ:jaf Tryz.prog 74 true (jah jgk jgl):=by
 refine jal (sp:=sp0) (fn:=Tryz.f74) (body:=bodyOf Tryz.f74) mixed jaj Tryz.func74 (by kernel_rfl) (by kernel_rfl) fun ls t h ho b hb=>?_;unfold jgl at h;split at h
 ·rename_i n;cases h;obtain rfl:=jap hb;exact⟨zh (by kernel_rfl),_,_,juY n _ (jai ho)⟩
 ·cases h
def sp_74_ok {sp:jaa} (h:jab Tryz.prog sp):jab Tryz.prog (sp_74 sp):=jag juZ h
attribute [irreducible] joe
end Go.Sh
end

section
namespace Go.Sh
open Go Go.Proofs Go.RowKit Go.Sx
def joE:ByteArray:=(val jfK).1
def joF:List (List NC):=(val jfK).2
def jCY (fr:ByteArray) (fs:List (List NC)):List Lf->Option GT
 |[]=>some (.leaf True [.s [.d (.s fr),.x 118 (.st (zS) fs)]])
 |_=>none
abbrev sp_75v (fr:ByteArray) (fs:List (List NC)):jaa->jaa:=jan 75 true (jah jju (jCY fr fs))
def jwJ:jaf Tryz.prog 75 true (jah jju (jCY joE joF)):=by
 refine jal (sp:=sp0) (fn:=Tryz.f75) (body:=bodyOf Tryz.f75) mixed jaj Tryz.func75 (by kernel_rfl) (by kernel_rfl) fun ls t h ho b hb=>?_;unfold jCY at h;split at h
 ·cases h;obtain rfl:=jap hb;exact⟨zh (by kernel_rfl),_,_,jzc (joE,joF) (by kernel_rfl)⟩
 ·cases h
def sp_75v_ok {sp:jaa} (h:jab Tryz.prog sp):jab Tryz.prog (sp_75v joE joF sp):=jag jwJ h
end Go.Sh
end

section
namespace Go.Sh
open Go Go.Proofs Go.RowKit Go.Sx Go.Sx09
abbrev shV:List NK:=zS
abbrev tsV:List Nat:=[0,0,3,3,3,0,148,0]
def cnB:Code:=Sx09.bodyOf Tryz.f135
def cnO (j:Nat):qu:=((jis (Sx09.sub [1,1,0] cnB)).getD []).getD j default
def js6:Op->Call
 | .call c=>c
 |_=>default
def jEH {P:zL} {o:qu} {a:Act} {w w':zs} {v:zt} {K:Act->zs->Prop} {Q:Exit->Act->zs->Prop} (h:(qR a.eval o).run P w=.ok (.value v) w') (hK:K (a.put o.dst v) w'):o.wp P a w K Q:=by
 unfold Oper.wp;rw[h];exact hK
def jCZ {P:zL} {w:zs} {o:qu} {ev:zR->zt} {x:zR} {v:zt} (h1:o.op=.assign x) (h2:ev x=v):(qR ev o).run P w=.ok (.value v) w:=by
 unfold qR;rw[h1];simp[h2]
def jAp {P:zL} {w w':zs} {o:qu} {c:Call} {ev:zR->zt} {s x:zR} {t:qH} {v xv v':zt} (hop:o.op=.call c) (hcal:c.callee=.builtin .append) (hargs:c.args=#[s,x]) (hts:c.argTypes=#[t,t])
  (h1:ev s=v) (h2:ev x=xv) (hrun:(Builtin.append_ #[t,t] o.type #[v,xv]).run P w=.ok v' w'):(qR ev o).run P w=.ok (.value v') w':=by
 unfold qR;simp only[hop,hcal,resolve,hargs,hts,List.map_toArray,zJ,qZ,Sem.run_bind,Sem.run_pure,Result.andThen_ok,invoke,builtin,h1,h2,hrun]
abbrev cV (v:zt):V:=.w (.c (.d (.v v)))
def cnA (v:zt):St:=⟨[(3,cV v),(2,cV (.slice none 0 0)),(0,cV v)],[],0⟩
def cnD (v:zt):St:=⟨[(6,cV v),(5,.w (.c (.o 0))),(4,vb false),(3,cV v),(2,cV (.slice none 0 0)),(0,cV v)],[(0,.xrow 118 (.st shV []))],1⟩
abbrev jC0 (c:Code) (st:St) (k:Ex->St->Prop):Prop:=sx Tryz.prog sp0 8 0 1 (fun _ _ _=>none) (jcA Tryz.prog sp0 8) c 0 [] st k
def cn1 (v:zt):jC0 (Sx09.sub [0] cnB) ⟨jbD 0 [cV v],[],0⟩ fun ex st=>ex=.normal∧jkx Tryz.prog sp0 8 (cl1 Tryz.f135) st fun st=>st=cnA v:=by
 refine jI (by kernel_rfl:(Ex.normal=Ex.normal∧cnA v=cnA v)=_) ⟨rfl,rfl⟩
def cn2 (v:zt):jC0 (.seq (Sx09.sub [1,0,1] cnB) (Sx09.sub [1,1] cnB)) ((cnA v).put (some 4) ⟨True,vb true,[],0⟩) (jbX Tryz.prog Tryz.f135.results.toList fun v _ _=>v=cV (.slice none 0 0)):=by
 refine jI (by kernel_rfl:(Ob True∧cV (.slice none 0 0)=cV (.slice none 0 0))=_) ⟨⟨trivial⟩,rfl⟩
def cn3 (v:zt):jC0 (Sx09.sub [1,0,1] cnB) ((cnA v).put (some 4) ⟨True,vb false,[],0⟩) fun ex st=>ex=.normal∧jkx Tryz.prog sp0 8 (cnO 0) st fun st=>jkx Tryz.prog sp0 8 (cnO 1) st fun st=>st=cnD v:=by
 refine jI (by kernel_rfl:(Ex.normal=Ex.normal∧cnD v=cnD v)=_) ⟨rfl,rfl⟩
set_option maxHeartbeats 2000000 in
def jHl {w:zs} {v0:zt} {aa:Option Addr} {m cap:Nat} (hv:v0=.slice aa m cap) (us:List zt) (hus:us.length=m*8) (hone:∀u∈us,u.oneCell'=true) (hnil:aa=none->m=0)
  (hcell:∀ad,aa=some ad->∀j u,us[j]?=some u->w.cell? (ad.add j)=some u) (hb:m*136<=140737488355328) :
  Calls Tryz.prog 135 #[v0] w fun e w'=>∃v',e=.returned v'∧w'.ownsRow 0 118 8 v' m us∧x8 w.heap.size w w'∧∀k,v'.ownBlock=some k->w.heap.size<=k:=by
 refine calls_of_wp (c:=cnB) Tryz.func135 (by kernel_rfl) ?_;have hB:cnB=.seq (Sx09.sub [0] cnB) (.seq (.seq (Sx09.sub [1,0,0] cnB) (Sx09.sub [1,0,1] cnB)) (.seq (Sx09.sub [1,1,0] cnB) .ret)):=by kernel_rfl
 have hD:Sx09.sub [1,1] cnB=.seq (Sx09.sub [1,1,0] cnB) .ret:=by kernel_rfl
 obtain⟨I,hI⟩:∃I:Env,I=fun _=>z3:=⟨_,rfl⟩
 have hh:HRel I (kd fun k=>k<w.heap.size) [] 0 w:=⟨fun h o hf=>(by cases hf),fun h o h' o' k hf=>(by cases hf),jft⟩
 have hr:=jfF (n0:=0) (N:=8) (args:=[cV v0]) (zh rfl) (fun x hx=>by simp only[zW]at hx;subst hx;trivial) (zq _) I w hh (fun k hk=>jbM.1 hk);have hsp:jab Tryz.prog sp0:=jaj;have hdr:=fun(I:Env) (w:zs)=>jb0 (N:=8) (n0:=0) (B:=kd fun k=>k<w.heap.size) (I0:=I) (w0:=w) mixed hsp;have hres:Tryz.f135.results=#[.tmp 2]:=by kernel_rfl
 have run:∀(tmps:Array zt) (W:zs),(results Tryz.f135 tmps).run Tryz.prog W=.ok (tmps.getD 2 z3) W:=fun tmps W=>by
  unfold results;rw[hres];simp
 rw[hB];refine g6 (x6 (ja9 hsp (hdr I w) (Sx09.sub [0] cnB) 0 [] _ _ I _ w (cn1 v0) hr (jak.refl _ _) (Bel.refl _ _)) ?_);rintro e a1 w1 ⟨ex,I1,st1,rfl,⟨rfl,hdo⟩,hr1,hag1,hbl1⟩;have hR2:jis (Sx09.sub [1,0,0] cnB)=some [cl1 Tryz.f135,cl2 Tryz.f135]:=by kernel_rfl
 refine g6 (g6 (jqP hR2 (jcP (by kernel_rfl) (jcV hsp hr1 hag1 hbl1 hdo fun I2 st2 a2 w2 hr2 hag2 hbl2 hk=>?_))));subst hk;have hop:(cl2 Tryz.f135).op=.binOp .eql 22 (.tmp 3) (.const (.slice none 0 0)) 22:=by kernel_rfl
 have hdst:(cl2 Tryz.f135).dst=some 4:=by kernel_rfl
 refine jcP (by kernel_rfl) (jD0 (N:=8) (u:=cV v0) (aa:=aa) (n:=m) (cap:=cap) hop (by rw[hdst];rfl) (by kernel_rfl) (by kernel_rfl) hv hr2 fun hr3=>?_);rw[hdst]at hr3 ⊢;unfold wpList;cases aa with
 |none =>
  have hm0:=hnil rfl;subst hm0;obtain rfl:us=[]:=z5 (by omega);have key:=jyy (cur:=0) (gs:=[]) hsp (hdr I w) (cn2 v0) hr3 hag2 hbl2;rw[hD]at key
  have fin:∀e a4 w4,Qx [] I (kd fun k=>k<w.heap.size) 8 0 w (jbX Tryz.prog Tryz.f135.results.toList fun v _ _=>v=cV (.slice none 0 0)) e a4 w4->bodyPost Tryz.prog Tryz.f135 (fun e w'=>∃v',e=.returned v'∧w'.ownsRow 0 118 8 v' 0 []∧x8 w.heap.size w w'∧∀k,v'.ownBlock=some k->w.heap.size<=k) e a4 w4:=by
   rintro e a4 w4 ⟨x,I4,st4,rfl,hk,hr4,_,hbl4⟩
   have done:jbX Tryz.prog Tryz.f135.results.toList (fun v _ _=>v=cV (.slice none 0 0)) .ret st4->a4.defers=[]∧∃v,(results Tryz.f135 a4.tmps).run Tryz.prog w4=.ok v w4∧∃v',Ending.returned v=.returned v'∧w4.ownsRow 0 118 8 v' 0 []∧x8 w.heap.size w w4∧∀k,v'.ownBlock=some k->w.heap.size<=k:=fun h=>by
    rw[hres]at h;unfold jbX at h;dsimp only at h;split at h
    ·rename_i l hl;simp only[jfE,jrQ]at hl;split at hl
     ·rename_i y l' hy hl';cases hl';cases hl;split at hy
      ·rename_i u2 h2;cases hy;have hu:V.w u2=cV (.slice none 0 0):=h.2;cases hu;have h3:=(hr4.tm 2 _ h2).2;exact⟨hr4.defers,_,run _ _,_,rfl,by rw[h3];exact World.ownsRow_nil w4 0 118 8,hbl4.below,fun k hk=>by rw[h3]at hk;cases hk⟩
      ·cases hy
     ·cases hl
    ·exact h.elim
   cases x with
   |normal=>exact done hk
   |ret=>exact done hk
   |exit j=>exact hk.elim
  refine x6 key ?_;intro e a4 w4 hq;cases e with
  |normal=>exact x6 hq fin
  |_=>exact fin _ _ _ hq
 |some ad =>
  refine x6 (ja9 hsp (hdr I w) (Sx09.sub [1,0,1] cnB) 0 [] _ _ I2 _ w2 (cn3 v0) hr3 hag2 hbl2) ?_;rintro e a3 w3 ⟨ex,I3,st3,rfl,⟨rfl,hdo3⟩,hr4,hag3,hbl3⟩;have hR3:jis (Sx09.sub [1,1,0] cnB)=some [cnO 0,cnO 1,cnO 2,cnO 3]:=by kernel_rfl
  refine g6 (jqP hR3 (jcP (by kernel_rfl) (jcV hsp hr4 hag3 hbl3 hdo3 fun I4 st4 a4 w4 hr5 hag4 hbl4 hk4=>jcP (by kernel_rfl) (jcV hsp hr5 hag4 hbl4 hk4 fun I5 st5 a5 w5 hr6 hag5 hbl5 hk5=>?_))));subst hk5;obtain⟨B',gB,hh5⟩:=hr6.heap;obtain⟨us0,hown,_,hblk⟩:=(hh5.ok 0 _ rfl).2.2;have e5:=(hr6.tm 5 _ rfl).2;have e6:=(hr6.tm 6 _ rfl).2;have hsame:∀p:Addr,p.block<w.heap.size->w5.cell? p=w.cell? p:=fun p hp=>World.cell?_of_block (w:=w) (hbl5.block p.block hp);have hsz:szT Tryz.prog 118=some 8:=by kernel_rfl
  have hby:ja0 Tryz.prog 118=some 136:=by kernel_rfl
  have hzl:(jaL Tryz.prog 118).map ze=some 8:=by kernel_rfl
  obtain⟨zl,hz,hzl⟩:=Option.map_eq_some_iff.1 hzl;cases hi:Tryz.prog.info? 118 with
  |none=>simp[szT,hi]at hsz
  |some i =>
   have hsz':i.size=7+1:=by simpa [szT,hi]using hsz
   have hby':i.bytes=136:=by simpa [ja0,hi]using hby
   cases hzz:i.zero with
   |none=>simp[jaL,hi,hzz]at hz
   |some zv =>
    obtain⟨v1,hv1,hvc,_⟩:=ja3 (P:=Tryz.prog) (w:=w) (I:=I) hz
    have hvz:v1=zv:=by
     simp[zeroValue,typeInfo,hi,hzz]at hv1;exact hv1.symm
    subst hvz;have hzs:v1.cells.size=7+1:=by rw[hvc];simp[hzl]
    have hown0:w5.ownsRow 0 118 8 (I5 0) 0 us0:=hown;obtain rfl:us0=[]:=z5 (by rw[hown0.1,xV])
    obtain⟨v',w6,hrun,hown',hgr,hwh⟩:=jee (ty:=(cnO 2).type) (P:=Tryz.prog) (t:=22) (by kernel_rfl) hi hzz hsz' hby' hzs hown0 (xv:=v0) (news:=us) (m:=m) hus hone
     (.inr ⟨ad,cap,hv,fun j u hj=>(hsame _ (qO w _ (hcell ad rfl j u hj))).trans (hcell ad rfl j u hj)⟩) (by omega) (by omega)
    have hop2:(cnO 2).op=.call (js6 (cnO 2).op):=by kernel_rfl
    have hcal:(js6 (cnO 2).op).callee=.builtin .append:=by kernel_rfl
    have hargs:(js6 (cnO 2).op).args=#[.tmp 5,.tmp 6]:=by kernel_rfl
    have hts:(js6 (cnO 2).op).argTypes=#[22,22]:=by kernel_rfl
    have hd2:(cnO 2).dst=some 7:=by kernel_rfl
    have ev5:a5.eval (.tmp 5)=I5 0:=e5;have ev6:a5.eval (.tmp 6)=v0:=e6;refine jcP (by kernel_rfl) (jEH (v:=v') (w':=w6) ?_ (jcP (by kernel_rfl) (jEH (v:=v') (w':=w6) ?_ ?_)))
    ·exact jAp hop2 hcal hargs hts ev5 ev6 hrun
    ·have hop3:(cnO 3).op=.assign (.tmp 7):=by kernel_rfl
     have hs6:a5.tmps.size=8:=hr6.size
     have:(a5.put (cnO 2).dst v').eval (.tmp 7)=v':=by
      rw[hd2];simp[jA,Act.eval,hs6]
     exact jCZ hop3 this
    ·unfold wpList;have hd3:(cnO 3).dst=some 2:=by kernel_rfl
     have hs6:a5.tmps.size=8:=hr6.size;refine wp_ret ?_;refine⟨by rw[jb5,jb5];exact hr6.defers,v',?_,v',rfl,by simpa using hown',?_,fun k hk=>?_⟩
     ·rw[run]
      congr 1
      rw[hd2,hd3];simp[jA,hs6]
     ·have hold5:∀k,(I5 0).ownBlock=some k->¬k<w.heap.size:=fun k hk hc=>hblk k hk (.inl (gB.le.kp k hc));exact hbl5.below.trans ⟨hgr.os,hgr.tape,hgr.output,hgr.size,fun k hk=>hgr.block k (zF hk hbl5.size) (fun e=>hold5 k e.symm hk)⟩
     ·rcases hwh k hk with h|h
      ·have:¬k<w.heap.size:=fun hc=>hblk k h (.inl (gB.le.kp k hc));omega
      ·have:=hbl5.size;omega
end Go.Sh
end

section
open Go.RowKit
namespace Go.Sh
open Go Go.Proofs Go.RowKit Go.Sx
def jzd:Sx.Spec:=fun vs hp nx=>match vs with
 |[.w (.c (.o h))]=>match find hp h with
  |some (.xext (.st sh l))=>match decide (sh=shV)with
   |true=>some (.leaf ⟨l.length*136<=140737488355328,.w (.c (.o nx)),(nx,.trow 118 tsV (.st sh l) 0)::hp,nx+1⟩)
   |false=>none
  |_=>none
 |_=>none
def jHm {B:Bd} {w:zs} {v:zt} {X:XC} (h:IsX B w v X):∃(aa:Option Addr) (cap:Nat) (us:List zt),v=.slice aa X.n cap∧us.length=X.n*X.e∧(aa=none->X.n=0)∧(∀ad,aa=some ad->∀j u,us[j]?=some u->w.cell? (ad.add j)=some u) ∧
  (∀u∈us,u.oneCell'=true)∧∀i j,i<X.n->j<X.e->∃u,us[i*X.e+j]?=some u∧(X.cell i j).at B w u:=by
 obtain⟨aa,cap,hv,⟨h1,h2⟩,h3⟩:=h;rcases Nat.eq_zero_or_pos X.n with h0|h0
 ·exact⟨aa,cap,[],hv,by rw[h0,xV];rfl,fun _=>h0,(fun ad _ j u hj=>by simp at hj),(fun u hu=>by cases hu),fun i j hi=>by omega⟩
 ·obtain⟨b,off,rfl,hb,hx⟩:=h3 h0
  have key:∀q,q<X.n*X.e->∃u,w.cell? ⟨b,off+q,none⟩=some u∧u.oneCell'=true:=fun q hq=>by
   have he:0<X.e:=gj fun e=>by rw[e,Nat.mul_zero]at hq;omega
   obtain⟨u,hu,hux⟩:=hx (q/X.e) (q%X.e) (ym (by rw[xr];exact hq)) (xY _ he);rw[show q/X.e*X.e+q%X.e=q by rw[xr];exact x9 q X.e]at hu;exact⟨u,hu,jxi hux⟩
  refine⟨_,cap,(zo (X.n*X.e)).map fun q=>(w.cell? ⟨b,off+q,none⟩).getD z3,hv,by simp,(fun h=>by cases h),fun ad had j u hj=>?_,fun u hu=>?_,fun i j hi hj=>?_⟩
  ·cases had;have hjl:j<X.n*X.e:=by have:=(zB.1 hj).1;simpa using this
   obtain⟨u',hu',_⟩:=key j hjl;have:((zo (X.n*X.e)).map fun q=>(w.cell? ⟨b,off+q,none⟩).getD z3)[j]?=some u':=by simp[hjl,hu']
   rw[this]at hj;cases hj;rw[jaW];exact hu'
  ·obtain⟨q,hq,rfl⟩:=qa.1 hu;obtain⟨u',hu',ho⟩:=key q (qJ.1 hq);rw[hu'];exact ho
  ·obtain⟨u,hu,hux⟩:=hx i j hi hj
   have hjl:i*X.e+j<X.n*X.e:=by
    have:(i+1)*X.e<=X.n*X.e:=qe _ hi;rw[qz]at this;omega
   exact⟨u,by simp[hjl,hu],hux⟩
def jC1:jaf Tryz.prog 135 true jzd:=by
 refine .inl ⟨jdn (body:=Sx09.bodyOf Tryz.f135) Tryz.func135 (by kernel_rfl) (by kernel_rfl),fun I B w args hp nx t h ho hl hh hB=>?_⟩;unfold jzd at h;split at h
 ·rename_i g;split at h
  ·rename_i sh l hf;split at h
   ·rename_i hsh;have hsh:=of_decide_eq_true hsh;subst hsh;cases h;have hb:l.length*136<=140737488355328:=ho;obtain⟨aa,cap,us,hv,hus,hnil,hcell,hone,hat⟩:=jHm (hh.ok g _ hf).2.2;have hargs:([V.w (.c (.o g))].map (V.val I)).toArray=#[I g]:=rfl;rw[hargs];refine(jHl (m:=l.length) hv us hus hone hnil hcell hb).mono ?_;rintro e w' ⟨v',rfl,hown,hbel,hfr⟩;have hbB:Bel B w w':=jc4 hbel hB
    have hok:(O.trow 118 tsV (.st shV l) 0).ok (upd I nx v') B w' nx:=by
     unfold O.ok;simp only[upd_same];refine⟨us,hown,fun i j hi hj=>?_,fun i j i' j' u v k _ _ _ _ _ h0=>absurd h0 (xW _),fun k hk hc=>?_⟩
     ·obtain⟨u,hu,hux⟩:=hat i j hi hj;exact⟨u,hu,fun h0=>absurd h0 (xW _),fun _=>NC.at_bel hux hbB⟩
     ·have:=hB k hc;have:=hfr k hk;omega
    have h1:=hh.add (o:=.trow 118 tsV (.st shV l) 0) (I':=upd I nx v') hbel hB (jav _ _ _) trivial hok (fun k hk=>by
     rw[upd_same]at hk;exact hfr k hk)
    refine⟨upd I nx v',?_,jav _ _ _,zp nx,xe nx,⟨B,Grow.refl _ _ _ _,h1⟩,hbB,fun _=>hbel,fun _ h o k hn hf hk=>?_⟩
    ·simp[RT.sel,V.val,W.val,C.val,upd]
    ·have hf:find ((nx,O.trow 118 tsV (.st shV l) 0)::hp) h=some o:=hf
     by_cases e1:h=nx
     ·subst e1
      have:o=O.trow 118 tsV (.st shV l) 0:=by
       have:=hf;simp only[find,if_pos]at this;exact(yc this).symm
      subst this;rw[upd_same]at hk;exact hfr k hk
     ·simp only[find,if_neg (Ne.symm e1)]at hf;have:=(hh.ok h o hf).1;omega
   ·cases h
  ·cases h
 ·cases h
abbrev sp_135:jaa->jaa:=jan 135 true jzd
def sp_135_ok {sp:jaa} (h:jab Tryz.prog sp):jab Tryz.prog (sp_135 sp):=jag jC1 h
end Go.Sh
end

section
namespace Go.Sx09
open Go Go.Proofs Go.RowKit Go.Shelf Go.Sx
attribute [local go_sem] Oper.semAt_some
end Go.Sx09
end

section
open Go.RowKit
namespace Go.Sh
open Go Go.Proofs Go.RowKit Go.Sx
open Go.Sx09 (jyi)
end Go.Sh
end

section
open Go.RowKit
namespace Go.Sh
open Go Go.Proofs Go.RowKit Go.Sx
end Go.Sh
end

section
open Go.RowKit
namespace Go.Sx
section
variable {P:zL} {l n:Nat} {a:Act} {w:zs} {Q:Exit->Act->zs->Prop}
end
section
variable [Globs] {P:zL} {sp:jaa} {B:Kd} {N n0:Nat} {I0:Env} {w0:zs} {ds:List Deferred}
end
def js7:Nat->Code->Code
 |0,_=>.skip
 |n+1,.seq x y=>.seq x (js7 n y)
 |_+1,c=>c
def js8:Nat->Code->Code
 |0,c=>c
 |n+1,.seq _ y=>js8 n y
 |_+1,_=>.skip
def jEI:Nat->Code->Bool
 |0,_=>true
 |n+1,.seq _ y=>jEI n y
 |_+1,_=>false
section
variable [Globs] {P:zL} {sp:jaa} {B:Kd} {N n0:Nat} {I0:Env} {w0:zs} {ds:List Deferred}
def jBk {fuel:Nat} {loops:jfo} {drawn:Array qu->St->(St->Prop)->Prop} (hsp:jab P sp) (hdr:jd7 P B N n0 I0 w0 drawn) {Q:Exit->Act->zs->Prop} {k:Ex->St->Prop} :
  ∀(m:Nat) (c:Code) (cur:Nat) (gs:List Nat) (st:St) (I:Env) (a:Act) (w:zs),jEI m c=true->sx P sp N n0 fuel loops drawn (js7 m c) cur gs st k->RelD ds I B N n0 st a w->jak n0 I0 I->Bel B w0 w ->
   (∀I' st' a' w',k .normal st'->RelD ds I' B N n0 st' a' w'->jak n0 I0 I'->Bel B w0 w'->(js8 m c).wp P Q a' w') ->
   (∀ex I' st' a' w',ex≠.normal->k ex st'->RelD ds I' B N n0 st' a' w'->jak n0 I0 I'->Bel B w0 w'->Q ex.toExit a' w')->c.wp P Q a w
 |0,c,_,_,st,I,a,w,_,h,hr,hag,hbl,hn,_=>hn I st a w h hr hag hbl
 |m+1,.seq x y,cur,gs,st,I,a,w,hs,h,hr,hag,hbl,hn,he=>by
  simp only[js7]at h;unfold sx at h;refine g6 (x6 (ja9 hsp hdr x cur gs st _ I a w h hr hag hbl) ?_);rintro e a' w' ⟨ex,I',st',rfl,hk,hr',hag',hbl'⟩;cases ex with
  |normal=>exact jBk hsp hdr m y cur gs st' I' a' w' hs hk hr' hag' hbl' hn he
  |exit j=>exact he (.exit j) I' st' a' w' (by simp) hk hr' hag' hbl'
  |ret=>exact he .ret I' st' a' w' (by simp) hk hr' hag' hbl'
end
end Go.Sx
end

section
open Go.RowKit
namespace Go.Sh
open Go Go.Proofs Go.RowKit Go.Sx
def cdB:Code:=Sx09.bodyOf Tryz.f91
abbrev spC:jaa:=sp_135 (sp_136 (sp_137 sp0))
def js9:jab Tryz.prog spC:=sp_135_ok (sp_136_ok (sp_137_ok jaj))
def ptU (g:List (List NC)) (k j:Nat) (x:NC):List (List NC):=g.set k (jfL shV (g.getD k []) j x)
def ptA (g:List (List NC)) (k:Nat):List (List NC):=ptU g k 2 (.r (.ints .i64 (val (jaT (nL g k 2)))))
def ptB (g:List (List NC)) (k:Nat):List (List NC):=ptU (ptA g k) k 3 (.r (.ints .i64 (val (jaT (nL g k 3)))))
def ptC (g:List (List NC)) (k:Nat):List (List NC):=ptU (ptB g k) k 4 (.r (.ints .i64 (val (jaT (nL g k 4)))))
def ptD (g:List (List NC)) (k:Nat):List (List NC):=ptU (ptC g k) k 6 (.r (.recs 5 (val (jb8 (nR g k 6)))))
def cpK (g:List (List NC)):Nat->List (List NC)
 |0=>g
 |k+1=>ptD (cpK g k) k
def cpM:Nat->Nat
 |0=>0
 |k+1=>k*8+7
def joG (g:List (List NC)) (k j:Nat) (x:NC):(ptU g k j x).length=g.length:=by simp[ptU]
def jIy (g:List (List NC)) (k:Nat):(ptD g k).length=g.length:=by simp[ptD,ptC,ptB,ptA,joG]
def ju0 (g:List (List NC)):∀k,(cpK g k).length=g.length
 |0=>rfl
 |k+1=>by rw[cpK,jIy,ju0 g k]
def hpC (nm:ByteArray) (g0 g:List (List NC)) (m:Nat):Hp:=[(3,.trow 118 tsV (.st shV g) m),(1,.box 24 [.d (.s nm),.o 3]),(2,.box 24 [.d (.s xM),.d (.v (.slice none 0 0))]),(0,.xext (.st shV g0))]
def lpC (nm:ByteArray) (g:List (List NC)):jfo:=fun gs id _=>match id with
 |0=>some ⟨Nat,fun k=>⟨[(12,vi .i64 k),(11,vi .i64 (g.length:Int)),(2,.w (.c (.p 2 0 1 0))),(1,.w (.c (.p 1 0 1 0)))],hpC nm g (cpK g k) (cpM k),4⟩,fun k=>k<=g.length,fun k=>g.length-k⟩
 |_=>none
def stC (nm:ByteArray) (g0 g:List (List NC)):St:=⟨[(2,.w (.c (.p 2 0 1 0))),(1,.w (.c (.p 1 0 1 0)))],[(3,.mrow 118 tsV (.st shV g) none),(1,.box 24 [.d (.s nm),.o 3]),(2,.box 24 [.d (.s xM),.d (.v (.slice none 0 0))]),(0,.xext (.st shV g0))],4⟩
def ju1 {j:Nat} (h:j=0∨j=1∨j=5∨j=7):(shV.getD j .b).isSl=false:=by
 rcases h with rfl|rfl|rfl|rfl<;>rfl
def okU (g:List (List NC)):Prop:=∀k,k<g.length->ok (jaT (nL (cpK g k) k 2))∧ok (jaT (nL (cpK g k) k 3))∧ok (jaT (nL (cpK g k) k 4))∧ok (jb8 (nR (cpK g k) k 6))
abbrev jiD (m n:Nat):Prop:=∀i' j':Nat,j'<8->m<=i' * 8+j'->i' * 8+j'<n->(shV.getD j' .b).isSl=false
set_option maxHeartbeats 2000000 in
def cd_vc (nm:ByteArray) (g:List (List NC)) (h0:g.length*136<=140737488355328) (hok:okU g):sx Tryz.prog spC 53 1 0 (lpC nm g) (jcA Tryz.prog spC 53) (js7 3 cdB) 0 [] ⟨jbD 0 [.w (.a [.d (.s nm),.o 0])],[(0,.xext (.st shV g))],1⟩
  fun ex st'=>match ex with
   | .normal=>Le 1 st' (stC nm g (cpK g g.length))
   |_=>False:=by
 refine jI (by kernel_rfl:(Ob (g.length*136<=140737488355328) ∧
  (∃x:Nat,Ob (x<=g.length)∧Ob ((0:Int)=(x:Int))∧Ob ((g.length:Int)=g.length)∧Ob ((0:Nat)=0)∧Ob ((0:Nat)=0)∧Ob (g=cpK g x)∧Ob (cpM x=0)∧Ob (nm=nm)∧Ob (xM=xM)∧Ob (qd none 0 0=qd none 0 0)∧Ob (g=g)∧True) ∧
  ∀x:Nat,x<=g.length->Br (decide ((x:Int)<(g.length:Int)))
   (Ob ((0:Int)<=x∧(x:Int)<((cpK g x).length:Int))∧Ob (x<(cpK g x).length∧cpM x<=x*8+2)∧Ob (ok (jaT (nL (cpK g x) x 2)))∧Ob (x<(cpK g x).length∧cpM x<=x*8+3)∧Ob (ok (jaT (nL (cpK g x) x 3)))∧Ob (x<(cpK g x).length∧cpM x<=x*8+4)∧Ob (ok (jaT (nL (cpK g x) x 4)))∧Ob (x<(cpK g x).length∧cpM x<=x*8+6)∧Ob (ok (jb8 (nR (cpK g x) x 6))) ∧
    Ob (x<(cpK g x).length∧cpM x<=x*8+2∧jiD (cpM x) (x*8+2))∧Ob (x<(ptA (cpK g x) x).length∧x*8+2+1<=x*8+3∧jiD (x*8+2+1) (x*8+3))∧Ob (x<(ptB (cpK g x) x).length∧x*8+3+1<=x*8+4∧jiD (x*8+3+1) (x*8+4))∧Ob (x<(ptC (cpK g x) x).length∧x*8+4+1<=x*8+6∧jiD (x*8+4+1) (x*8+6)) ∧
    ∃x':Nat,Ob (x'<=g.length)∧Ob (g.length-x'<g.length-x)∧Ob (xu.wrap ((x:Int)+1)=x')∧Ob ((g.length:Int)=g.length)∧Ob ((0:Nat)=0)∧Ob ((0:Nat)=0)∧Ob (ptD (cpK g x) x=cpK g x')∧Ob (cpM x'=x*8+6+1)∧Ob (nm=nm)∧Ob (xM=xM)∧Ob (qd none 0 0=qd none 0 0)∧Ob (g=g)∧True)
   (Ob ((0:Nat)=0)∧Ob ((0:Nat)=0)∧Ob (cpK g x=cpK g g.length)∧Ob (∀i j:Nat,i<(cpK g x).length->j<8->cpM x<=i*8+j->(shV.getD j .b).isSl=false)∧Ob (nm=nm)∧Ob (xM=xM)∧Ob (qd none 0 0=qd none 0 0)∧Ob (g=g)∧True))=_) ?_
 refine⟨⟨h0⟩,⟨0,⟨Nat.zero_le _⟩,⟨rfl⟩,⟨rfl⟩,⟨rfl⟩,⟨rfl⟩,⟨rfl⟩,⟨rfl⟩,⟨rfl⟩,⟨rfl⟩,⟨rfl⟩,⟨rfl⟩,trivial⟩,fun x hx=>Br.intro (fun hlt=>?_) fun hlt=>?_⟩
 ·have hlt:x<g.length:=by have:=of_decide_eq_true hlt;omega
  have hl:=ju0 g x
  have hm:cpM x<=x*8∧(x=0∨cpM x+1=x*8):=by
   cases x with
   |zero=>exact⟨zq _,.inl rfl⟩
   |succ n=>exact⟨by show n*8+7<=(n+1)*8;omega,.inr (by show n*8+7+1=(n+1)*8;omega)⟩
  obtain⟨o1,o2,o3,o4⟩:=hok x hlt;have f1:jiD (cpM x) (x*8+2):=fun i' j' hj h1 h2=>ju1 (by omega);have f2:jiD (x*8+2+1) (x*8+3):=fun i' j' hj h1 h2=>by omega
  have f3:jiD (x*8+3+1) (x*8+4):=fun i' j' hj h1 h2=>by omega
  have f4:jiD (x*8+4+1) (x*8+6):=fun i' j' hj h1 h2=>ju1 (by omega);have lA:(ptA (cpK g x) x).length=g.length:=by simp[ptA,joG,hl]
  have lB:(ptB (cpK g x) x).length=g.length:=by simp[ptB,joG,lA]
  have lC:(ptC (cpK g x) x).length=g.length:=by simp[ptC,joG,lB]
  exact⟨⟨by omega⟩,⟨by omega⟩,⟨o1⟩,⟨by omega⟩,⟨o2⟩,⟨by omega⟩,⟨o3⟩,⟨by omega⟩,⟨o4⟩,⟨by omega,by omega,f1⟩,⟨by omega,by omega,f2⟩,⟨by omega,by omega,f3⟩,⟨by omega,by omega,f4⟩,x+1,⟨hlt⟩,⟨by omega⟩,⟨by rw[jao (by omega)];rfl⟩,⟨rfl⟩,⟨rfl⟩,⟨rfl⟩,⟨rfl⟩,⟨rfl⟩,⟨rfl⟩,⟨rfl⟩,⟨rfl⟩,⟨rfl⟩,trivial⟩
 ·have hlt:=of_decide_eq_false hlt;obtain rfl:x=g.length:=by omega
  refine⟨⟨rfl⟩,⟨rfl⟩,⟨rfl⟩,⟨fun i j hi hj hq=>?_⟩,⟨rfl⟩,⟨rfl⟩,⟨rfl⟩,⟨rfl⟩,trivial⟩;rw[ju0]at hi;refine ju1 ?_;cases hn:g.length with
  |zero=>omega
  |succ n=>rw[hn]at hq hi;simp only[cpM]at hq;omega
end Go.Sh
end

section
open Go.RowKit
namespace Go.Sh
open Go Go.Proofs Go.RowKit Go.Sx
def jJG (nm:ByteArray) (g l:List (List NC)):sx Tryz.prog spC 53 1 0 (lpC nm g) (jcA Tryz.prog spC 53) (js8 3 cdB) 0 [] (stC nm g l) (jbX Tryz.prog Tryz.f91.results.toList fun v hp _=>jg8 1 [.s [.d (.s nm),.m 118 [0,0,3,3,3,0,148,0] (.st zS l)]] v hp) :=
 jI (by kernel_rfl:(Ob True∧Ob (nm=nm)∧Ob (l=l)∧True)=_) ⟨⟨trivial⟩,⟨rfl⟩,⟨rfl⟩,trivial⟩
def okUB (g:List (List NC)):Bool:=(zo g.length).all fun k=>(jaT (nL (cpK g k) k 2)).isSome&&(jaT (nL (cpK g k) k 3)).isSome&&(jaT (nL (cpK g k) k 4)).isSome&&(jb8 (nR (cpK g k) k 6)).isSome
def jEJ {g:List (List NC)} (h:okUB g=true):okU g:=fun k hk=>by
 have:=List.all_eq_true.1 h k (qJ.2 hk);simp only[zm]at this;exact⟨this.1.1.1,this.1.1.2,this.1.2,this.2⟩
def ja4 (nm:ByteArray) (g:List (List NC)):Option (ByteArray × List (List NC)):=if(decide (g.length*136<=140737488355328)&&okUB g)=true then some (nm,cpK g g.length)else none
def jta:List SV:=[.a [.d,.x (.st zS [])]]
def jlx:List Lf->Option GT
 |[.d (.s nm),.x (.st [.s,.i .i64,.ints .i64,.ints .i64,.ints .i64,.i .i64,.recs 5,.i .i64] g)]=>some (.leaf (ok (ja4 nm g)) [.s [.d (.s (val (ja4 nm g)).1),.m 118 [0,0,3,3,3,0,148,0] (.st zS (val (ja4 nm g)).2)]])
 |_=>none
abbrev sp_91:jaa->jaa:=jan 91 true (jah jta jlx)
def jAq:jaf Tryz.prog 91 true (jah jta jlx):=by
 refine jie (body:=cdB) Tryz.func91 (by kernel_rfl) (by kernel_rfl) ?_;intro ls t hg ho b hb I0 w hlt hh;unfold jlx at hg;split at hg
 ·rename_i nm g;cases hg;obtain rfl:=jap hb;have ho:ok (ja4 nm g):=ho
  have hc:(decide (g.length*136<=140737488355328)&&okUB g)=true:=by
   unfold ja4 at ho
   by_cases h:(decide (g.length*136<=140737488355328)&&okUB g)=true
   ·exact h
   ·rw[if_neg h]at ho;cases ho
  have hv:val (ja4 nm g)=(nm,cpK g g.length):=by
   unfold ja4;rw[if_pos hc];rfl
  rw[zm,decide_eq_true_eq]at hc;have hh0:HRel I0 (kd fun k=>k<w.heap.size) [(0,.xext (.st shV g))] 1 w:=hh
  show Calls Tryz.prog 91 _ w _
  rw[hv];refine jpN (body:=cdB) (n0:=1) (args:=[.w (.a [.d (.s nm),.o 0])]) Tryz.func91 (by kernel_rfl) (zh (by kernel_rfl)) (fun x hx=>hlt x hx) (zq _) I0 w hh0 (fun k hk=>jbM.1 hk) fun a hr=>?_;refine jBk js9 (jb0 mixed js9) (cur:=0) (gs:=[]) 3 cdB _ I0 a w (by kernel_rfl) (cd_vc nm g hc.1 (jEJ hc.2)) hr (jak.refl _ _) (Bel.refl _ _) ?_ ?_
  ·intro I1 st1 a1 w1 hk1 hr1 hag1 hbl1;have hk1:Le 1 st1 (stC nm g (cpK g g.length)):=hk1;obtain⟨I2,hr2,hag2⟩:=hk1.rel hr1;exact ja9 js9 (jb0 mixed js9) (js8 3 cdB) 0 [] _ _ I2 a1 w1 (jJG nm g (cpK g g.length)) hr2 (fun x hx=>(hag2 x hx).trans (hag1 x hx)) hbl1
  ·intro ex I1 st1 a1 w1 hne hk1 _ _ _;cases ex with
   |normal=>exact absurd rfl hne
   |exit j=>exact hk1.elim
   |ret=>exact hk1.elim
 ·cases hg
def sp_91_ok {sp:jaa} (h:jab Tryz.prog sp):jab Tryz.prog (sp_91 sp):=jag jAq h
end Go.Sh
end

section
namespace Go.Sh
open Go Go.Proofs Go.RowKit Go.Sx
open Go.IntKind (wrap)
def y298:List SV:=[.a [.d,.x (.st zS [])]]
def jhP (x0:Int × List Int × List (List NC)) (r1:List Int) (x1:(Int × Int)):Option ((Int × Int) ⊕ Int) :=
 if x1.2<(↑(ze (nL x0.2.2 (zN r1 x0.1) (2:Nat))):Int)then
  if 0<=x1.2∧x1.2<(↑(ze (nL x0.2.2 (zN r1 x0.1) (2:Nat))):Int)then
  if zg x1.2<ze (nL x0.2.2 (zN r1 x0.1) (2:Nat))then
   if 0<=za (nL x0.2.2 (zN r1 x0.1) (2:Nat)) x1.2.toNat (0:Int)∧za (nL x0.2.2 (zN r1 x0.1) (2:Nat)) x1.2.toNat 0<(↑x0.2.1.length:Int)then
   if zg (za (nL x0.2.2 (zN r1 x0.1) (2:Nat)) x1.2.toNat (0:Int))<ze x0.2.1 then
    if zg (za r1 x0.1.toNat (0:Int))<ze x0.2.2 then
    if 0<=x1.2∧x1.2<(↑(ze (nL x0.2.2 (zN r1 x0.1) (3:Nat))):Int)then
     if zg x1.2<ze (nL x0.2.2 (zN r1 x0.1) (3:Nat))then
     some (.inl ((if wrap .i64 (za x0.2.1 (zg (za (nL x0.2.2 (zN r1 x0.1) (2:Nat)) x1.2.toNat (0:Int))) 0+za (nL x0.2.2 (zN r1 x0.1) (3:Nat)) x1.2.toNat (0:Int))>x1.1 then wrap .i64 (za x0.2.1 (zg (za (nL x0.2.2 (zN r1 x0.1) (2:Nat)) x1.2.toNat (0:Int))) 0+za (nL x0.2.2 (zN r1 x0.1) (3:Nat)) x1.2.toNat (0:Int))else x1.1,wrap .i64 (x1.2+1))))
     else none
    else none
    else none
   else none
   else none
  else none
  else none
 else
  some (.inr x1.1)
def jhQ (x0:Int × List Int × List (List NC)) (u26:Int) (r1:List Int) (x2:(Int × List (List NC))):Option ((Int × List (List NC)) ⊕ (Unit ⊕ (List (List NC)))) :=
 if x2.1<(↑(ze (nL x0.2.2 (zN r1 x0.1) (2:Nat))):Int)then
  if 0<=x2.1∧x2.1<(↑(ze (nL x0.2.2 (zN r1 x0.1) (2:Nat))):Int)then
  if zg x2.1<ze (nL x0.2.2 (zN r1 x0.1) (2:Nat))then
   if zg (za r1 x0.1.toNat (0:Int))<ze x2.2 then
   if 0<=za (nL x0.2.2 (zN r1 x0.1) (2:Nat)) x2.1.toNat (0:Int)∧za (nL x0.2.2 (zN r1 x0.1) (2:Nat)) x2.1.toNat 0<(↑x0.2.1.length:Int)then
    if zg (za (nL x0.2.2 (zN r1 x0.1) (2:Nat)) x2.1.toNat (0:Int))<ze x0.2.1 then
    if 0<=x2.1∧x2.1<(↑(ze (nL x2.2 (zN r1 x0.1) (3:Nat))):Int)then
     if zg x2.1<ze (nL x2.2 (zN r1 x0.1) (3:Nat))then
     if zg (za r1 x0.1.toNat (0:Int))<ze (qw x2.2 (zN r1 x0.1) (jfL zS (za x2.2 (zN r1 x0.1) []) (3:Nat) (NC.r (Cont.ints .i64 (qw (nL x2.2 (zN r1 x0.1) (3:Nat)) x2.1.toNat (wrap .i64 (u26-za x0.2.1 (zg (za (nL x0.2.2 (zN r1 x0.1) (2:Nat)) x2.1.toNat (0:Int))) (0:Int))))))))then
      if 0<=x2.1∧x2.1<(↑(ze (nL (qw x2.2 (zN r1 x0.1) (jfL zS (za x2.2 (zN r1 x0.1) []) (3:Nat) (NC.r (Cont.ints .i64 (qw (nL x2.2 (zN r1 x0.1) (3:Nat)) x2.1.toNat (wrap .i64 (u26-za x0.2.1 (zg (za (nL x0.2.2 (zN r1 x0.1) (2:Nat)) x2.1.toNat (0:Int))) (0:Int)))))))) (zN r1 x0.1) (3:Nat))):Int)then
      if zg x2.1<ze (nL (qw x2.2 (zN r1 x0.1) (jfL zS (za x2.2 (zN r1 x0.1) []) (3:Nat) (NC.r (Cont.ints .i64 (qw (nL x2.2 (zN r1 x0.1) (3:Nat)) x2.1.toNat (wrap .i64 (u26-za x0.2.1 (zg (za (nL x0.2.2 (zN r1 x0.1) (2:Nat)) x2.1.toNat (0:Int))) (0:Int)))))))) (zN r1 x0.1) (3:Nat))then
       if za (nL (qw x2.2 (zN r1 x0.1) (jfL zS (za x2.2 (zN r1 x0.1) []) (3:Nat) (NC.r (Cont.ints .i64 (qw (nL x2.2 (zN r1 x0.1) (3:Nat)) x2.1.toNat (wrap .i64 (u26-za x0.2.1 (zg (za (nL x0.2.2 (zN r1 x0.1) (2:Nat)) x2.1.toNat (0:Int))) (0:Int)))))))) (zN r1 x0.1) (3:Nat)) x2.1.toNat (0:Int)>64 then
       some (.inr ((.inl ())))
       else
       some (.inl ((wrap .i64 (x2.1+1),qw x2.2 (zN r1 x0.1) (jfL zS (za x2.2 (zN r1 x0.1) []) (3:Nat) (NC.r (Cont.ints .i64 (qw (nL x2.2 (zN r1 x0.1) (3:Nat)) x2.1.toNat (wrap .i64 (u26-za x0.2.1 (zg (za (nL x0.2.2 (zN r1 x0.1) (2:Nat)) x2.1.toNat (0:Int))) (0:Int))))))))))
      else none
      else none
     else none
     else none
    else none
    else none
   else none
   else none
  else none
  else none
 else
  some (.inr (.inr x2.2))
def jof (x0:Int × List Int × List (List NC)) (u26:Int) (r1:List Int) (u52:Unit):Option ((Int × List Int × List (List NC)) ⊕ (Unit ⊕ (List (List NC)))) :=
 some (.inr ((.inl ())))
def jog (x0:Int × List Int × List (List NC)) (u26:Int) (r1:List Int) (u58:List (List NC)):Option ((Int × List Int × List (List NC)) ⊕ (Unit ⊕ (List (List NC)))) :=
 if zg (za r1 x0.1.toNat (0:Int))<ze u58 then
  if 0<=za r1 x0.1.toNat (0:Int)∧za r1 x0.1.toNat 0<(↑x0.2.1.length:Int)then
  if zg (za r1 x0.1.toNat (0:Int))<ze x0.2.1 then
   some (.inl ((wrap .i64 (x0.1+1),qw x0.2.1 (zN r1 x0.1) (wrap .i64 (u26+nI u58 (zN r1 x0.1) (5:Nat))),u58)))
  else none
  else none
 else none
def jhR (x0:Int × List Int × List (List NC)) (u26:Int) (r1:List Int):(Unit ⊕ (List (List NC)))->Option ((Int × List Int × List (List NC)) ⊕ (Unit ⊕ (List (List NC)))) :=
 (qC (jof x0 u26 r1) (jog x0 u26 r1))
def jhS (x0:Int × List Int × List (List NC)) (r1:List Int) (u26:Int):Option ((Int × List Int × List (List NC)) ⊕ (Unit ⊕ (List (List NC)))) :=
 if zg (za r1 x0.1.toNat (0:Int))<ze x0.2.2 then
  zb (jae (jhQ x0 u26 r1) big (((0:Int),x0.2.2))) (jhR x0 u26 r1)
 else none
def y267 (r1:List Int) (x0:(Int × List Int × List (List NC))):Option ((Int × List Int × List (List NC)) ⊕ (Unit ⊕ (List (List NC)))) :=
 if x0.1<(↑r1.length:Int)then
  if 0<=x0.1∧x0.1<(↑r1.length:Int)then
  if zg x0.1<ze r1 then
   if 0<=za r1 x0.1.toNat (0:Int)∧za r1 x0.1.toNat 0<(↑x0.2.2.length:Int)then
   if zg (za r1 x0.1.toNat (0:Int))<ze x0.2.2 then
    zb (jae (jhP x0 r1) big (((0:Int),0))) (jhS x0 r1)
   else none
   else none
  else none
  else none
 else
  some (.inr (.inr x0.2.2))
def joh (r2:ByteArray × List (List NC)) (u4:Unit):Option (ByteArray × List (List NC) × Int) :=
 some ((qD #[],[],8))
def joi (r2:ByteArray × List (List NC)) (u9:List (List NC)):Option (ByteArray × List (List NC) × Int) :=
 some ((r2.1,u9,0))
def y268 (r2:ByteArray × List (List NC)):(Unit ⊕ (List (List NC)))->Option (ByteArray × List (List NC) × Int) :=
 (qC (joh r2) (joi r2))
def jrg (u3:ByteArray) (u1:List (List NC)):Option (ByteArray × List (List NC) × Int) :=
 if(jih u3 u1)=true then
  zb (jct u3 u1) fun r0 =>
  some (qD #[],[],nzI r0)
 else
  zb (jas u3 u1) fun r1 =>
  zb (ja4 u3 u1) fun r2 =>
  if 0<=(↑u1.length:Int)∧(↑u1.length:Int)=(↑u1.length:Int)∧(↑(8:Nat):Int)*(↑u1.length:Int)<=281474976710656∧(↑u1.length:Int)<=9223372036854775807 then
  zb (jae (y267 r1) big (((0:Int),zf (zg (↑u1.length:Int)) (0:Int),r2.2))) (y268 r2)
  else none
def y299:List Lf->Option GT
 |[.d (.s u3),.x (.st [.s,.i .i64,.ints .i64,.ints .i64,.ints .i64,.i .i64,.recs 5,.i .i64] u1)]=>some (.leaf (ok (jrg u3 u1)) [.s [.d (.s ((val (jrg u3 u1)).1)),.m 118 zE (.st (zS) ((val (jrg u3 u1)).2.1))],.c (.d (.i .i64 ((val (jrg u3 u1)).2.2)))])
 |_=>none
abbrev sp_37:jaa->jaa:=jan 37 true (jah y298 y299)
abbrev y183 (u3:ByteArray) (u1:List (List NC)) (r:ByteArray × List (List NC) × Int):Lp ((Int × List Int × List (List NC)) × Nat) ((Int × List Int × List (List NC))) ((Unit ⊕ (List (List NC)))) ((ByteArray × List (List NC) × Int)) (ByteArray × List (List NC) × Int) :=
 ⟨fun z=>z.1,fun z=>z.2,fun z x n=>(x,n),fun z=>y267 (val (jas u3 u1)),fun z=>y268 (val (ja4 u3 u1)),fun z=>top r,fun z=>0,[.c fun _=>0,.c fun _=>0,.c fun _=>(↑(ze (val (jas u3 u1))):Int),.c fun vv=>vv.1.1,.c fun _=>qD #[],.c fun _=>qd none (0:Nat) (0:Nat),.c fun _=>(val (ja4 u3 u1)).1,.c fun vv=>vv.1.2.1,.c fun _=>val (jas u3 u1),.c fun vv=>vv.1.2.2]⟩
abbrev jhT (u3:ByteArray) (u1:List (List NC)) (r:ByteArray × List (List NC) × Int) (m1:Nat):Lp ((Int × List Int × List (List NC)) × Nat × (Int × Int) × Nat) (Int × Int) Int (((Int × List Int × List (List NC)) ⊕ (Unit ⊕ (List (List NC))))) (ByteArray × List (List NC) × Int) :=
 ⟨fun z=>z.2.2.1,fun z=>z.2.2.2,fun z x n=>(z.1,z.2.1,x,n),fun z=>jhP z.1 (val (jas u3 u1)),fun z=>jhS z.1 (val (jas u3 u1)),fun z=>(y183 u3 u1 r).cx (z.1,m1),fun z=>z.2.1,[.c fun _=>0,.c fun _=>0,.c fun vv=>za (val (jas u3 u1)) vv.1.1.toNat (0:Int),.c fun vv=>zg (za (val (jas u3 u1)) vv.1.1.toNat (0:Int)),.c fun vv=>vv.2.2.1.1,.c fun _=>(↑(ze (val (jas u3 u1))):Int),.c fun vv=>vv.1.1,.c fun vv=>(↑(ze (nL vv.1.2.2 (zg (za (val (jas u3 u1)) vv.1.1.toNat (0:Int))) (2:Nat))):Int),.c fun vv=>vv.2.2.1.2,.c fun _=>qD #[],.c fun _=>qd none (0:Nat) (0:Nat),.c fun _=>(val (ja4 u3 u1)).1,.c fun vv=>vv.1.2.1,.c fun vv=>vv.1.2.2,.c fun _=>val (jas u3 u1),.c fun vv=>zg (za (val (jas u3 u1)) vv.1.1.toNat (0:Int)),.c fun vv=>nL vv.1.2.2 (zg (za (val (jas u3 u1)) vv.1.1.toNat (0:Int))) (2:Nat)]⟩
abbrev jhU (u3:ByteArray) (u1:List (List NC)) (r:ByteArray × List (List NC) × Int) (m1:Nat):Lp ((Int × List Int × List (List NC)) × Nat × Int × (Int × List (List NC)) × Nat) ((Int × List (List NC))) ((Unit ⊕ (List (List NC)))) (((Int × List Int × List (List NC)) ⊕ (Unit ⊕ (List (List NC))))) (ByteArray × List (List NC) × Int) :=
 ⟨fun z=>z.2.2.2.1,fun z=>z.2.2.2.2,fun z x n=>(z.1,z.2.1,z.2.2.1,x,n),fun z=>jhQ z.1 z.2.2.1 (val (jas u3 u1)),fun z=>jhR z.1 z.2.2.1 (val (jas u3 u1)),fun z=>(y183 u3 u1 r).cx (z.1,m1),fun z=>z.2.1,[.c fun _=>0,.c fun _=>0,.c fun vv=>za (val (jas u3 u1)) vv.1.1.toNat (0:Int),.c fun vv=>zg (za (val (jas u3 u1)) vv.1.1.toNat (0:Int)),.c fun vv=>vv.2.2.1,.c fun _=>(↑(ze (val (jas u3 u1))):Int),.c fun vv=>vv.1.1,.c fun vv=>(↑(ze (nL vv.1.2.2 (zg (za (val (jas u3 u1)) vv.1.1.toNat (0:Int))) (2:Nat))):Int),.c fun vv=>vv.2.2.2.1.1,.c fun _=>qD #[],.c fun _=>qd none (0:Nat) (0:Nat),.c fun _=>(val (ja4 u3 u1)).1,.c fun vv=>vv.1.2.1,.c fun vv=>vv.2.2.2.1.2,.c fun _=>val (jas u3 u1),.c fun vv=>zg (za (val (jas u3 u1)) vv.1.1.toNat (0:Int)),.c fun vv=>nL vv.1.2.2 (zg (za (val (jas u3 u1)) vv.1.1.toNat (0:Int))) (2:Nat)]⟩
def jrh (u3:ByteArray) (u1:List (List NC)) (r:ByteArray × List (List NC) × Int):Sk (top r) (zb (jae (y267 (val (jas u3 u1))) big (((0:Int),zf (zg (↑u1.length:Int)) (0:Int),(val (ja4 u3 u1)).2))) (y268 (val (ja4 u3 u1)))) :=
 .loop (y183 u3 u1 r) (fun kk=>(((0:Int),zf (zg (↑u1.length:Int)) (0:Int),(val (ja4 u3 u1)).2),big)) fun z0 =>
 .br
 (.ob (.ob (.ob (.ob (.loop (jhT u3 u1 r z0.2) (fun kk=>(z0.1,kk,((0:Int),0),big)) fun z1 =>
 .br
 (.ob (.ob (.ob (.ob (.ob (.ob (.ob (.next))))))))
 (.exit (.ob (.loop (jhU u3 u1 r z0.2) (fun kk=>(z1.1,kk,z1.2.2.1.1,((0:Int),z1.1.2.2),big)) fun z1 =>
 .br
 (.ob (.ob (.ob (.ob (.ob (.ob (.ob (.ob (.ob (.ob (.br
 (.exit (.exit (.obT (.obT (.ret (fun r=>(Ob (qD #[]=r.1) ∧
 (Ob (ze r.2.1=(0:Nat)) ∧
 (Ob ((8:Int)=r.2.2) ∧
 True)))) ⟨⟨rfl⟩,⟨⟨rfl⟩,⟨⟨rfl⟩,trivial⟩⟩⟩)))))
 (.next))))))))))))
 (.exit (.ob (.ob (.ob (.next)))))))))))))
 (.exit (.obT (.obT (.rc))))
def jtb (u3:ByteArray) (u1:List (List NC)) (r:ByteArray × List (List NC) × Int):Sk (top r) (jrg u3 u1) :=
 .brB
 (.call (.obT (.obT (.ret (fun r=>(Ob (qD #[]=r.1) ∧
 (Ob (ze r.2.1=(0:Nat)) ∧
 (Ob (nzI (val (jct u3 u1))=r.2.2) ∧
 True)))) ⟨⟨rfl⟩,⟨⟨rfl⟩,⟨⟨rfl⟩,trivial⟩⟩⟩))))
 (.call (.call (.ob (jrh u3 u1 r))))
def jri (u3:ByteArray) (u1:List (List NC)) (r:ByteArray × List (List NC) × Int) (h:zb (jrg u3 u1) some=some r):jaG Tryz.f37 ((sp_80 (sp_91 sp0))) (fun gs id st=>match id with
 |0=>some ⟨(Int × List Int × List (List NC)) × Nat,fun z=>⟨[(2,.w (.c (.p 1 0 1 0))),(6,.w (.c (.p 2 0 1 0))),(7,.w (.c (.o 3))),(34,.w (.c (.o 4))),(35,.w (.c (.d (.i .i64 ((↑(ze (val (jas u3 u1))):Int)))))),(36,.w (.c (.d (.i .i64 z.1.1))))],[(1,.box 24 [.d (.s (qD #[])),.d (.v (qd none (0:Nat) (0:Nat)))]),(2,.box 24 [.d (.s ((val (ja4 u3 u1)).1)),.o 5]),(3,.row 3 (.ints .i64 z.1.2.1)),(4,.row 3 (.ints .i64 (val (jas u3 u1)))),(5,.mrow 118 zE (XC.st zS z.1.2.2) none)],6⟩,fun z=>(y183 u3 u1 r).inv z,fun z=>z.2⟩
 |2=>some ⟨(Int × List Int × List (List NC)) × Nat × (Int × Int) × Nat,fun z=>⟨[(2,.w (.c (.p 1 0 1 0))),(6,.w (.c (.p 2 0 1 0))),(7,.w (.c (.o 3))),(9,.w (.c (.d (.i .i64 (za (val (jas u3 u1)) z.1.1.toNat (0:Int)))))),(10,.w (.c (.p 4 (zg (za (val (jas u3 u1)) z.1.1.toNat (0:Int))) 8 (0:Nat)))),(11,.w (.c (.d (.i .i64 z.2.2.1.1)))),(34,.w (.c (.o 5))),(35,.w (.c (.d (.i .i64 ((↑(ze (val (jas u3 u1))):Int)))))),(36,.w (.c (.d (.i .i64 (z.1.1))))),(47,.w (.c (.o 6))),(48,.w (.c (.d (.i .i64 ((↑(ze (nL z.1.2.2 (zg (za (val (jas u3 u1)) z.1.1.toNat (0:Int))) (2:Nat))):Int)))))),(49,.w (.c (.d (.i .i64 z.2.2.1.2))))],[(1,.box 24 [.d (.s (qD #[])),.d (.v (qd none (0:Nat) (0:Nat)))]),(2,.box 24 [.d (.s ((val (ja4 u3 u1)).1)),.o 4]),(3,.row 3 (.ints .i64 (z.1.2.1))),(4,.mrow 118 zE (XC.st zS z.1.2.2) none),(5,.row 3 (.ints .i64 (val (jas u3 u1)))),(6,.sub 4 (zg (za (val (jas u3 u1)) z.1.1.toNat (0:Int))) 8 2 3 (.ints .i64 (nL z.1.2.2 (zg (za (val (jas u3 u1)) z.1.1.toNat (0:Int))) (2:Nat))))],7⟩,fun z=>(jhT u3 u1 r (gs.getD 0 0)).inv z,fun z=>z.2.2.2⟩
 |4=>some ⟨(Int × List Int × List (List NC)) × Nat × Int × (Int × List (List NC)) × Nat,fun z=>⟨[(2,.w (.c (.p 1 0 1 0))),(6,.w (.c (.p 2 0 1 0))),(7,.w (.c (.o 3))),(9,.w (.c (.d (.i .i64 (za (val (jas u3 u1)) z.1.1.toNat (0:Int)))))),(10,.w (.c (.p 4 (zg (za (val (jas u3 u1)) z.1.1.toNat (0:Int))) 8 (0:Nat)))),(11,.w (.c (.d (.i .i64 z.2.2.1)))),(34,.w (.c (.o 5))),(35,.w (.c (.d (.i .i64 ((↑(ze (val (jas u3 u1))):Int)))))),(36,.w (.c (.d (.i .i64 (z.1.1))))),(72,.w (.c (.o 6))),(73,.w (.c (.d (.i .i64 ((↑(ze (nL z.1.2.2 (zg (za (val (jas u3 u1)) z.1.1.toNat (0:Int))) (2:Nat))):Int)))))),(74,.w (.c (.d (.i .i64 z.2.2.2.1.1))))],[(1,.box 24 [.d (.s (qD #[])),.d (.v (qd none (0:Nat) (0:Nat)))]),(2,.box 24 [.d (.s ((val (ja4 u3 u1)).1)),.o 4]),(3,.row 3 (.ints .i64 (z.1.2.1))),(4,.mrow 118 zE (XC.st zS z.2.2.2.1.2) none),(5,.row 3 (.ints .i64 (val (jas u3 u1)))),(6,.sub 4 (zg (za (val (jas u3 u1)) z.1.1.toNat (0:Int))) 8 2 3 (.ints .i64 (nL z.1.2.2 (zg (za (val (jas u3 u1)) z.1.1.toNat (0:Int))) (2:Nat))))],7⟩,fun z=>(jhU u3 u1 r (gs.getD 0 0)).inv z,fun z=>z.2.2.2.2⟩
 |_=>none) (jaC y298 [.d (.s u3),.x (.st zS u1)]) [.s [.d (.s r.1),.m 118 zE (.st (zS) r.2.1)],.c (.d (.i .i64 r.2.2))] :=
 Sk.vc (jtb u3 u1 r) (by kernel_rfl) h
def jrj:jaf Tryz.prog 37 true (jah y298 y299):=by
 refine jal (sp:=(sp_80 (sp_91 sp0))) (fn:=Tryz.f37) (body:=bodyOf Tryz.f37) mixed (sp_80_ok (sp_91_ok jaj)) Tryz.func37 (by kernel_rfl) (by kernel_rfl) fun ls t h ho b hb=>?_;unfold y299 at h;split at h
 ·rename_i u3 u1;cases h;obtain rfl:=jap hb;exact⟨zh (by kernel_rfl),_,_,jri u3 u1 _ (jai ho)⟩
 ·cases h
def sp_37_ok {sp:jaa} (h:jab Tryz.prog sp):jab Tryz.prog (sp_37 sp):=jag jrj h
end Go.Sh
end

section
namespace Go.Sh
open Go Go.Proofs Go.RowKit Go.Sx
def jpV:List (Option Cont):=[]
def jiE (fr:ByteArray) (fs:List (List NC)):Option Bool :=
 zb (jgP fr fs) fun r0 =>
 zb (jka fr fs) fun r1 =>
 zb (jrg fr fs) fun r2 =>
 zb (juS r2.1 r2.2.1) fun r3 =>
 zb (jcv fr fs (xj (fun r=>NC.toFrs (qg r (NC.d (D.v z3)))) [[NC.r (Cont.frs .f32 (32:Nat) [val (joe (101:Int))])]]) []) fun r4 =>
 if(r0.2==0)=true then
  zb (jha r0.1 [(0:Int),1,2,3]) fun r5 =>
  if(r5)=true then
  if(r1.2==0)=true then
   zb (jha r1.1 [(0:Int),2]) fun r6 =>
   if(r6)=true then
   if(r2.2.2==0)=true then
    if(r3.2==0)=true then
    zb (jha r3.1 [(0:Int),3,3,3]) fun r7 =>
    if(r7)=true then
     if(r4.2.2==0)=true then
     if(r4.2.1==0)=true then
      if((↑r4.1.length:Int)==1)=true then
      if(0:Int)<=0∧0<(↑r4.1.length:Int)then
       if 0<ze r4.1 then
       if((↑(ze (za r4.1 0 [])):Int)==1)=true then
        if(0:Int)<=0∧0<(↑r4.1.length:Int)then
        if 0<ze r4.1 then
         if(0:Int)<=0∧0<(↑(ze (za r4.1 0 [])):Int)then
         if 0<ze (za r4.1 0 [])∧(0:Nat)<32 then
          if(qn (FloatKind.format .f32) (za (za (za r4.1 (0:Nat) []) 0 []) (0:Nat) (0:Nat)) (1112276992:Nat)==some Ordering.eq)=true then
          if(0:Int)<=0∧0<(↑r4.1.length:Int)then
           if 0<ze r4.1 then
           if(0:Int)<=0∧0<(↑(ze (za r4.1 0 [])):Int)then
            if 0<ze (za r4.1 0 [])∧(3:Nat)<32 then
            some (qn (FloatKind.format .f32) (za (za (za r4.1 (0:Nat) []) 0 []) (3:Nat) (0:Nat)) (1120534528:Nat)==some Ordering.eq)
            else none
           else none
           else none
          else none
          else
          some false
         else none
         else none
        else none
        else none
       else
        some false
       else none
      else none
      else
      some false
     else
      some false
     else
     some false
    else
     some false
    else
    some false
   else
    some false
   else
   some false
  else
   some false
  else
  some false
 else
  some false
def jAr (fr:ByteArray) (fs:List (List NC)) (r:Bool):Sk (top r) (jiE fr fs) :=
 .obT (.call (.obT (.call (.obT (.call (.call (.obT (.obC (ok (joe (101:Int))) (show(joe 101).isSome=true by kernel_rfl) (.call (.brB
 (.call (.brB
 (.brB
 (.call (.brB
 (.brB
 (.brB
 (.call (.brB
 (.brB
 (.brB
 (.brB
 (.ob (.ob (.brB
 (.ob (.ob (.ob (.obC ((0:Int)<=0∧(0:Int)<32) (by decide) (.ob (.brB
 (.ob (.ob (.ob (.obC ((0:Int)<=3∧(3:Int)<32) (by decide) (.ob (.obT (.rc)))))))
 (.obT (.rc))))))))
 (.obT (.rc)))))
 (.obT (.rc)))
 (.obT (.rc)))
 (.obT (.rc)))
 (.obT (.rc))))
 (.obT (.rc)))
 (.obT (.rc)))
 (.obT (.rc))))
 (.obT (.rc)))
 (.obT (.rc))))
 (.obT (.rc))))))))))))
def jze (fr:ByteArray) (fs:List (List NC)) (r:Bool) (h:zb (jiE fr fs) some=some r):ja1 Tryz.f16 ((sp_20 (sp_49 (sp_37 (sp_31 (sp_75v fr fs (sp_74 (sp_63 (sp_24 sp0))))))))) (fun _ _ _=>none) [] [.d (.b r)] :=
 Sk.vc (jAr fr fs r) (by kernel_rfl) h
attribute [irreducible] jiE
end Go.Sh
end

section
namespace Go.Sh
open Go Go.Proofs Go.RowKit Go.Sx
set_option maxRecDepth 100000
def jHr:jiE joE joF=some true:=by kernel_rfl
def ju2:List A->Option (Prop × List RV)
 |[]=>some (True,[.d (.b true)])
 |_=>none
abbrev sp_16b:jaa->jaa:=jan 16 true (jar jpV ju2)
def jEK:jaf Tryz.prog 16 true (jar jpV ju2):=by
 refine jaA (sp:=(sp_20 (sp_49 (sp_37 (sp_31 (sp_75v joE joF (sp_74 (sp_63 (sp_24 sp0))))))))) (fn:=Tryz.f16) (body:=bodyOf Tryz.f16) mixed (sp_20_ok (sp_49_ok (sp_37_ok (sp_31_ok (sp_75v_ok (sp_74_ok (sp_63_ok (sp_24_ok jaj)))))))) Tryz.func16 (by kernel_rfl) (by kernel_rfl) fun as_ ob rs h ho=>?_;unfold ju2 at h;split at h
 ·cases h;exact⟨zh rfl,_,_,jze joE joF true (by rw[jHr];rfl)⟩
 ·cases h
def sp_16b_ok {sp:jaa} (h:jab Tryz.prog sp):jab Tryz.prog (sp_16b sp):=jag jEK h
end Go.Sh
end

section
namespace Go.Sh
open Go Go.Proofs Go.RowKit Go.Sx
open Go.IntKind (wrap)
def jhV:List SV:=[.a [.d,.x (.st zS [])],.c (.x (.bb .f32 32 []))]
def jbi (in_:List (List (List Nat))) (x0:(Int × List (List (List Nat)))):Option ((Int × List (List (List Nat))) ⊕ (List (List (List Nat)))) :=
 if x0.1<(↑in_.length:Int)then
  if 0<=x0.1∧x0.1<(↑in_.length:Int)then
  if zg x0.1<ze in_ then
   if(ze [zO]+ze (za in_ x0.1.toNat []))*128<=140737488355328∧ze [zO]+ze (za in_ x0.1.toNat [])<=9223372036854775807 then
   if(ze x0.2+ze (xj (fun r=>NC.toFrs (qg r (NC.d (D.v z3)))) [[NC.r (Cont.frs .f32 (ze zD) ([zO]++za in_ x0.1.toNat []))]]))*24<=140737488355328∧ze x0.2+ze (xj (fun r=>NC.toFrs (qg r (NC.d (D.v z3)))) [[NC.r (Cont.frs .f32 (ze zD) ([zO]++za in_ x0.1.toNat []))]])<=9223372036854775807 then
    some (.inl ((wrap .i64 (x0.1+1),x0.2++xj (fun r=>NC.toFrs (qg r (NC.d (D.v z3)))) [[NC.r (Cont.frs .f32 (ze zD) ([zO]++za in_ x0.1.toNat []))]])))
   else none
   else none
  else none
  else none
 else
  some (.inr x0.2)
def jby (in_:List (List (List Nat))) (r5:List (List (List Nat)) × Int × Int) (r7:List (List (List Nat)) × Int × Int) (x1:Int):Option (Int ⊕ (Unit ⊕ Unit)) :=
 if x1<(↑r5.1.length:Int)then
  if 0<=x1∧x1<(↑r7.1.length:Int)then
  if zg x1<ze r7.1 then
   if(0:Int)<=0∧0<(↑in_.length:Int)then
   if 0<ze in_ then
    if((↑(ze (za r7.1 x1.toNat [])):Int)!=wrap .i64 ((↑(ze (za in_ 0 [])):Int)+1))=true then
    some (.inr ((.inl ())))
    else
    if 0<=x1∧x1<(↑r5.1.length:Int)then
     if zg x1<ze r5.1 then
     if(0:Int)<=0∧0<(↑in_.length:Int)then
      if 0<ze in_ then
      if((↑(ze (za r5.1 x1.toNat [])):Int)!=(↑(ze (za in_ 0 [])):Int))=true then
       some (.inr ((.inl ())))
      else
       if 0<=x1∧x1<(↑r7.1.length:Int)then
       if zg x1<ze r7.1 then
        if(0:Int)<=0∧0<(↑(ze (za r7.1 x1.toNat [])):Int)then
        if 0<ze (za r7.1 x1.toNat [])then
         zb (y83 (za (za r7.1 x1.toNat []) 0 []) zO) fun r8 =>
         if(!r8)=true then
         some (.inr ((.inl ())))
         else
         if 0<=x1∧x1<(↑r7.1.length:Int)then
          if zg x1<ze r7.1 then
          if 0<=zM (some (1:Int)) (0:Int)∧zM (some (1:Int)) 0<=zM none (↑(ze (za r7.1 x1.toNat [])):Int)∧zM none (↑(ze (za r7.1 x1.toNat [])):Int)<=(↑(ze (za r7.1 x1.toNat [])):Int)then
           if 0<=x1∧x1<(↑r5.1.length:Int)then
           if zg x1<ze r5.1 then
            zb (jn7 (yH (zg (zM none (↑(ze (za r7.1 x1.toNat [])):Int))-1) (yI (1:Nat) (za r7.1 x1.toNat []))) (za r5.1 x1.toNat [])) fun r9 =>
            if(!r9)=true then
            some (.inr ((.inl ())))
            else
            some (.inl (wrap .i64 (x1+1)))
           else none
           else none
          else none
          else none
         else none
        else none
        else none
       else none
       else none
      else none
     else none
     else none
    else none
   else none
   else none
  else none
  else none
 else
  some (.inr ((.inr ())))
def jmd (u26:Unit):Option Bool :=
 some false
def jme (u33:Unit):Option Bool :=
 some true
def jgt:(Unit ⊕ Unit)->Option Bool :=
 (qC (jmd) (jme))
def jcD (u3:ByteArray) (u1:List (List NC)) (in_:List (List (List Nat))) (u4:List (List (List Nat))):Option Bool :=
 zb (y27 u3 u1) fun r3 =>
 zb (y53 in_) fun r4 =>
 zb (jcv r3.1 r3.2 r4 []) fun r5 =>
 zb (y27 u3 u1) fun r6 =>
 zb (jcv r3.1 r3.2 u4 []) fun r7 =>
 if(r5.2.2 != 0)=true then
  some false
 else
  if(r7.2.2 != 0)=true then
  some false
  else
  if(r7.2.1 != r5.2.1)=true then
   some false
  else
   if((↑r5.1.length:Int)!=(↑r7.1.length:Int))=true then
   some false
   else
   zb (jae (jby in_ r5 r7) big (0:Int)) (jgt)
def jbr (u3:ByteArray) (u1:List (List NC)) (in_:List (List (List Nat))):Option Bool :=
 zb (jeb u3 u1) fun r0 =>
 if(!r0)=true then
  some true
 else
  zb (jls in_) fun r1 =>
  if(!r1)=true then
  some true
  else
  zb (jre u3 u1 in_ []) fun r2 =>
  if(r2 != 0)=true then
   some true
  else
   if((↑in_.length:Int)==0)=true then
   some true
   else
   if(0:Int)<=0∧0<(↑in_.length:Int)then
    if 0<ze in_ then
    if(↑(ze (za in_ 0 [])):Int)>4 then
     some true
    else
     zb (jae (jbi in_) big (((0:Int),[]))) (jcD u3 u1 in_)
    else none
   else none
def jhW:List Lf->Option GT
 |[.d (.s u3),.x (.st [.s,.i .i64,.ints .i64,.ints .i64,.ints .i64,.i .i64,.recs 5,.i .i64] u1),.x (.bb .f32 32 in_)]=>some (.leaf (ok (jbr u3 u1 in_)) [.c (.d (.b ((val (jbr u3 u1 in_)))))])
 |_=>none
abbrev jgu (u3:ByteArray) (u1:List (List NC)) (in_:List (List (List Nat))) (r:Bool):Lp ((Int × List (List (List Nat))) × Nat) ((Int × List (List (List Nat)))) ((List (List (List Nat)))) Bool Bool :=
 ⟨fun z=>z.1,fun z=>z.2,fun z x n=>(x,n),fun z=>jbi in_,fun z=>jcD u3 u1 in_,fun z=>top r,fun z=>0,[.c fun _=>0,.c fun vv=>vv.1.1,.c fun _=>in_,.c fun _=>u3,.c fun vv=>vv.1.2,.c fun _=>u1]⟩
abbrev jgv (u3:ByteArray) (u1:List (List NC)) (in_:List (List (List Nat))) (r:Bool):Lp (List (List (List Nat)) × Int × Nat) Int (Unit ⊕ Unit) Bool Bool :=
 ⟨fun z=>z.2.1,fun z=>z.2.2,fun z x n=>(z.1,x,n),fun z=>jby in_ (val (jcv (val (y27 u3 u1)).1 (val (y27 u3 u1)).2 (val (y53 in_)) [])) (val (jcv (val (y27 u3 u1)).1 (val (y27 u3 u1)).2 z.1 [])),fun z=>jgt,fun z=>top r,fun z=>0,[.c fun vv=>vv.2.1,.c fun _=>in_,.c fun _=>(val (jcv (val (y27 u3 u1)).1 (val (y27 u3 u1)).2 (val (y53 in_)) [])).1,.c fun vv=>(val (jcv (val (y27 u3 u1)).1 (val (y27 u3 u1)).2 vv.1 [])).1]⟩
def jpd (u3:ByteArray) (u1:List (List NC)) (in_:List (List (List Nat))) (r:Bool):Sk (top r) (zb (jae (jbi in_) big (((0:Int),[]))) (jcD u3 u1 in_)) :=
 .loopQ (jgu u3 u1 in_ r) [.c fun _=>0,.c fun vv=>vv.1.1,.c fun _=>in_,.c fun _=>u3,.p fun vv=>ze vv.1.2=(0:Nat),.c fun _=>u1] (fun kk=>(((0:Int),[]),big)) (fun z0 =>
 .br
 (.ob (.ob (.ob (.ob (.next)))))
 (.exit (.call (.call (.call (.call (.call (.brB
 (.obT (.rc))
 (.brB
 (.obT (.rc))
 (.brB
 (.obT (.rc))
 (.brB
 (.obT (.rc))
 (.loop (jgv u3 u1 in_ r) (fun kk=>(z0.1.2,0,big)) fun z0 =>
 .br
 (.ob (.ob (.ob (.ob (.brB
 (.exit (.obT (.rc)))
 (.ob (.ob (.ob (.ob (.brB
 (.exit (.obT (.rc)))
 (.ob (.ob (.ob (.ob (.call (.brB
 (.exit (.obT (.rc)))
 (.ob (.ob (.ob (.ob (.ob (.call (.brB
 (.exit (.obT (.rc)))
 (.next))))))))))))))))))))))))
 (.exit (.obT (.rc))))))))))))))) (fun _=>⟨rfl,trivial⟩)
def jrk (u3:ByteArray) (u1:List (List NC)) (in_:List (List (List Nat))) (r:Bool):Sk (top r) (jbr u3 u1 in_) :=
 .obT (.call (.brB
 (.obT (.rc))
 (.call (.brB
 (.obT (.rc))
 (.call (.brB
 (.obT (.rc))
 (.brB
 (.obT (.rc))
 (.ob (.ob (.br
 (.obT (.rc))
 (jpd u3 u1 in_ r)))))))))))
def jpe (u3:ByteArray) (u1:List (List NC)) (in_:List (List (List Nat))) (r:Bool) (h:zb (jbr u3 u1 in_) some=some r):jaG Tryz.f13 ((sp_16b (sp_17 (sp_62 (sp_65 (sp_64 (sp_19 (sp_63 (sp_68 (sp_61 sp0)))))))))) (fun gs id st=>match id with
 |0=>some ⟨(Int × List (List (List Nat))) × Nat,fun z=>⟨[(1,.w (.c (.o 1))),(2,.w (.c (.p 2 0 1 0))),(5,.w (.c (.o 3))),(6,.w (.c (.d (.i .i64 z.1.1))))],[(1,.xext (XC.bb .f32 (32:Nat) in_)),(2,.box 24 [.d (.s u3),.o 0]),(3,.mrow 79 [(110:Nat)] (XC.bb .f32 (32:Nat) z.1.2) none),(0,.xext (XC.st zS u1))],4⟩,fun z=>(jgu u3 u1 in_ r).inv z,fun z=>z.2⟩
 |2=>some ⟨List (List (List Nat)) × Int × Nat,fun z=>⟨[(1,.w (.c (.o 1))),(7,.w (.c (.o 2))),(10,.w (.c (.o 3))),(13,.w (.c (.d (.i .i64 z.2.1))))],[(1,.xext (XC.bb .f32 (32:Nat) in_)),(2,.mrow 79 [(110:Nat)] (XC.bb .f32 (32:Nat) (val (jcv (val (y27 u3 u1)).1 (val (y27 u3 u1)).2 (val (y53 in_)) [])).1) none),(3,.mrow 79 [(110:Nat)] (XC.bb .f32 (32:Nat) (val (jcv (val (y27 u3 u1)).1 (val (y27 u3 u1)).2 z.1 [])).1) none)],4⟩,fun z=>(jgv u3 u1 in_ r).inv z,fun z=>z.2.2⟩
 |_=>none) (jaC jhV [.d (.s u3),.x (.st zS u1),.x (.bb .f32 32 in_)]) [.c (.d (.b r))] :=
 Sk.vc (jrk u3 u1 in_ r) (by kernel_rfl) h
def jpf:jaf Tryz.prog 13 true (jah jhV jhW):=by
 refine jal (sp:=(sp_16b (sp_17 (sp_62 (sp_65 (sp_64 (sp_19 (sp_63 (sp_68 (sp_61 sp0)))))))))) (fn:=Tryz.f13) (body:=bodyOf Tryz.f13) mixed (sp_16b_ok (sp_17_ok (sp_62_ok (sp_65_ok (sp_64_ok (sp_19_ok (sp_63_ok (sp_68_ok (sp_61_ok jaj))))))))) Tryz.func13 (by kernel_rfl) (by kernel_rfl) fun ls t h ho b hb=>?_;unfold jhW at h;split at h
 ·rename_i u3 u1 in_;cases h;obtain rfl:=jap hb;exact⟨zh (by kernel_rfl),_,_,jpe u3 u1 in_ _ (jai ho)⟩
 ·cases h
attribute [irreducible] jbr
end Go.Sh
end

section
namespace Go.Sh
open Go Go.Proofs Go.RowKit Go.Sx Go.Sx06
variable {g:List (List NC)} {l:List Int}
def jAs {t:List (List (List Nat))}:jls t=some false∨(jls t=some true∧t.length<=10∧∀r∈t,r.length<=18):=by
 unfold jls;have hB:∀n:Nat,(decide (4<n)&&(decide (n<=16)||decide (18<n)))=true<->4<n∧(n<=16∨18<n):=fun n=>by simp
 by_cases h:t.length<=10
 ·rw[if_neg (by omega)]
  have key:∀i,i<t.length->jrf t (i:Int)=if(decide (4<(t.getD i []).length)&&(decide ((t.getD i []).length<=16)||decide (18<(t.getD i []).length)))=true then some (.inr (.inl ()))else some (.inl ((i:Int)+1)):=fun i hi=>by
   unfold jrf;simp only[zi];rw[if_pos (by omega),if_pos (by omega),if_pos hi,jao (by omega)]
   by_cases c1:4<(t.getD i []).length
   ·rw[if_pos (by omega),if_pos (by omega),if_pos hi]
    by_cases c2:(t.getD i []).length<=16
    ·rw[if_pos (by omega),if_pos ((hB _).2 (by omega))]
    ·rw[if_neg (by omega),if_pos (by omega),if_pos hi]
     by_cases c3:18<(t.getD i []).length
     ·rw[if_pos (by omega),if_pos ((hB _).2 (by omega))]
     ·rw[if_neg (by omega),if_neg (fun h=>absurd ((hB _).1 h) (by omega))]
   ·rw[if_neg (by omega),if_neg (fun h=>absurd ((hB _).1 h) (by omega))]
  rw[jb2 t [] (fun r=>decide (4<r.length)&&(decide (r.length<=16)||decide (18<r.length))) (body:=jrf t) (.inl ()) (.inr ()) (by omega)
   (fun i hi hp=>by rw[key i hi,if_pos hp]) (fun i hi hp=>by rw[key i hi,if_neg (by rw[hp];simp)]) (by unfold jrf;rw[if_neg (by omega)]),jac]
  by_cases hany:(t.any fun r=>decide (4<r.length)&&(decide (r.length<=16)||decide (18<r.length)))=true
  ·rw[if_pos hany];exact .inl rfl
  ·rw[if_neg hany];refine .inr ⟨rfl,h,fun r hr=>?_⟩;rw[jZ,xx]at hany;have:=hany r hr;simp only[zm,qK,decide_eq_true_eq]at this;omega
 ·rw[if_pos (by omega)];exact .inl rfl
def jAt {t:List (List (List Nat))} (hl:t.length<=10) (hr:∀r∈t,r.length<=18):y53 t=some t:=by
 have hrec:∀(n:Nat) (x:List (List Nat)),xj (fun r=>NC.toFrs (qg r (NC.d (D.v z3)))) [[NC.r (Cont.frs FloatKind.f32 n x)]]=[x]:=fun n x=>rfl
 have hit:jae (y89 t) big (0,[])=some t:=by
  have:=jlj t [] (fun r=>r) (body:=y89 t) (by omega) (fun i hi o ho=>by
   have h1:=hr (t.getD i []) (by rw[jaw hi];exact zZ hi);unfold y89;simp only[hrec,zi,List.nil_append];rw[if_pos (by omega),if_pos (by omega),if_pos hi,if_pos (by omega),if_pos (by simp only[zA,qi];omega),jao (by omega)]) (fun o=>by
   unfold y89;dsimp only;rw[if_neg (by omega)])
  rw[List.map_id']at this;exact this
 unfold y53;rw[hit];rfl
def jHs {t:List (List (List Nat))} (hl:t.length<=10) (hr:∀r∈t,r.length<=18):jae (jbi t) big (0,[])=some (jaY t):=by
 have hrec:∀(n:Nat) (x:List (List Nat)),xj (fun r=>NC.toFrs (qg r (NC.d (D.v z3)))) [[NC.r (Cont.frs FloatKind.f32 n x)]]=[x]:=fun n x=>rfl
 exact jlj t [] (fun r=>Z32::r) (body:=jbi t) (by omega) (fun i hi o ho=>by
  have h1:=hr (t.getD i []) (by rw[jaw hi];exact zZ hi);unfold jbi;simp only[hrec,zi];rw[if_pos (by omega),if_pos (by omega),if_pos hi,if_pos (by simp only[zA,qi];omega),if_pos (by simp only[zA,qi];omega),jao (by omega)];rfl) (fun o=>by
  unfold jbi;dsimp only;rw[if_neg (by omega)])
def jtc (a:List Nat) (ha:a.length<1000000):jn6 a a=some true:=by
 have hit:jae (juF a a) big 0=some (.inr ()):=jaJ (body:=juF a a) (fun i=>(i:Int)) (k:=a.length) (fun i hi=>by
  unfold juF;rw[if_pos (by omega),if_pos (by omega),if_pos (by omega),if_pos (by omega),if_pos (by omega),if_neg (by simp),jao (by omega)];rfl) (by unfold juF;rw[if_neg (by omega)]) (by omega)
 unfold jn6;rw[if_neg (by simp),hit];rfl
def jkj {a:List Nat} (ha:a.length=32):y83 a a=some true:=by
 unfold y83;rw[if_pos ⟨ha,by decide⟩,if_pos ⟨ha,by decide⟩,xU,xq (by omega),jtc a (by omega)];rfl
def jtd {a:List (List Nat)} (hl:a.length<1000000) (ha:∀b∈a,b.length=32):jn7 a a=some true:=by
 have hit:jae (juJ a a) big 0=some (.inr ()):=jaJ (body:=juJ a a) (fun i=>(i:Int)) (k:=a.length) (fun i hi=>by
  unfold juJ;rw[if_pos (by omega),if_pos (by omega),if_pos (by omega),if_pos (by omega),if_pos (by omega),zi,jkj (ha _ (by rw[jaw hi];exact zZ hi)),jac,if_neg (by simp),jao (by omega)];rfl) (by unfold juJ;rw[if_neg (by omega)]) (by omega)
 unfold jn7;rw[if_neg (by simp),hit];rfl
def jIz (kind:Int):jaD (cpU g) kind=jaD g kind:=by
 have:(fun i=>nI (cpU g) i 1==kind)=fun i=>nI g i 1==kind:=by
  funext i;rw[(cpI i).1]
 unfold jaD jhF;rw[jdH,this]
def jHt (k:Int) (n:Nat):jbn (jcC [] k n)=fun _=>false:=by
 funext u;rw[jnU];simp[jwP]
def jIA {t outs:List (List (List Nat))} {n:Nat} (ht0:0<t.length) (hn:(t.getD 0 []).length=n) (hn2:n<=16) (hl:outs.length<1000) (hr:∀c,c<outs.length->(outs.getD c []).length=n) (h32:T32 outs) (c c' e e':Int) :
  jae (jby t (outs,c,e) (jaY outs,c',e')) big 0=some (.inr ()):=by
 have hll:(jaY outs).length=outs.length:=by simp[jaY]
 refine jaJ (body:=jby t (outs,c,e) (jaY outs,c',e')) (fun i=>(i:Int)) (k:=outs.length) (fun i hi=>?_) ?_ (by omega)
 ·have h1:=hr i hi;have h2:=jdw hi;have hs:=jtd (a:=outs.getD i []) (by omega) (h32 _ (by rw[jaw hi];exact zZ hi));have hz:∀x,x=Z32->y83 Z32 x=some true:=fun x hx=>by rw[hx];exact jkj rfl
  unfold jby;simp only[zi,hll,h2,hn,h1,zA,Option.getD_none,zY,List.drop_succ_cons,xU,List.getD_cons_zero]
  rw[if_pos (by omega),if_pos (by omega),if_pos hi,if_pos (by omega),if_pos ht0,if_neg (by rw[jao (by omega)];simp),if_pos (by omega),if_pos hi,if_pos (by omega),if_pos ht0,if_neg (by simp),if_pos (by omega),if_pos hi,if_pos (by omega),if_pos (by omega),hz _ (by rfl),jac,if_neg (by simp),
   if_pos (by omega),if_pos hi,if_pos (by omega),if_pos (by omega),if_pos hi,xq (by omega),hs,jac,if_neg (by simp),jao (by omega)]
  rfl
 ·unfold jby;rw[if_neg (by dsimp only;omega)]
def jte (nm:ByteArray) (g:List (List NC)) {t:List (List (List Nat))} (h32:T32 t):jbr nm g t=some true:=by
 unfold jbr;rcases jD5 nm g with h|⟨h,hw,hs⟩
 ·rw[h];rfl
 ·rw[h,jac,if_neg (by simp)];rcases jAs (t:=t)with h1|⟨h1,hl,hr⟩
  ·rw[h1];rfl
  ·rw[h1,jac,if_neg (by simp)];have hn:=hw.n;unfold jre;rw[jAc hw hs,jG3 hn (by omega) h32 (fun r h=>by have:=hr r h;omega),jJl nm [] hn];simp only[jac]
   by_cases h0:(cg nm g).2=0
   ·rw[if_neg (show ¬(cg nm g).2≠0 by omega)];cases ho:jdC (jbB g) g.length []with
    |none=>rfl
    |some od =>
     have hR:=rg_of hw h0 ho;dsimp only;rw[if_neg (by simp)]
     by_cases hT:teG (jaD g 0).length t=0
     ·rw[if_neg (by rw[hT];simp),show(cf g.length []).2=0 from rfl,jac,if_neg (by simp)]
      by_cases ht0:0<t.length
      ·rw[if_neg (by simp;intro e;rw[e]at ht0;simp at ht0),if_pos (by omega),if_pos ht0]
       by_cases h4:(t.getD 0 []).length<=4
       ·rw[if_neg (by omega),jHs hl hr,jac];have hc:=hR.cp;have hTR:=jED h32 hT;have hTR':TR (cpU g) t:=⟨by rw[jIz];exact hTR.len,hTR.row,hTR.sht,hTR.blk⟩
        have hTL:=jIv hTR' ht0 (by omega);have h0c:(cg nm (cpU g)).2=0:=by rw[cp_cg];exact h0
        have hll:(jaY t).length=t.length:=by simp[jaY]
        have hlr:((jaY t).getD 0 []).length=(t.getD 0 []).length+1:=by rw[jdw ht0,zA]
        unfold jcD;rw[jH8 hw,jAt hl hr];simp only[jac];rw[jBf hc hs h0c (by omega) h32,jBf hc hs h0c (by omega) (jIw h32),jEE hTR',jEE hTL,show(cf (cpU g).length []).2=0 from rfl,jac,jac];have hfn:(fun k:Nat=>jbn (jcC [] (k:Int) (cpU g).length))=fun _ _=>false:=by funext k;exact jHt _ _
        simp only[ne_eq,not_true,if_false];rw[hfn,hlr,jBj hc (fun _=>false) hTR'.len];obtain⟨_,_,p3,p4,_⟩:=jwQ hc (fun _ _=>false) hTR' (t.getD 0 []).length (zq _);have p32:=jHQ hc (fun _ _=>false) hTR' (t.getD 0 []).length (zq _);have hk:=je8 (cpU g) 4 (cpU g).length;have hcn:=hc.n;have hk4:(jaD (cpU g) 4).length<1000:=by unfold jaD;omega
        generalize (plI (cpU g) od (fun _ _=>false) t (t.getD 0 []).length).2.2.1=outs at *
        generalize (plI (cpU g) od (fun _ _=>false) t (t.getD 0 []).length).2.2.2=cuts at *
        dsimp only;rw[if_neg (by simp),if_neg (by simp),if_neg (by simp),if_neg (by simp[jaY]),jIA ht0 rfl (by omega) (by omega) (fun c hc=>p4 c (by omega)) p32];rfl
       ·rw[if_pos (by omega)]
      ·rw[if_pos (by simp;exact z5 (by omega))]
     ·rw[if_pos (by simpa using hT),jac,if_pos (by simpa using hT)]
   ·rw[if_pos h0,if_pos (by simpa using h0),jac,if_pos (by simpa using h0)]
end Go.Sh
end

section
namespace Go.Sx
open Go.RowKit Go.ChangeShapes Go.WideShapes
inductive K where
 |i (k:IntKind)|b|f (k:z8)|s
def K.fits:K->D->Prop
 | .i k,.i k' n=>k'=k∧(Lit.int k n).wf=true
 | .b,.b _=>True
 | .f k,.f k' n=>k'=k∧(Lit.float k n).wf=true
 | .s,.s x=>x.size<=maxLen
 |_,_=>False
def ja6:List K->List D->Prop
 |[],[]=>True
 |k::ks,d::ds=>k.fits d∧ja6 ks ds
 |_,_=>False
def jfj:∀{ks:List K} {ds:List D} {ks':List K} {ds':List D},ja6 ks ds->ja6 ks' ds'->ja6 (ks++ks') (ds++ds')
 |[],[],_,_,_,h=>h
 |_::_,_::_,_,_,h,h'=>⟨h.1,jfj h.2 h'⟩
 |[],_::_,_,_,h,_=>h.elim
 |_::_,[],_,_,h,_=>h.elim
def jfk:∀{ks:List K} {ds:List D},ja6 ks ds->ds.length=ks.length
 |[],[],_=>rfl
 |_::_,_::_,h=>by simp[jfk h.2]
 |[],_::_,h=>h.elim
 |_::_,[],h=>h.elim
def jgS (g:qH->Option (List K)) (P:zL):Nat->List Field->Option (List K)
 |_,[]=>some []
 |n,f::fs=>match g f.type with
  |none=>none
  |some ks=>if f.offset=n∧P.cellsOf f.type=ks.length then(jgS g P (n+ks.length) fs).map (ks ++ ·)else none
def jiF (P:zL):Nat->qH->Option (List K)
 |0,_=>none
 |d+1,t=>match P.underlying t with
  |some .bool=>some [.b]
  |some (.int k)=>some [.i k]
  |some (.float k)=>some [.f k]
  |some .string=>some [.s]
  |some (.struct fs)=>match jgS (jiF P d) P 0 fs.toList with
   |some ks=>if P.cellsOf t=ks.length then some ks else none
   |none=>none
  |some (.array n e)=>match jiF P d e with
   |some ks=>if P.cellsOf t=n*ks.length∧P.cellsOf e=ks.length then some (zf n ks).flatten else none
   |none=>none
  |_=>none
section
variable {H:Type} {enc:qH × zt->H} {P:zL} {w:zs} {base:Nat} {spare:Nat->Bool} {held:Bool}
def jpW {ks:List K} {e:qH} {m:Nat} (ih:∀cs x,xC enc P w base spare held m e cs=some x->∃ds:List D,cs=ds.map D.val∧ja6 ks ds) :
  ∀(n:Nat) (cs:List zt),cs.length=n*ks.length->(∀i,i<n->∃x,xC enc P w base spare held m e ((cs.drop (i*ks.length)).take ks.length)=some x)->∃ds:List D,cs=ds.map D.val∧ja6 (zf n ks).flatten ds
 |0,cs,hl,_=>⟨[],by simpa using hl,trivial⟩
 |n+1,cs,hl,h=>by
  obtain⟨x,hx⟩:=h 0 (by omega);obtain⟨ds0,h0,h1⟩:=ih _ x hx
  obtain⟨ds1,h2,h3⟩:=jpW ih n (cs.drop ks.length) (by rw[xm,hl,qz];omega) (fun i hi=>by
   obtain⟨y,hy⟩:=h (i+1) (by omega);refine⟨y,?_⟩;rw[jT];rw[show ks.length+i*ks.length=(i+1)*ks.length by rw[qz];omega];exact hy)
  refine⟨ds0++ds1,?_,jfj h1 h3⟩;rw[qQ,<-h0,<-h2];simp
def joj {g:qH->Option (List K)} {m:Nat} (ih:∀t ks cs x,g t=some ks->xC enc P w base spare held m t cs=some x->∃ds:List D,cs=ds.map D.val∧ja6 ks ds) :
  ∀(fs:List Field) (n:Nat) (ks:List K) (cs:List zt),jgS g P n fs=some ks->cs.length=n+ks.length->(∀f∈fs,∃x,xC enc P w base spare held m f.type ((cs.drop f.offset).take (P.cellsOf f.type))=some x) ->
   ∃ds:List D,cs.drop n=ds.map D.val∧ja6 ks ds
 |[],n,ks,cs,hk,hl,_=>by
  simp only[jgS,zk]at hk;subst hk;refine⟨[],?_,trivial⟩;simp at hl;simp[hl]
 |f::fs,n,ks,cs,hk,hl,h=>by
  simp only[jgS]at hk;split at hk
  ·cases hk
  ·rename_i kf hg;split at hk
   ·rename_i hc;cases hr:jgS g P (n+kf.length) fs with
    |none=>simp[hr]at hk
    |some kr =>
     simp only[hr,qr,zk]at hk;subst hk;obtain⟨x,hx⟩:=h f zw;rw[hc.1,hc.2]at hx;obtain⟨ds0,h0,h1⟩:=ih f.type kf _ x hg hx;obtain⟨ds1,h2,h3⟩:=joj ih fs (n+kf.length) kr cs hr (by rw[hl,qh];omega) (fun f' hf'=>h f' (zu _ hf'));refine⟨ds0++ds1,?_,jfj h1 h3⟩;rw[qQ,<-h0,<-h2,<-jT];exact(xF _ _).symm
   ·cases hk
def jgI:∀(d:Nat) (t:qH) (ks:List K) (fuel:Nat) (cs:List zt) (x:DataW H × List j8),jiF P d t=some ks->xC enc P w base spare held fuel t cs=some x ->
  ∃ds:List D,cs=ds.map D.val∧ja6 ks ds
 |0,_,_,_,_,_,h,_=>by cases h
 |d+1,t,ks,fuel,cs,x,hk,hx=>by
  unfold jiF at hk;split at hk
  ·rename_i ht;cases hk;obtain⟨b,rfl,_⟩:=DataW.trod_bool ht hx;exact⟨[.b b],rfl,trivial,trivial⟩
  ·rename_i k ht;cases hk;obtain⟨n,rfl,_,hw⟩:=DataW.trod_int ht hx;exact⟨[.i k n],rfl,⟨rfl,hw⟩,trivial⟩
  ·rename_i k ht;cases hk;cases fuel with
   |zero=>simp[xC]at hx
   |succ n =>
    rcases cs with _|⟨v,_|⟨v',r⟩⟩
    ·simp[xC,ht]at hx
    ·cases v with
     |float k2 n2 =>
      simp only[xC,ht]at hx;split at hx
      ·rename_i hh;exact⟨[.f k2 n2],rfl,⟨hh.1,hh.2⟩,trivial⟩
      ·cases hx
     |_=>simp[xC,ht]at hx
    ·simp[xC,ht]at hx
  ·rename_i ht;cases hk;obtain⟨z,rfl,_,hw⟩:=DataW.trod_string ht hx;exact⟨[.s z],rfl,hw,trivial⟩
  ·rename_i fs ht;split at hk
   ·rename_i ks' hks;split at hk
    ·rename_i hc;cases hk;obtain⟨xs,n,rfl,_,hl,hxl,hf⟩:=gq ht hx
     have:=joj (enc:=enc) (w:=w) (base:=base) (spare:=spare) (held:=held) (g:=jiF P d) (m:=n) (fun t ks cs x h1 h2=>jgI d t ks n cs x h1 h2) fs.toList 0 ks cs hks (by rw[hl,hc];omega) (fun f hfm=>by
      obtain⟨i,hi,hfi⟩:=xf.1 hfm;have hi':i<fs.size:=by simpa using hi
      have h1:=hf i f (by rw[qX hi'];simpa using hfi);exact⟨xs[i]'(by omega),by rw[h1,zG]⟩)
     simpa using this
    ·cases hk
   ·cases hk
  ·rename_i n e ht;split at hk
   ·rename_i ks' hks;split at hk
    ·rename_i hc;cases hk;obtain⟨xs,m,rfl,_,hl,hxl,hf⟩:=fH ht hx
     exact jpW (fun cs x h=>jgI d e ks' m cs x hks h) n cs (by rw[hl,hc.1]) (fun i hi=>by
      have h1:=hf i hi;rw[hc.2]at h1;exact⟨xs[i]'(by omega),by rw[h1,zG]⟩)
    ·cases hk
   ·cases hk
  ·cases hk
def jEL {t e:qH} {ks:List K} {d fuel:Nat} {cs:List zt} {x:DataW H × List j8} (ht:P.underlying t=some (.slice e)) (hk:jiF P d e=some ks) (hc:P.cellsOf e=ks.length) (h0:0<ks.length)
  (hx:xC enc P w base spare held fuel t cs=some x) :
  ∃(v:zt) (rows:List (List D)),cs=[v]∧(∀r∈rows,ja6 ks r)∧jaO w v (.lits ks.length rows)∧(x.1=.nil∧rows=[]∨∃el sp,x.1=.slice el sp∧el.length=rows.length):=by
 rcases fI ht hx with ⟨rfl,rfl⟩|⟨a,len,cap,elems,rest,n,rfl,rfl,rfl,hb,hl,hm,hel,hi,_,_⟩
 ·exact⟨_,[],rfl,(fun _ h=>by cases h),⟨none,0,rfl,⟨by simp[Cont.n],fun _=>rfl⟩,fun h=>absurd h (by simp[Cont.n])⟩,.inl ⟨rfl,rfl⟩⟩
 ·-- each element's cells
  have hget:∀i,i<len->∃ds:List D,ja6 ks ds∧∀j,j<ks.length->w.cell? ((a.add (i*ks.length)).add j)=(ds[j]?).map D.val:=fun i hil=>by
   have h1:=hi i hil;rw[hc]at h1;have h2:elems[i]?=some (elems[i]'(by omega)):=zG (by omega);rw[h2]at h1;obtain⟨cs',hcs,htr⟩:=zQ.1 h1;obtain⟨ds,hds,hfit⟩:=jgI d e ks n cs' _ hk htr;obtain⟨_,hcl,hat⟩:=fy hcs;refine⟨ds,hfit,fun j hj=>?_⟩;rw[hat j hj,hds,List.getElem?_map]
  let R:Nat->List D:=fun i=>if h:i<len then yD (hget i h)else[]
  have hR:∀i (h:i<len),ja6 ks (R i)∧∀j,j<ks.length->w.cell? ((a.add (i*ks.length)).add j)=((R i)[j]?).map D.val:=fun i h=>by
   show ja6 ks (if h:i<len then _ else _)∧_
   simp only[R,dif_pos h];exact ja (hget i h)
  refine⟨_,(zo len).map R,rfl,fun r hr=>?_,?_,.inr ⟨_,_,rfl,by simp[hel]⟩⟩
  ·obtain⟨i,hi',rfl⟩:=qa.1 hr;exact(hR i (by simpa using hi')).1
  ·refine⟨some a,cap,by simp[Cont.n],⟨by simpa [Cont.n]using hl,fun h=>by cases h⟩,fun hn=>?_⟩;have hn:0<len:=by simpa [Cont.n]using hn
   have hsp:a.spot=none:=by
    have h1:=(hR 0 hn).2 0 h0;have hfl:=jfk (hR 0 hn).1;rw[zG (by omega)]at h1;simp[fq]at h1;cases hs:a.spot with
    |none=>rfl
    |some s =>
     exfalso;unfold g8 at h1;simp only[hs]at h1;split at h1
     ·simp at h1
     ·cases h1
   obtain⟨b,off,sp⟩:=a;simp only at hsp;subst hsp;refine⟨b,off,rfl,fun j y hj=>?_⟩;have hne:0<ks.length:=h0;have hjl:j<(Cont.lits ks.length ((zo len).map R)).flat.length:=(zB.1 hj).1;rw[Cont.flat_length]at hjl;simp only[Cont.n,Cont.e,qk,yq]at hjl;have hq:j/ks.length<len:=ym (by rw[xr];exact hjl);have hr:j%ks.length<ks.length:=xY _ hne;have hg:=Cont.flat_get (.lits ks.length ((zo len).map R)) (i:=j/ks.length) (j:=j%ks.length) (by simpa [Cont.n]using hq) hr;have ej:j/ks.length*ks.length+j%ks.length=j:=by rw[xr];exact x9 j _
   simp only[Cont.e]at hg;rw[ej,hj]at hg;have hcell:=(hR (j/ks.length) hq).2 (j%ks.length) hr;have hfl:=jfk (hR (j/ks.length) hq).1;rw[jaW,jaW,xz,ej,zG (by omega)]at hcell;rw[hcell];simp only[zk]at hg;simp[hg,Cont.cell,za,hq,zG (show j%ks.length<(R (j/ks.length)).length by omega)]
def jrl {v:zt} {c c':Cont} (h:jaO w v c) (hn:c'.n=c.n) (hf:c'.flat=c.flat):jaO w v c':=by
 obtain⟨a,cap,hv,hc,hcell⟩:=h
 exact⟨a,cap,by rw[hn];exact hv,by rw[hn];exact hc,fun h=>by
  obtain⟨b,off,e,hx⟩:=hcell (by rw[<-hn];exact h);exact⟨b,off,e,by rw[hf];exact hx⟩⟩
def jBl:∀{n:Nat} {r:List D},ja6 (zf n (.i .i64)) r->∃l:List Int,r=l.map (D.i .i64)∧l.length=n∧∀x∈l,inI x
 |0,[],_=>⟨[],rfl,rfl,fun _ h=>by cases h⟩
 |n+1,.i k x::r,h=>by
  obtain⟨l,h1,h2,h3⟩:=jBl (n:=n) h.2;obtain⟨rfl,hw⟩:=h.1;refine⟨x::l,by rw[h1];rfl,by simp[h2],fun y hy=>?_⟩;rcases qp.1 hy with rfl|hy
  ·unfold inI;simpa [Lit.wf,kt,ku,fZ,ki]using hw
  ·exact h3 y hy
 |0,_::_,h=>h.elim
 |_+1,[],h=>h.elim
 |_+1,.b _::_,h=>h.1.elim
 |_+1,.f _ _::_,h=>h.1.elim
 |_+1,.s _::_,h=>h.1.elim
 |_+1,.v _::_,h=>h.1.elim
def jEM {n:Nat} {rows:List (List D)} (h:∀r∈rows,ja6 (zf n (.i .i64)) r):∃l:List (List Int),rows=l.map (fun r=>r.map (D.i .i64))∧l.length=rows.length∧∀r∈l,r.length=n∧∀x∈r,inI x:=by
 induction rows with
 |nil=>exact⟨[],rfl,rfl,fun _ h=>by cases h⟩
 |cons r rows ih =>
  obtain⟨l,h1,h2,h3⟩:=ih fun r hr=>h r (zu _ hr);obtain⟨x,h4,h5,h6⟩:=jBl (h r zw);refine⟨x::l,by rw[h1,h4];rfl,by simp[h2],fun y hy=>?_⟩;rcases qp.1 hy with rfl|hy
  ·exact⟨h5,h6⟩
  ·exact h3 y hy
def jEN {n:Nat} {l:List (List Int)} (h:∀r∈l,r.length=n):(Cont.recs n l).flat=(Cont.lits n (l.map fun r=>r.map (D.i .i64))).flat:=by
 simp only[Cont.flat]
 induction l with
 |nil=>rfl
 |cons r l ih =>
  rw[xg,zJ,xg,ih fun r hr=>h r (zu _ hr)]
  congr 1
  have hr:=h r zw;subst hr;rw[jmo];exact(litD_self' (r.map (D.i .i64)) (by simp)).symm
 where
 litD_self' {n:Nat} (r:List D) (h:r.length=n):jkl n r=r:=by subst h;exact jhZ r
end
section
variable [Globs] {P:zL} {w:zs}
end
section
variable {H:Type} {enc:qH × zt->H} {P:zL}
def jzf {sp:Nat->Bool} (hl:laidOutB P=true) {W W':zs} (hb:x8 W.heap.size W W'):∀(ts:List qH) (vs:List zt) (ds:List (DataW H)) (ps:List j8),(∀t∈ts,P.readableRec t=true∧t<P.types.size) ->
  gD enc P W 0 (fun _=>true) true ts vs ds ps->(∀p∈ps,p.block<W.heap.size)->(∀p∈ps,sp p.block=true)->gD enc P W' 0 sp true ts vs ds ps
 |[],[],[],_,_,h,_,_=>h
 |t::ts,v::vs,d::ds,ps,ht,h,hlt,hs=>by
  obtain⟨p,q,h1,h2,rfl⟩:=h;have htt:=ht t zw
  exact⟨p,q,WideElems.Trod_stays hl htt.1 htt.2 h1 (fun x hx=>hb.same (hlt x (yn _ hx))) (fun x hx=>hs x (yn _ hx)),
   jzf hl hb ts vs ds q (fun t ht'=>ht t (zu _ ht')) h2 (fun x hx=>hlt x (yg _ hx)) (fun x hx=>hs x (yg _ hx)),rfl⟩
 |[],_::_,_,_,_,h,_,_=>h.elim
 |_::_,[],_,_,_,h,_,_=>h.elim
 |[],[],_::_,_,_,h,_,_=>h.elim
 |_::_,_::_,[],_,_,h,_,_=>h.elim
def jHu {f:Func} {s:ChangeSpec} {apart fresh handsOn again:Bool} {W W':zs} {args:Array zt} {ds gs:List (DataW H)} {before:List j8} {tb:qH} (hvars:s.vars=[]) (hrt:f.resultTypes=#[tb]) (htb:P.underlying tb=some .bool)
  (hres:(s.fn H (ds++gs)).results=[.lit (.bool true)]) (hargs:(s.fn H (ds++gs)).args=ds) (hsv:(s.fn H (ds++gs)).vars=[]) (hl:laidOutB P=true) (hread:∀t∈f.params.toList,P.readableRec t=true∧t<P.types.size)
  (hW:DataW.Whole enc P f.params.toList s.vars apart W args.toList ds gs before) (hb:x8 W.heap.size W W'):s.post enc P f apart fresh handsOn again W args (.bool true) W':=by
 have hlt:∀p∈before,p.block<W.heap.size:=fun p hp=>hW.lt p hp;have hW':=hW;obtain⟨p,q,h1,h2,rfl,hfz,hnd⟩:=hW';rw[hvars]at h2
 have hq:q=[]:=by
  cases gs with
  |nil=>exact h2
  |cons _ _=>exact h2.elim
 subst hq;rw[List.append_nil]at hlt hfz hnd;have hA:∀sp:Nat->Bool,(∀x∈p,sp x.block=true)->gD enc P W' 0 sp true f.params.toList args.toList ds p:=fun sp hs=>jzf hl hb _ _ _ _ hread h1 hlt hs;have hR:∀(b:Nat) (sp:Nat->Bool) (hd:Bool),gD enc P W' b sp hd [tb] [.bool true] [.lit (.bool true)] []:=fun b sp hd=>⟨[],[],⟨1,by simp[xC,htb,gX]⟩,rfl,rfl⟩
 have hrl:(Value.bool true).resultList f.resultTypes.size=[.bool true]:=by rw[hrt];rfl
 have hrt':f.resultTypes.toList=[tb]:=by rw[hrt]
 refine⟨ds,gs,p++[],[],p,[],hW,?_,?_,?_,World.keptBut_mono (fun x hx=>⟨hx,.inr (.inl (by simpa using hx))⟩) (hb.frame (·∈ p++[])),fun _=>⟨fun j t r hj hr=>?_,?_⟩⟩
 ·rw[hrl,hrt',hres];exact hR _ _ _
 ·rw[hargs];exact hA _ (fun x hx=>by simpa using hlt x hx)
 ·rw[hvars,hsv];rfl
 ·rw[hrt]at hj;rw[hrl]at hr;cases j with
  |zero =>
   simp at hj hr;subst hj;subst hr;exact okWide_bool_mk htb _
  |succ j=>simp at hj
 ·refine⟨[.lit (.bool true)]++ds,[],p,⟨p,[],?_,by rw[hvars];rfl,by simp,?_,?_⟩,fun x hx _=>by simpa using hx⟩
  ·rw[hrl,hrt'];exact⟨[],p,⟨1,by simp[xC,htb,gX]⟩,hA _ (fun _ _=>rfl),rfl⟩
  ·intro b off hp;rw[hb.frozen (hlt _ hp)];exact hfz b off hp
  ·exact hnd
end
section
variable {H:Type} {enc:qH × zt->H} {P:zL} {w:zs} {base:Nat} {spare:Nat->Bool} {held:Bool} {r:Reach} {b0:Nat}
def jHv {t e:qH} {v v':zt} (ht:P.underlying t=some (.slice e)) (hval:gM P w r b0 t v) (h:v.cells.toList=[v']):v=v':=by
 obtain⟨a,len,cap,rfl⟩:=okWide_slice ht hval;simpa [gX]using h
end
end Go.Sx
end

section
namespace Go.Sx
open Go.RowKit Go.ChangeShapes Go.WideShapes
inductive K2 where
 |d (k:K)
 |s (ks:List K)
inductive T1 where
 |d (x:D)
 |r (c:Cont)
 |xl (X:XC)
inductive Cell2 (w:zs):K2->zt->T1->Prop where
 |d (k:K) (x:D) (h:k.fits x):Cell2 w (.d k) x.val (.d x)
 |s (ks:List K) (v:zt) (rows:List (List D)) (h0:0<ks.length) (h:∀r∈rows,ja6 ks r) (hr:jaO w v (.lits ks.length rows)):Cell2 w (.s ks) v (.r (.lits ks.length rows))
inductive Cells2 (w:zs):List K2->List zt->List T1->Prop where
 |nil:Cells2 w [] [] []
 |cons {k:K2} {v:zt} {t:T1} {ks:List K2} {vs:List zt} {ts:List T1} (h:Cell2 w k v t) (r:Cells2 w ks vs ts):Cells2 w (k::ks) (v::vs) (t::ts)
def Cells2.append {w:zs} {ks ks':List K2} {vs vs':List zt} {ts ts':List T1} (h:Cells2 w ks vs ts) (h':Cells2 w ks' vs' ts'):Cells2 w (ks++ks') (vs++vs') (ts++ts'):=by
 induction h with
 |nil=>exact h'
 |cons h r ih=>exact .cons h ih
def jfl (g:qH->Option (List K2)) (P:zL):Nat->List Field->Option (List K2)
 |_,[]=>some []
 |n,f::fs=>match g f.type with
  |none=>none
  |some ks=>if f.offset=n∧P.cellsOf f.type=ks.length then(jfl g P (n+ks.length) fs).map (ks ++ ·)else none
def jet (P:zL):Nat->qH->Option (List K2)
 |0,_=>none
 |d+1,t=>match jiF P d t with
  |some ks=>some (ks.map .d)
  |none=>match P.underlying t with
   |some (.slice e)=>match jiF P d e with
    |some (k::ks)=>if P.cellsOf e=ks.length+1 then some [.s (k::ks)]else none
    |_=>none
   |some (.struct fs)=>match jfl (jet P d) P 0 fs.toList with
    |some ks=>if P.cellsOf t=ks.length then some ks else none
    |none=>none
   |some (.array n e)=>match jet P d e with
    |some ks=>if P.cellsOf t=n*ks.length∧P.cellsOf e=ks.length then some (zf n ks).flatten else none
    |none=>none
   |_=>none
section
variable {H:Type} {enc:qH × zt->H} {P:zL} {w:zs} {base:Nat} {spare:Nat->Bool} {held:Bool}
def jHw {ks:List K} {ds:List D} (h:ja6 ks ds):Cells2 w (ks.map .d) (ds.map D.val) (ds.map .d):=by
 induction ks generalizing ds with
 |nil=>cases ds with
  |nil=>exact .nil
  |cons _ _=>exact h.elim
 |cons k ks ih=>cases ds with
  |nil=>exact h.elim
  |cons d ds=>exact .cons (.d k d h.1) (ih h.2)
def jlJ {g:qH->Option (List K2)} {m:Nat} (ih:∀t ks cs x,g t=some ks->xC enc P w base spare held m t cs=some x->∃ts,Cells2 w ks cs ts) :
  ∀(fs:List Field) (n:Nat) (ks:List K2) (cs:List zt),jfl g P n fs=some ks->cs.length=n+ks.length->(∀f∈fs,∃x,xC enc P w base spare held m f.type ((cs.drop f.offset).take (P.cellsOf f.type))=some x) ->
   ∃ts,Cells2 w ks (cs.drop n) ts
 |[],n,ks,cs,hk,hl,_=>by
  simp only[jfl,zk]at hk;subst hk;refine⟨[],?_⟩;simp at hl;rw[yU (by omega)];exact .nil
 |f::fs,n,ks,cs,hk,hl,h=>by
  simp only[jfl]at hk;split at hk
  ·cases hk
  ·rename_i kf hg;split at hk
   ·rename_i hc;cases hr:jfl g P (n+kf.length) fs with
    |none=>simp[hr]at hk
    |some kr =>
     simp only[hr,qr,zk]at hk;subst hk;obtain⟨x,hx⟩:=h f zw;rw[hc.1,hc.2]at hx;obtain⟨ts0,h0⟩:=ih f.type kf _ x hg hx;obtain⟨ts1,h1⟩:=jlJ ih fs (n+kf.length) kr cs hr (by rw[hl,qh];omega) (fun f' hf'=>h f' (zu _ hf'));refine⟨ts0++ts1,?_⟩;have e:cs.drop n=(cs.drop n).take kf.length++cs.drop (n+kf.length):=by rw[<-jT];exact(xF _ _).symm
     rw[e];exact h0.append h1
   ·cases hk
def jok {ks:List K2} {e:qH} {m:Nat} (ih:∀cs x,xC enc P w base spare held m e cs=some x->∃ts,Cells2 w ks cs ts) :
  ∀(n:Nat) (cs:List zt),cs.length=n*ks.length->(∀i,i<n->∃x,xC enc P w base spare held m e ((cs.drop (i*ks.length)).take ks.length)=some x)->∃ts,Cells2 w (zf n ks).flatten cs ts
 |0,cs,hl,_=>by
  have:cs=[]:=by simpa using hl
  subst this;exact⟨[],.nil⟩
 |n+1,cs,hl,h=>by
  obtain⟨x,hx⟩:=h 0 (by omega);obtain⟨t0,h0⟩:=ih _ x hx
  obtain⟨t1,h1⟩:=jok ih n (cs.drop ks.length) (by rw[xm,hl,qz];omega) (fun i hi=>by
   obtain⟨y,hy⟩:=h (i+1) (by omega);refine⟨y,?_⟩;rw[jT];rw[show ks.length+i*ks.length=(i+1)*ks.length by rw[qz];omega];exact hy)
  refine⟨t0++t1,?_⟩;have:=h0.append h1;simpa [yu]using this
def jfz:∀(d:Nat) (t:qH) (ks:List K2) (fuel:Nat) (cs:List zt) (x:DataW H × List j8),jet P d t=some ks->xC enc P w base spare held fuel t cs=some x->∃ts,Cells2 w ks cs ts
 |0,_,_,_,_,_,h,_=>by cases h
 |d+1,t,ks,fuel,cs,x,hk,hx=>by
  unfold jet at hk;split at hk
  ·rename_i ks' hks;cases hk;obtain⟨ds,rfl,h2⟩:=jgI d t ks' fuel cs x hks hx;exact⟨_,jHw h2⟩
  ·split at hk
   ·rename_i e ht;split at hk
    ·rename_i k ks' hks;split at hk
     ·rename_i hc;cases hk;obtain⟨v,rows,rfl,h2,h3,_⟩:=jEL ht hks (by simpa using hc) (by simp) hx;exact⟨_,.cons (.s _ v rows (by simp) h2 h3) .nil⟩
     ·cases hk
    ·cases hk
   ·rename_i fs ht;split at hk
    ·rename_i ks' hks;split at hk
     ·rename_i hc;cases hk;obtain⟨xs,n,rfl,_,hl,hxl,hf⟩:=gq ht hx
      have:=jlJ (enc:=enc) (w:=w) (base:=base) (spare:=spare) (held:=held) (g:=jet P d) (m:=n) (fun t ks cs x h1 h2=>jfz d t ks n cs x h1 h2) fs.toList 0 ks cs hks (by rw[hl,hc];omega) (fun f hfm=>by
       obtain⟨i,hi,hfi⟩:=xf.1 hfm;have hi':i<fs.size:=by simpa using hi
       have h1:=hf i f (by rw[qX hi'];simpa using hfi);exact⟨xs[i]'(by omega),by rw[h1,zG]⟩)
      simpa using this
     ·cases hk
    ·cases hk
   ·rename_i n e ht;split at hk
    ·rename_i ks' hks;split at hk
     ·rename_i hc;cases hk;obtain⟨xs,m,rfl,_,hl,hxl,hf⟩:=fH ht hx
      exact jok (fun cs x h=>jfz d e ks' m cs x hks h) n cs (by rw[hl,hc.1]) (fun i hi=>by
       have h1:=hf i hi;rw[hc.2]at h1;exact⟨xs[i]'(by omega),by rw[h1,zG]⟩)
     ·cases hk
    ·cases hk
   ·cases hk
end
inductive T1Is (w:zs):zt->T1->Prop where
 |d (x:D):T1Is w x.val (.d x)
 |r (v:zt) (c:Cont) (he:0<c.e) (h:jaO w v c):T1Is w v (.r c)
 |xl (v:zt) (X:XC) (h:IsX (fun k=>k<w.heap.size) w v X):T1Is w v (.xl X)
def jrm {w:zs} {v:zt} {t:T1} (h:Cell2 w (.d (.i .i64)) v t):∃n:Int,T1Is w v (.d (.i .i64 n))∧inI n:=by
 cases h with
 |d k x h =>
  cases x with
  |i k n =>
   obtain⟨rfl,hw⟩:=h;exact⟨n,.d _,by unfold inI;simpa [Lit.wf,kt,ku,fZ,ki]using hw⟩
  |_=>exact h.elim
def jzg {w:zs} {v:zt} {t:T1} (h:Cell2 w (.d .s) v t):∃n:ByteArray,T1Is w v (.d (.s n))∧n.size<=maxLen:=by
 cases h with
 |d k x h =>
  cases x with
  |s n=>exact⟨n,.d _,h⟩
  |_=>exact h.elim
def jvL {w:zs} {n:Nat} {v:zt} {t:T1} (h:Cell2 w (.s (zf n (.i .i64))) v t):∃l:List (List Int),T1Is w v (.r (.recs n l))∧∀r∈l,r.length=n∧∀x∈r,inI x:=by
 cases h with
 |s ks v rows h0 h2 h3 =>
  obtain⟨l,h5,h6,h7⟩:=jEM h2;subst h5;rw[yf]at h0 h3;exact⟨l,.r v _ h0 (jrl h3 (by simp[Cont.n]) (jEN fun r hr=>(h7 r hr).1)),h7⟩
def jol {w:zs} {v:zt} {t:T1} (h:Cell2 w (.s [.i .i64]) v t):∃l:List Int,T1Is w v (.r (.ints .i64 l))∧∀x∈l,inI x:=by
 obtain⟨l,h2,h3⟩:=jvL (n:=1) h;cases h2 with
 |r _ _ _ h2 =>
  refine⟨l.map (fun r=>r.getD 0 0),.r v _ (Nat.succ_pos 0) (jrl h2 (by simp[Cont.n]) ?_),fun x hx=>?_⟩
  ·simp only[Cont.flat];rename_i he;clear h2 he
   induction l with
   |nil=>rfl
   |cons r l ih =>
    rw[zJ,xg,xg,ih (fun r hr=>h3 r (zu _ hr))];rfl
  ·obtain⟨r,hr,rfl⟩:=qa.1 hx;have:=h3 r hr
   match r,this with
   |[y],this=>exact this.2 y (by simp)
section
variable [Globs]
inductive T2 where
 |c (t:T1)
 |a (l:List T1)
inductive T1sAre (w:zs):List zt->List T1->Prop where
 |nil:T1sAre w [] []
 |cons {v:zt} {t:T1} {vs:List zt} {ts:List T1} (h:T1Is w v t) (r:T1sAre w vs ts):T1sAre w (v::vs) (t::ts)
inductive T2Is (w:zs):zt->T2->Prop where
 |c {v:zt} {t:T1} (h:T1Is w v t):T2Is w v (.c t)
 |a {vs:List zt} {ts:List T1} (h:T1sAre w vs ts):T2Is w (.agg vs.toArray) (.a ts)
inductive T2sAre (w:zs):List zt->List T2->Prop where
 |nil:T2sAre w [] []
 |cons {v:zt} {t:T2} {vs:List zt} {ts:List T2} (h:T2Is w v t) (r:T2sAre w vs ts):T2sAre w (v::vs) (t::ts)
structure TB where
 cs:List C
 hp:Hp
 n:Nat
def T1.bld (n:Nat):T1->TB
 | .d x=>⟨[.d x],[],n⟩
 | .r c=>⟨[.o n],[(n,.ext c)],n+1⟩
 | .xl X=>⟨[.o n],[(n,.xext X)],n+1⟩
def jtf:Nat->List T1->TB
 |n,[]=>⟨[],[],n⟩
 |n,t::l=>let a:=t.bld n;let b:=jtf a.n l; ⟨a.cs++b.cs,b.hp++a.hp,b.n⟩
structure TV where
 vs:List V
 hp:Hp
 n:Nat
def T2.bld (n:Nat):T2->TV
 | .c t=>let a:=t.bld n; ⟨[.w (.c (jgB a.cs))],a.hp,a.n⟩
 | .a l=>let a:=jtf n l; ⟨[.w (.a a.cs)],a.hp,a.n⟩
def jcE:Nat->List T2->TV
 |n,[]=>⟨[],[],n⟩
 |n,t::l=>let a:=t.bld n;let b:=jcE a.n l; ⟨a.vs++b.vs,b.hp++a.hp,b.n⟩
def Hk (w:zs) (v:zt):O->Prop
 | .ext c=>jaO w v c∧0<c.e
 | .xext X=>IsX (fun k=>k<w.heap.size) w v X
 |_=>False
structure TOK (w:zs) (n:Nat) (I I':Env) (vals:List zt) (cs:List C) (hp:Hp) (n':Nat):Prop where
 agree:jak n I I'
 le:n<=n'
 val:cs.map (C.val I')=vals
 lt:∀c∈cs,C.lt n' c
 heap:∀k o,find hp k=some o->n<=k∧k<n'∧Hk w (I' k) o
def T1.bld_ok {w:zs} {v:zt} {t:T1} (h:T1Is w v t) (n:Nat) (I:Env):∃I',TOK w n I I' [v] (t.bld n).cs (t.bld n).hp (t.bld n).n:=by
 cases h with
 |d x=>exact⟨I,jak.refl _ _,zq _,rfl,(fun c hc=>by simp only[T1.bld,zW]at hc;subst hc;trivial),fun _ _ h=>by cases h⟩
 |r v c he h =>
  refine⟨upd I n v,jav _ _ _,xe _,by simp[T1.bld,C.val],(fun c hc=>by simp only[T1.bld,zW]at hc;subst hc;exact zp n),fun k o hf=>?_⟩;simp only[T1.bld,find]at hf;split at hf
  ·rename_i e;subst e;cases hf;exact⟨zq _,zp _,by rw[upd_same];exact⟨h,he⟩⟩
  ·cases hf
 |xl v X h =>
  refine⟨upd I n v,jav _ _ _,xe _,by simp[T1.bld,C.val],(fun c hc=>by simp only[T1.bld,zW]at hc;subst hc;exact zp n),fun k o hf=>?_⟩;simp only[T1.bld,find]at hf;split at hf
  ·rename_i e;subst e;cases hf;exact⟨zq _,zp _,by rw[upd_same];exact h⟩
  ·cases hf
def TOK.append {w:zs} {n n1 n2:Nat} {I I1 I2:Env} {a b:List zt} {ca cb:List C} {ha hb:Hp} (h1:TOK w n I I1 a ca ha n1) (h2:TOK w n1 I1 I2 b cb hb n2):TOK w n I I2 (a++b) (ca++cb) (hb++ha) n2:=by
 refine⟨h1.agree.trans h2.agree h1.le,qS h1.le h2.le,?_,?_,?_⟩
 ·rw[qQ,h2.val,<-h1.val]
  congr 1
  exact qy fun c hc=>C.val_agree h2.agree (h1.lt c hc)
 ·intro c hc;rcases qE.1 hc with hc|hc
  ·exact C.lt_mono h2.le (h1.lt c hc)
  ·exact h2.lt c hc
 ·intro k o hf;rw[jat]at hf;cases hg:find hb k with
  |some o2 =>
   rw[hg]at hf;cases hf;obtain⟨q1,q2,q3⟩:=h2.heap k o hg;exact⟨qS h1.le q1,q2,q3⟩
  |none =>
   rw[hg]at hf;obtain⟨q1,q2,q3⟩:=h1.heap k o hf;exact⟨q1,zF q2 h2.le,by rw[h2.agree k q2];exact q3⟩
def jHx {w:zs} {vs:List zt} {ts:List T1} (h:T1sAre w vs ts):∀(n:Nat) (I:Env),∃I',TOK w n I I' vs (jtf n ts).cs (jtf n ts).hp (jtf n ts).n:=by
 induction h with
 |nil=>exact fun n I=>⟨I,jak.refl _ _,zq _,rfl,(fun _ h=>by cases h),fun _ _ h=>by cases h⟩
 |cons h r ih =>
  intro n I;obtain⟨I1,k1⟩:=T1.bld_ok h n I;obtain⟨I2,k2⟩:=ih _ I1;exact⟨I2,k1.append k2⟩
structure TVOK (w:zs) (n:Nat) (I I':Env) (vals:List zt) (vs:List V) (hp:Hp) (n':Nat):Prop where
 agree:jak n I I'
 le:n<=n'
 val:vs.map (V.val I')=vals
 lt:∀c∈vs,V.lt n' c
 heap:∀k o,find hp k=some o->n<=k∧k<n'∧Hk w (I' k) o
def T2.bld_ok {w:zs} {v:zt} {t:T2} (h:T2Is w v t) (n:Nat) (I:Env):∃I',TVOK w n I I' [v] (t.bld n).vs (t.bld n).hp (t.bld n).n:=by
 cases h with
 | @c v t h =>
  obtain⟨I',k⟩:=T1.bld_ok h n I;have hone:∃c,(t.bld n).cs=[c]:=by cases t<;>exact⟨_,rfl⟩
  obtain⟨c,hc⟩:=hone;have hval:=k.val;have hlt:=k.lt;rw[hc]at hval hlt;refine⟨I',k.agree,k.le,?_,?_,k.heap⟩
  ·simp only[T2.bld,hc,jgB,zJ,qZ,V.val,W.val];simpa using hval
  ·intro y hy;simp only[T2.bld,hc,jgB,zW]at hy;subst hy;exact hlt c zw
 | @a vs ts h =>
  obtain⟨I',k⟩:=jHx h n I;refine⟨I',k.agree,k.le,?_,?_,k.heap⟩
  ·simp only[T2.bld,zJ,qZ,V.val,W.val,k.val]
  ·intro y hy;simp only[T2.bld,zW]at hy;subst hy;exact k.lt
def jHy {w:zs} {vs:List zt} {ts:List T2} (h:T2sAre w vs ts):∀(n:Nat) (I:Env),∃I',TVOK w n I I' vs (jcE n ts).vs (jcE n ts).hp (jcE n ts).n:=by
 induction h with
 |nil=>exact fun n I=>⟨I,jak.refl _ _,zq _,rfl,(fun _ h=>by cases h),fun _ _ h=>by cases h⟩
 | @cons v t vs ts h r ih =>
  intro n I;obtain⟨I1,k1⟩:=T2.bld_ok h n I;obtain⟨I2,k2⟩:=ih (t.bld n).n I1;refine⟨I2,k1.agree.trans k2.agree k1.le,qS k1.le k2.le,?_,?_,?_⟩
  ·simp only[jcE,qQ,k2.val]
   have:(t.bld n).vs.map (V.val I2)=[v]:=by
    rw[<-k1.val];exact qy fun c hc=>V.val_agree k2.agree (k1.lt c hc)
   rw[this];rfl
  ·intro c hc;rcases qE.1 hc with hc|hc
   ·exact V.lt_mono k2.le (k1.lt c hc)
   ·exact k2.lt c hc
  ·intro k o hf;have hf:find ((jcE (t.bld n).n ts).hp++(t.bld n).hp) k=some o:=hf;rw[jat]at hf;cases hg:find (jcE (t.bld n).n ts).hp k with
   |some o2 =>
    rw[hg]at hf;cases hf;obtain⟨q1,q2,q3⟩:=k2.heap k o hg;exact⟨qS k1.le q1,q2,q3⟩
   |none =>
    rw[hg]at hf;obtain⟨q1,q2,q3⟩:=k1.heap k o hf;exact⟨q1,zF q2 k2.le,by rw[k2.agree k q2];exact q3⟩
def jC4 {P:zL} {w:zs} {f:Nat} {shs:List SV} {g:List Lf->Option GT} {vs:List zt} {ts:List T2} {ls:List Lf} {am:List C} {ob:Prop} {b:Bool} {fn:Func} (hok:jaf P f true (jah shs g)) (hargs:T2sAre w vs ts)
  (hto:jiR (jcE 0 ts).hp shs (jcE 0 ts).vs=some (ls,am)) (hg:g ls=some (.leaf ob [.c (.d (.b b))])) (ho:ob) (hb:b=true)
  (hfn:P.funcs[f]?=some fn) (hbody:fn.body=some (fn.body.getD .skip)) (hn:(fn.name == "runtime.NumGoroutine")=false) (hgl:jbC (fun k=>k<w.heap.size) w) :
  Calls P f vs.toArray w fun e w'=>e=.returned (.bool true)∧x8 w.heap.size w w':=by
 subst hb;obtain⟨I,k⟩:=jHy hargs 0 (fun _=>z3)
 have hh:HRel I (kd fun k=>k<w.heap.size) (jcE 0 ts).hp (jcE 0 ts).n w:=by
  refine⟨fun x o hf=>?_,fun x o x' o' q hf hf' _ hb=>?_,hgl⟩
  ·obtain⟨_,q2,q3⟩:=k.heap x o hf;cases o with
   |ext c=>exact⟨q2,trivial,q3.1,jaO.lt q3.1 q3.2⟩
   |xext X=>exact⟨q2,trivial,q3⟩
   |_=>exact q3.elim
  ·obtain⟨_,_,q3⟩:=k.heap x o hf;cases o with
   |ext c=>cases hb
   |xext X=>cases hb
   |_=>exact q3.elim
 have:=(hok.sound hfn hbody hn).sound I (kd fun k=>k<w.heap.size) w (jcE 0 ts).vs (jcE 0 ts).hp (jcE 0 ts).n ((GT.leaf ob [.c (.d (.b true))]).toRT am (jcE 0 ts).hp (jcE 0 ts).n) (by
  unfold jah;rw[hto];dsimp only;rw[hg]) ho k.lt hh (fun k hk=>jbM.1 hk)
 rw[k.val]at this;refine this.mono ?_;rintro e w' ⟨I',rfl,hl⟩;exact⟨rfl,hl.mono rfl⟩
end
end Go.Sx
end

section
namespace Go.Sx
open Go.RowKit Go.ChangeShapes Go.WideShapes
def jC5 (w:zs) (ks:List K2) (v:zt):Prop :=
 ∃(n:Nat) (us:Nat->List zt) (ts:Nat->List T1) (a:Option Addr) (cap:Nat),(∀i,i<n->Cells2 w ks (us i) (ts i))∧v=.slice a n cap∧(n<=cap∧(a=none->cap=0)) ∧
  (0<n->∃b off,a=some ⟨b,off,none⟩∧b<w.heap.size∧∀i j,i<n->j<ks.length->w.cell? ⟨b,off+(i*ks.length+j),none⟩=(us i)[j]?)
inductive K3 where
 |k (k:K2)
 |x (ks:List K2)
inductive Cell3 (w:zs):K3->zt->Prop where
 |k (k:K2) (v:zt) (t:T1) (h:Cell2 w k v t):Cell3 w (.k k) v
 |x (ks:List K2) (v:zt) (h0:0<ks.length) (h:jC5 w ks v):Cell3 w (.x ks) v
inductive Cells3 (w:zs):List K3->List zt->Prop where
 |nil:Cells3 w [] []
 |cons {k:K3} {v:zt} {ks:List K3} {vs:List zt} (h:Cell3 w k v) (r:Cells3 w ks vs):Cells3 w (k::ks) (v::vs)
def Cells3.append {w:zs} {ks ks':List K3} {vs vs':List zt} (h:Cells3 w ks vs) (h':Cells3 w ks' vs'):Cells3 w (ks++ks') (vs++vs'):=by
 induction h with
 |nil=>exact h'
 |cons h r ih=>exact .cons h ih
def jHz {w:zs} {ks:List K2} {vs:List zt} {ts:List T1} (h:Cells2 w ks vs ts):Cells3 w (ks.map .k) vs:=by
 induction h with
 |nil=>exact .nil
 |cons h r ih=>exact .cons (.k _ _ _ h) ih
def jfm (g:qH->Option (List K3)) (P:zL):Nat->List Field->Option (List K3)
 |_,[]=>some []
 |n,f::fs=>match g f.type with
  |none=>none
  |some ks=>if f.offset=n∧P.cellsOf f.type=ks.length then(jfm g P (n+ks.length) fs).map (ks ++ ·)else none
def jom (P:zL):Nat->qH->Option (List K3)
 |0,_=>none
 |d+1,t=>match jet P d t with
  |some ks=>some (ks.map .k)
  |none=>match P.underlying t with
   |some (.slice e)=>match jet P d e with
    |some (k::ks)=>if P.cellsOf e=ks.length+1 then some [.x (k::ks)]else none
    |_=>none
   |some (.struct fs)=>match jfm (jom P d) P 0 fs.toList with
    |some ks=>if P.cellsOf t=ks.length then some ks else none
    |none=>none
   |_=>none
def Cells2.len {w:zs} {ks:List K2} {vs:List zt} {ts:List T1} (h:Cells2 w ks vs ts):vs.length=ks.length∧ts.length=ks.length:=by
 induction h with
 |nil=>exact⟨rfl,rfl⟩
 |cons h r ih=>exact⟨by simp[ih.1],by simp[ih.2]⟩
section
variable {H:Type} {enc:qH × zt->H} {P:zL} {w:zs} {base:Nat} {spare:Nat->Bool} {held:Bool}
def jtg {t e:qH} {ks:List K2} {d fuel:Nat} {cs:List zt} {x:DataW H × List j8} (ht:P.underlying t=some (.slice e)) (hk:jet P d e=some ks) (hc:P.cellsOf e=ks.length) (h0:0<ks.length)
  (hx:xC enc P w base spare held fuel t cs=some x):∃v,cs=[v]∧jC5 w ks v:=by
 rcases fI ht hx with ⟨rfl,rfl⟩|⟨a,len,cap,elems,rest,n,rfl,rfl,rfl,hb,hl,hm,hel,hi,_,_⟩
 ·exact⟨_,rfl,0,fun _=>[],fun _=>[],none,0,fun i hi=>by omega,rfl,⟨zq _,fun _=>rfl⟩,fun h=>by omega⟩
 ·have hget:∀i,i<len->∃p:List zt × List T1,Cells2 w ks p.1 p.2∧∀j,j<ks.length->w.cell? ((a.add (i*ks.length)).add j)=p.1[j]?:=fun i hil=>by
   have h1:=hi i hil;rw[hc]at h1;have h2:elems[i]?=some (elems[i]'(by omega)):=zG (by omega);rw[h2]at h1;obtain⟨cs',hcs,htr⟩:=zQ.1 h1;obtain⟨ts,hts⟩:=jfz d e ks n cs' _ hk htr;obtain⟨_,hcl,hat⟩:=fy hcs;exact⟨(cs',ts),hts,fun j hj=>hat j hj⟩
  let R:Nat->List zt × List T1:=fun i=>if h:i<len then yD (hget i h)else([],[])
  have hR:∀i (h:i<len),Cells2 w ks (R i).1 (R i).2∧∀j,j<ks.length->w.cell? ((a.add (i*ks.length)).add j)=(R i).1[j]?:=fun i h=>by
   have e:R i=yD (hget i h):=dif_pos h;rw[e];exact ja (hget i h)
  refine⟨_,rfl,len,fun i=>(R i).1,fun i=>(R i).2,some a,cap,fun i h=>(hR i h).1,rfl,⟨hl,fun h=>by cases h⟩,fun hn=>?_⟩;have hlen:=(hR 0 hn).1.len.1
  have hcell0:w.cell? ((a.add (0*ks.length)).add 0)=some ((R 0).1[0]'(by omega)):=by
   rw[(hR 0 hn).2 0 h0,zG]
  have hsp:a.spot=none:=by
   have h1:=hcell0;simp[fq]at h1;cases hs:a.spot with
   |none=>rfl
   |some s =>
    exfalso;unfold g8 at h1;simp only[hs]at h1;split at h1
    ·simp at h1
    ·cases h1
  obtain⟨b,off,sp⟩:=a;simp only at hsp;subst hsp;refine⟨b,off,rfl,?_,fun i j hi hj=>?_⟩
  ·have h1:=hcell0;rw[jaW,jaW]at h1;exact qO w _ h1
  ·have:=(hR i hi).2 j hj;rw[jaW,jaW,xz]at this;exact this
def jlK {g:qH->Option (List K3)} {m:Nat} (ih:∀t ks cs x,g t=some ks->xC enc P w base spare held m t cs=some x->Cells3 w ks cs) :
  ∀(fs:List Field) (n:Nat) (ks:List K3) (cs:List zt),jfm g P n fs=some ks->cs.length=n+ks.length->(∀f∈fs,∃x,xC enc P w base spare held m f.type ((cs.drop f.offset).take (P.cellsOf f.type))=some x) ->
   Cells3 w ks (cs.drop n)
 |[],n,ks,cs,hk,hl,_=>by
  simp only[jfm,zk]at hk;subst hk;simp at hl;rw[yU (by omega)];exact .nil
 |f::fs,n,ks,cs,hk,hl,h=>by
  simp only[jfm]at hk;split at hk
  ·cases hk
  ·rename_i kf hg;split at hk
   ·rename_i hc;cases hr:jfm g P (n+kf.length) fs with
    |none=>simp[hr]at hk
    |some kr =>
     simp only[hr,qr,zk]at hk;subst hk;obtain⟨x,hx⟩:=h f zw;rw[hc.1,hc.2]at hx;have h0:=ih f.type kf _ x hg hx;have h1:=jlK ih fs (n+kf.length) kr cs hr (by rw[hl,qh];omega) (fun f' hf'=>h f' (zu _ hf'));have e:cs.drop n=(cs.drop n).take kf.length++cs.drop (n+kf.length):=by rw[<-jT];exact(xF _ _).symm
     rw[e];exact h0.append h1
   ·cases hk
def jpX:∀(d:Nat) (t:qH) (ks:List K3) (fuel:Nat) (cs:List zt) (x:DataW H × List j8),jom P d t=some ks->xC enc P w base spare held fuel t cs=some x->Cells3 w ks cs
 |0,_,_,_,_,_,h,_=>by cases h
 |d+1,t,ks,fuel,cs,x,hk,hx=>by
  unfold jom at hk;split at hk
  ·rename_i ks' hks;cases hk;obtain⟨ts,h2⟩:=jfz d t ks' fuel cs x hks hx;exact jHz h2
  ·split at hk
   ·rename_i e ht;split at hk
    ·rename_i k ks' hks;split at hk
     ·rename_i hc;cases hk;obtain⟨v,rfl,h2⟩:=jtg ht hks (by simpa using hc) (by simp) hx;exact .cons (.x _ v (by simp) h2) .nil
     ·cases hk
    ·cases hk
   ·rename_i fs ht;split at hk
    ·rename_i ks' hks;split at hk
     ·rename_i hc;cases hk;obtain⟨xs,n,rfl,_,hl,hxl,hf⟩:=gq ht hx
      have:=jlK (enc:=enc) (w:=w) (base:=base) (spare:=spare) (held:=held) (g:=jom P d) (m:=n) (fun t ks cs x h1 h2=>jpX d t ks n cs x h1 h2) fs.toList 0 ks cs hks (by rw[hl,hc];omega) (fun f hfm=>by
       obtain⟨i,hi,hfi⟩:=xf.1 hfm;have hi':i<fs.size:=by simpa using hi
       have h1:=hf i f (by rw[qX hi'];simpa using hfi);exact⟨xs[i]'(by omega),by rw[h1,zG]⟩)
      simpa using this
     ·cases hk
    ·cases hk
   ·cases hk
def jC6 {r:Reach} {b0:Nat} {t:qH} {d:Nat} {ks:List K3} {v:zt} {x:DataW H} {p:List j8} (ht:jbE P t=some true) (hk:jom P d t=some ks)
  (hval:gM P w r b0 t v) (h:kv enc P w base spare held t v x p):∃vs,v=.agg (List.toArray vs)∧Cells3 w ks vs:=by
 obtain⟨fuel,hx⟩:=h;have h1:=jpX d t ks fuel _ _ hk hx
 have hv:∃cs,v=.agg cs:=by
  unfold gM at hval;cases hU:P.underlying t with
  |none=>simp[jbE,hU]at ht
  |some u =>
   rw[hU]at hval;cases u with
   |struct fs=>obtain⟨cs,h,_⟩:=hval;exact⟨cs,h⟩
   |array n e=>obtain⟨cs,h,_⟩:=hval;exact⟨cs,h⟩
   |_=>simp[jbE,hU]at ht
 obtain⟨cs,rfl⟩:=hv;exact⟨cs.toList,by simp,h1⟩
end
def T1.nc:T1->NC
 | .d x=>.d x
 | .r c=>.r c
 | .xl _=>.d (.v z3)
section
variable [Globs]
def jgJ {w:zs} {v:zt} {t:T1} (h:T1Is w v t) (hx:∀X,t≠.xl X):t.nc.at (fun k=>k<w.heap.size) w v:=by
 cases h with
 |d x=>exact rfl
 |r v c he h=>exact⟨h,jaO.lt h he⟩
 |xl v X h=>exact(hx X rfl).elim
abbrev jC7:List K2:=[.d .s,.d (.i .i64),.s [.i .i64],.s [.i .i64],.s [.i .i64],.d (.i .i64),.s (zf 5 (.i .i64)),.d (.i .i64)]
abbrev jfA:List NK:=zS
def jrn {w:zs} {vs:List zt} {ts:List T1} (h:Cells2 w jC7 vs ts):∃r:List NC,jcS jfA r∧r.length=8∧vs.length=8∧∀j u,vs[j]?=some u->(r.getD j (.d (.v z3))).at (fun k=>k<w.heap.size) w u:=by
 rcases h with _|⟨k0,r0⟩
 rcases r0 with _|⟨k1,r1⟩
 rcases r1 with _|⟨k2,r2⟩
 rcases r2 with _|⟨k3,r3⟩
 rcases r3 with _|⟨k4,r4⟩
 rcases r4 with _|⟨k5,r5⟩
 rcases r5 with _|⟨k6,r6⟩
 rcases r6 with _|⟨k7,r7⟩
 cases r7;obtain⟨a0,e0,_⟩:=jzg k0;obtain⟨a1,e1,_⟩:=jrm k1;obtain⟨a2,e2,_⟩:=jol k2;obtain⟨a3,e3,_⟩:=jol k3;obtain⟨a4,e4,_⟩:=jol k4;obtain⟨a5,e5,_⟩:=jrm k5;obtain⟨a6,e6,_⟩:=jvL k6;obtain⟨a7,e7,_⟩:=jrm k7;refine⟨[.d (.s a0),.d (.i .i64 a1),.r (.ints .i64 a2),.r (.ints .i64 a3),.r (.ints .i64 a4),.d (.i .i64 a5),.r (.recs 5 a6),.d (.i .i64 a7)],⟨rfl,fun j k x hk hx=>?_⟩,rfl,rfl,fun j u hu=>?_⟩
 ·match j,hk,hx with
  |0,hk,hx=>cases hk;cases hx;rfl
  |1,hk,hx=>cases hk;cases hx;rfl
  |2,hk,hx=>cases hk;cases hx;rfl
  |3,hk,hx=>cases hk;cases hx;rfl
  |4,hk,hx=>cases hk;cases hx;rfl
  |5,hk,hx=>cases hk;cases hx;rfl
  |6,hk,hx=>cases hk;cases hx;rfl
  |7,hk,hx=>cases hk;cases hx;rfl
  |j+8,hk,hx=>simp at hk
 ·match j,hu with
  |0,hu=>cases hu;exact jgJ e0 (fun X h=>by cases h)
  |1,hu=>cases hu;exact jgJ e1 (fun X h=>by cases h)
  |2,hu=>cases hu;exact jgJ e2 (fun X h=>by cases h)
  |3,hu=>cases hu;exact jgJ e3 (fun X h=>by cases h)
  |4,hu=>cases hu;exact jgJ e4 (fun X h=>by cases h)
  |5,hu=>cases hu;exact jgJ e5 (fun X h=>by cases h)
  |6,hu=>cases hu;exact jgJ e6 (fun X h=>by cases h)
  |7,hu=>cases hu;exact jgJ e7 (fun X h=>by cases h)
  |j+8,hu=>simp at hu
def jC8 {w:zs} {v:zt} (h:Cell3 w (.x jC7) v):∃l:List (List NC),T1Is w v (.xl (.st jfA l)):=by
 cases h with
 |x ks v h0 h =>
  obtain⟨n,us,ts,a,cap,h1,rfl,h3,h4⟩:=h
  let R:Nat->List NC:=fun i=>if h:i<n then yD (jrn (h1 i h))else[]
  have hR:∀i (h:i<n),jcS jfA (R i)∧(R i).length=8∧(us i).length=8∧∀j u,(us i)[j]?=some u->((R i).getD j (.d (.v z3))).at (fun k=>k<w.heap.size) w u:=fun i h=>by
   have e:R i=yD (jrn (h1 i h)):=dif_pos h;rw[e];exact ja (jrn (h1 i h))
  have hrows:∀r∈(zo n).map R,jcS jfA r:=fun r hr=>by
   obtain⟨i,hi,rfl⟩:=qa.1 hr;exact(hR i (qJ.1 hi)).1
  obtain⟨m1,m2,m3⟩:=(XC.st jfA []).cell_mk hrows;have m1:(XC.st jfA ((zo n).map R)).n=((zo n).map R).length:=m1;have m3:∀i j,i<((zo n).map R).length->j<8->(XC.st jfA ((zo n).map R)).cell i j=(((zo n).map R).getD i []).getD j (.d (.v z3)):=m3;have hn:(XC.st jfA ((zo n).map R)).n=n:=by rw[m1];simp
  refine⟨(zo n).map R,.xl _ _ ⟨a,cap,by rw[hn],by rw[hn];exact h3,fun h=>?_⟩⟩;rw[hn]at h;obtain⟨b,off,rfl,hb,hc⟩:=h4 h;refine⟨b,off,rfl,hb,fun i j hi hj=>?_⟩;rw[hn]at hi;have hj:j<8:=hj;obtain⟨_,q2,q3,q4⟩:=hR i hi;have hu:(us i)[j]?=some ((us i)[j]'(by omega)):=zG (by omega);refine⟨_,(hc i j hi hj).trans hu,?_⟩;rw[m3 i j (by simpa using hi) hj];have:((zo n).map R).getD i []=R i:=by simp[za,hi]
  rw[this];exact q4 j _ hu
end
end Go.Sx
end

section
namespace Go.Sx
open Go.RowKit Go.ChangeShapes Go.WideShapes
def jzh {k:z8}:∀{n:Nat} {r:List D},ja6 (zf n (.f k)) r->∃l:List Nat,r=l.map (D.f k)∧l.length=n
 |0,[],_=>⟨[],rfl,rfl⟩
 |n+1,.f k' x::r,h=>by
  obtain⟨l,h1,h2⟩:=jzh (n:=n) h.2;obtain⟨rfl,_⟩:=h.1;exact⟨x::l,by rw[h1];rfl,by simp[h2]⟩
 |0,_::_,h=>h.elim
 |_+1,[],h=>h.elim
 |_+1,.b _::_,h=>h.1.elim
 |_+1,.i _ _::_,h=>h.1.elim
 |_+1,.s _::_,h=>h.1.elim
 |_+1,.v _::_,h=>h.1.elim
def jHA {k:z8} {n:Nat} {rows:List (List D)} (h:∀r∈rows,ja6 (zf n (.f k)) r):∃l:List (List Nat),rows=l.map (fun r=>r.map (D.f k))∧∀r∈l,r.length=n:=by
 induction rows with
 |nil=>exact⟨[],rfl,fun _ h=>by cases h⟩
 |cons r rows ih =>
  obtain⟨l,h1,h2⟩:=ih fun r hr=>h r (zu _ hr);obtain⟨x,h4,h5⟩:=jzh (h r zw);refine⟨x::l,by rw[h1,h4];rfl,fun y hy=>?_⟩;rcases qp.1 hy with rfl|hy
  ·exact h5
  ·exact h2 y hy
def jHB {k:z8} {n:Nat} {l:List (List Nat)} (h:∀r∈l,r.length=n):(Cont.frs k n l).flat=(Cont.lits n (l.map fun r=>r.map (D.f k))).flat:=by
 simp only[Cont.flat]
 induction l with
 |nil=>rfl
 |cons r l ih =>
  rw[xg,zJ,xg,ih fun r hr=>h r (zu _ hr)]
  congr 1
  have hr:=h r zw;subst hr;rw[jgY];have:=jhZ (r.map (D.f k));rw[qk]at this;exact this.symm
def jHC {w:zs} {k:z8} {n:Nat} {v:zt} {t:T1} (h:Cell2 w (.s (zf n (.f k))) v t):∃l:List (List Nat),T1Is w v (.r (.frs k n l))∧∀r∈l,r.length=n:=by
 cases h with
 |s ks v rows h0 h2 h3 =>
  obtain⟨l,h5,h7⟩:=jHA h2;subst h5;rw[yf]at h0 h3;exact⟨l,.r v _ h0 (jrl h3 (by simp[Cont.n]) (jHB h7)),h7⟩
section
variable [Globs]
abbrev jC9:List K2:=[.s (zf 32 (.f .f32))]
def jro {w:zs} {vs:List zt} {ts:List T1} (h:Cells2 w jC9 vs ts):∃l:List (List Nat),(∀b∈l,b.length=32)∧∀u,vs[0]?=some u->NC.at (fun k=>k<w.heap.size) w u (.r (.frs .f32 32 l)):=by
 rcases h with _|⟨k0,r0⟩
 cases r0;obtain⟨l,e,h32⟩:=jHC k0;exact⟨l,h32,fun u hu=>by cases hu;exact jgJ e (fun X h=>by cases h)⟩
def jIB {w:zs} {v:zt} (h:jC5 w jC9 v):∃l:List (List (List Nat)),T1Is w v (.xl (.bb .f32 32 l))∧∀r∈l,∀b∈r,b.length=32:=by
 obtain⟨n,us,ts,a,cap,h1,rfl,h3,h4⟩:=h
 let R:Nat->List (List Nat):=fun i=>if h:i<n then yD (jro (h1 i h))else[]
 have hR:∀i (h:i<n),(∀b∈R i,b.length=32)∧∀u,(us i)[0]?=some u->NC.at (fun k=>k<w.heap.size) w u (.r (.frs .f32 32 (R i))):=fun i h=>by
  have e:R i=yD (jro (h1 i h)):=dif_pos h;rw[e];exact ja (jro (h1 i h))
 have hn:(XC.bb .f32 32 ((zo n).map R)).n=n:=by simp[XC.n]
 refine⟨(zo n).map R,.xl _ _ ⟨a,cap,by rw[hn],by rw[hn];exact h3,fun h=>?_⟩,fun r hr=>?_⟩
 ·rw[hn]at h;obtain⟨b,off,rfl,hb,hc⟩:=h4 h;refine⟨b,off,rfl,hb,fun i j hi hj=>?_⟩;rw[hn]at hi;have hj:j<1:=hj;obtain rfl:j=0:=by omega
  have hl:=(h1 i hi).len.1;have hu:(us i)[0]?=some ((us i)[0]'(by rw[hl];decide)):=zG _;refine⟨_,(hc i 0 hi (by decide)).trans hu,?_⟩;have e:((zo n).map R).getD i []=R i:=by simp[za,hi]
  have:=(hR i hi).2 _ hu;rw[<-e]at this;exact this
 ·obtain⟨i,hi,rfl⟩:=qa.1 hr;exact(hR i (qJ.1 hi)).1
end
def jHD [Globs] {H:Type} {enc:qH × zt->H} {P:zL} {w:zs} {base:Nat} {spare:Nat->Bool} {held:Bool} {r:Reach} {b0:Nat} {t e:qH} {d:Nat} {v:zt} {x:DataW H} {p:List j8}
  (ht:P.underlying t=some (.slice e)) (hk:jet P d e=some jC9) (hc:P.cellsOf e=1) (hval:gM P w r b0 t v) (h:kv enc P w base spare held t v x p) :
  ∃l:List (List (List Nat)),T1Is w v (.xl (.bb .f32 32 l))∧∀r∈l,∀b∈r,b.length=32:=by
 obtain⟨fuel,hx⟩:=h;obtain⟨v',h1,h2⟩:=jtg ht hk (by simpa using hc) (by decide) hx;have:=jHv ht hval h1;subst this;exact jIB h2
end Go.Sx
end
