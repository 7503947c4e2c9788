/- Part 7 of the proof of TopEqualLatency: the executor, the mirrors of the functions, the plain facts. -/
import Derived.Test.YtigliehhpdpaoaaGreatPF
set_option maxRecDepth 100000
set_option linter.unusedSectionVars false
set_option linter.unusedSimpArgs false
set_option linter.unusedVariables false
set_option linter.defProp false
open Array renaming getElem?_eq_getElem->qZ
open Classical renaming choose->jr,choose_spec->jW
open Go renaming MemPlace->gc,Program->zQ,TypeId->qI,Value->zt,World->zs,undef->zX
open Go.DataW renaming trod->xB,trod_struct->gy
open Go.Value renaming okWide->fI
open List renaming drop_drop->jV,drop_eq_nil_of_le->yY,flatMap_cons->xH,getElem?_eq_getElem->zG,length_append->z9,map_append->qO,map_congr_left->qt,map_cons->zJ,map_nil->xb,mem_append->qK,mem_cons_of_mem->zw,mem_cons_self->zy,mem_iff_getElem->xj,mem_map->qm,mem_singleton->zZ,range->zo,replicate->zi,take_append_drop->xE
open Nat renaming add_mul->qy,le_refl->zq,le_succ->xi,le_trans->qN,lt_of_lt_of_le->zF,lt_succ_self->zp
open Option renaming map_some->qn
open Option.some renaming injEq->zk
section
namespace Go.Sx
open Go.RowKit Go.ChangeShapes Go.WideShapes
inductive K2 where
 |d (k:K)
 |s (ks:List K)
inductive T1 where
 |d (x:D)
 |r (c:Cont)
 |xl (X:XC)
inductive Cell2 (w:zs):K2->zt->T1->Prop where
 |d (k:K) (x:D) (h:k.fits x):Cell2 w (.d k) x.val (.d x)
 |s (ks:List K) (v:zt) (rows:List (List D)) (h0:0<ks.length) (h:∀r∈rows,jbj ks r) (hr:jaQ w v (.lits ks.length rows)):Cell2 w (.s ks) v (.r (.lits ks.length rows))
inductive Cells2 (w:zs):List K2->List zt->List T1->Prop where
 |nil:Cells2 w [] [] []
 |cons {k:K2} {v:zt} {t:T1} {ks:List K2} {vs:List zt} {ts:List T1} (h:Cell2 w k v t) (r:Cells2 w ks vs ts):Cells2 w (k::ks) (v::vs) (t::ts)
def Cells2.append {w:zs} {ks ks':List K2} {vs vs':List zt} {ts ts':List T1} (h:Cells2 w ks vs ts) (h':Cells2 w ks' vs' ts'):Cells2 w (ks++ks') (vs++vs') (ts++ts'):=by
 induction h with
 |nil=>exact h'
 |cons h r ih=>exact .cons h ih
def jfn (g:qI->Option (List K2)) (P:zQ):Nat->List Field->Option (List K2)|_,[]=>some []|n,f::fs=>match g f.type with|none=>none|some ks=>if f.offset=n∧P.cellsOf f.type=ks.length then(jfn g P (n+ks.length) fs).map (ks ++ ·)else none
def jfP (P:zQ):Nat->qI->Option (List K2)|0,_=>none|d+1,t=>match jil P d t with|some ks=>some (ks.map .d)|none=>match P.underlying t with|some (.slice e)=>(match jil P d e with|some (k::ks)=>if P.cellsOf e=ks.length+1 then some [.s (k::ks)]else none|_=>none)|some (.struct fs)=>(match jfn (jfP P d) P 0 fs.toList with|some ks=>if P.cellsOf t=ks.length then some ks else none|none=>none)|some (.array n e)=>(match jfP P d e with|some ks=>if P.cellsOf t=n*ks.length∧P.cellsOf e=ks.length then some (zi n ks).flatten else none|none=>none)|_=>none
section
variable {H:Type} {enc:qI × zt->H} {P:zQ} {w:zs} {base:Nat} {spare:Nat->Bool} {held:Bool}
def jGq {ks:List K} {ds:List D} (h:jbj ks ds):Cells2 w (ks.map .d) (ds.map D.val) (ds.map .d):=by
 induction ks generalizing ds with
 |nil=>cases ds with
  |nil=>exact .nil
  |cons _ _=>exact h.elim
 |cons k ks ih=>cases ds with
  |nil=>exact h.elim
  |cons d ds=>exact .cons (.d k d h.1) (ih h.2)
def jlB {g:qI->Option (List K2)} {m:Nat} (ih:∀t ks cs x,g t=some ks->xB enc P w base spare held m t cs=some x->∃ts,Cells2 w ks cs ts) :
  ∀(fs:List Field) (n:Nat) (ks:List K2) (cs:List zt),jfn g P n fs=some ks->cs.length=n+ks.length->(∀f∈fs,∃x,xB enc P w base spare held m f.type ((cs.drop f.offset).take (P.cellsOf f.type))=some x) -> ∃ts,Cells2 w ks (cs.drop n) ts
 |[],n,ks,cs,hk,hl,_=>by
  simp only[jfn,zk]at hk;subst hk;refine⟨[],?_⟩;simp at hl;rw[yY (by omega)];exact .nil
 |f::fs,n,ks,cs,hk,hl,h=>by
  simp only[jfn]at hk;split at hk
  ·cases hk
  ·rename_i kf hg;split at hk
   ·rename_i hc;cases hr:jfn g P (n+kf.length) fs with
    |none=>simp[hr]at hk
    |some kr =>
     simp only[hr,qn,zk]at hk;subst hk;obtain⟨x,hx⟩:=h f zy;rw[hc.1,hc.2]at hx;obtain⟨ts0,h0⟩:=ih f.type kf _ x hg hx;obtain⟨ts1,h1⟩:=jlB ih fs (n+kf.length) kr cs hr (by rw[hl,z9];omega) (fun f' hf'=>h f' (zw _ hf'));refine⟨ts0++ts1,?_⟩;have e:cs.drop n=(cs.drop n).take kf.length++cs.drop (n+kf.length):=by rw[<-jV];exact(xE _ _).symm
     rw[e];exact h0.append h1
   ·cases hk
def job {ks:List K2} {e:qI} {m:Nat} (ih:∀cs x,xB enc P w base spare held m e cs=some x->∃ts,Cells2 w ks cs ts) :
  ∀(n:Nat) (cs:List zt),cs.length=n*ks.length->(∀i,i<n->∃x,xB enc P w base spare held m e ((cs.drop (i*ks.length)).take ks.length)=some x)->∃ts,Cells2 w (zi n ks).flatten cs ts
 |0,cs,hl,_=>by
  have:cs=[]:=by simpa using hl
  subst this;exact⟨[],.nil⟩
 |n+1,cs,hl,h=>by
  obtain⟨x,hx⟩:=h 0 (by omega);obtain⟨t0,h0⟩:=ih _ x hx
  obtain⟨t1,h1⟩:=job ih n (cs.drop ks.length) (by rw[List.length_drop,hl,qy];omega) (fun i hi=>by
   obtain⟨y,hy⟩:=h (i+1) (by omega);refine⟨y,?_⟩;rw[jV];rw[show ks.length+i*ks.length=(i+1)*ks.length by rw[qy];omega];exact hy)
  refine⟨t0++t1,?_⟩;have:=h0.append h1;simpa [List.replicate_succ]using this
def jfz:∀(d:Nat) (t:qI) (ks:List K2) (fuel:Nat) (cs:List zt) (x:DataW H × List gc),jfP P d t=some ks->xB enc P w base spare held fuel t cs=some x->∃ts,Cells2 w ks cs ts
 |0,_,_,_,_,_,h,_=>by cases h
 |d+1,t,ks,fuel,cs,x,hk,hx=>by
  unfold jfP at hk;split at hk
  ·rename_i ks' hks;cases hk;obtain⟨ds,rfl,h2⟩:=jgD d t ks' fuel cs x hks hx;exact⟨_,jGq h2⟩
  ·split at hk
   ·rename_i e ht;split at hk
    ·rename_i k ks' hks;split at hk
     ·rename_i hc;cases hk;obtain⟨v,rows,rfl,h2,h3,_⟩:=jDW ht hks (by simpa using hc) (by simp) hx;exact⟨_,.cons (.s _ v rows (by simp) h2 h3) .nil⟩
     ·cases hk
    ·cases hk
   ·rename_i fs ht;split at hk
    ·rename_i ks' hks;split at hk
     ·rename_i hc;cases hk;obtain⟨xs,n,rfl,_,hl,hxl,hf⟩:=gy ht hx
      have:=jlB (enc:=enc) (w:=w) (base:=base) (spare:=spare) (held:=held) (g:=jfP P d) (m:=n) (fun t ks cs x h1 h2=>jfz d t ks n cs x h1 h2) fs.toList 0 ks cs hks (by rw[hl,hc];omega) (fun f hfm=>by
       obtain⟨i,hi,hfi⟩:=xj.1 hfm;have hi':i<fs.size:=by simpa using hi
       have h1:=hf i f (by rw[qZ hi'];simpa using hfi);exact⟨xs[i]'(by omega),by rw[h1,zG]⟩)
      simpa using this
     ·cases hk
    ·cases hk
   ·rename_i n e ht;split at hk
    ·rename_i ks' hks;split at hk
     ·rename_i hc;cases hk;obtain⟨xs,m,rfl,_,hl,hxl,hf⟩:=DataW.trod_array ht hx
      exact job (fun cs x h=>jfz d e ks' m cs x hks h) n cs (by rw[hl,hc.1]) (fun i hi=>by
       have h1:=hf i hi;rw[hc.2]at h1;exact⟨xs[i]'(by omega),by rw[h1,zG]⟩)
     ·cases hk
    ·cases hk
   ·cases hk
end
inductive T1Is (w:zs):zt->T1->Prop where
 |d (x:D):T1Is w x.val (.d x)
 |r (v:zt) (c:Cont) (he:0<c.e) (h:jaQ w v c):T1Is w v (.r c)
 |xl (v:zt) (X:XC) (h:IsX (fun k=>k<w.heap.size) w v X):T1Is w v (.xl X)
def jqZ {w:zs} {v:zt} {t:T1} (h:Cell2 w (.d (.i .i64)) v t):∃n:Int,T1Is w v (.d (.i .i64 n))∧inI n:=by
 cases h with
 |d k x h =>
  cases x with
  |i k n =>
   obtain⟨rfl,hw⟩:=h;exact⟨n,.d _,by unfold inI;simpa [Lit.wf,IntKind.min,IntKind.max,IntKind.signed,IntKind.bits]using hw⟩
  |_=>exact h.elim
def jyw {w:zs} {v:zt} {t:T1} (h:Cell2 w (.d .s) v t):∃n:ByteArray,T1Is w v (.d (.s n))∧n.size<=maxLen:=by
 cases h with
 |d k x h =>
  cases x with
  |s n=>exact⟨n,.d _,h⟩
  |_=>exact h.elim
def ju1 {w:zs} {n:Nat} {v:zt} {t:T1} (h:Cell2 w (.s (zi n (.i .i64))) v t):∃l:List (List Int),T1Is w v (.r (.recs n l))∧∀r∈l,r.length=n∧∀x∈r,inI x:=by
 cases h with
 |s ks v rows h0 h2 h3 =>
  obtain⟨l,h5,h6,h7⟩:=jDX h2;subst h5;rw[List.length_replicate]at h0 h3;exact⟨l,.r v _ h0 (jyu h3 (by simp[Cont.n]) (jDY fun r hr=>(h7 r hr).1)),h7⟩
def joc {w:zs} {v:zt} {t:T1} (h:Cell2 w (.s [.i .i64]) v t):∃l:List Int,T1Is w v (.r (.ints .i64 l))∧∀x∈l,inI x:=by
 obtain⟨l,h2,h3⟩:=ju1 (n:=1) h;cases h2 with
 |r _ _ _ h2 =>
  refine⟨l.map (fun r=>r.getD 0 0),.r v _ (Nat.succ_pos 0) (jyu h2 (by simp[Cont.n]) ?_),fun x hx=>?_⟩
  ·simp only[Cont.flat];rename_i he;clear h2 he
   induction l with
   |nil=>rfl
   |cons r l ih =>
    rw[zJ,xH,xH,ih (fun r hr=>h3 r (zw _ hr))];rfl
  ·obtain⟨r,hr,rfl⟩:=qm.1 hx;have:=h3 r hr
   match r,this with
   |[y],this=>exact this.2 y (by simp)
def t1_d {w:zs} {v:zt} {x:D} (h:ArgIs w v (.d x)):T1Is w v (.d x):=by
 cases h with
 |d x=>exact .d x
section
variable [Globs]
inductive T2 where
 |c (t:T1)
 |a (l:List T1)
inductive T1sAre (w:zs):List zt->List T1->Prop where
 |nil:T1sAre w [] []
 |cons {v:zt} {t:T1} {vs:List zt} {ts:List T1} (h:T1Is w v t) (r:T1sAre w vs ts):T1sAre w (v::vs) (t::ts)
inductive T2Is (w:zs):zt->T2->Prop where
 |c {v:zt} {t:T1} (h:T1Is w v t):T2Is w v (.c t)
 |a {vs:List zt} {ts:List T1} (h:T1sAre w vs ts):T2Is w (.agg vs.toArray) (.a ts)
inductive T2sAre (w:zs):List zt->List T2->Prop where
 |nil:T2sAre w [] []
 |cons {v:zt} {t:T2} {vs:List zt} {ts:List T2} (h:T2Is w v t) (r:T2sAre w vs ts):T2sAre w (v::vs) (t::ts)
structure TB where
 cs:List C
 hp:Hp
 n:Nat
def T1.bld (n:Nat):T1->TB| .d x=>⟨[.d x],[],n⟩| .r c=>⟨[.o n],[(n,.ext c)],n+1⟩| .xl X=>⟨[.o n],[(n,.xext X)],n+1⟩
def jsJ:Nat->List T1->TB|n,[]=>⟨[],[],n⟩|n,t::l=>let a:=t.bld n;let b:=jsJ a.n l; ⟨a.cs++b.cs,b.hp++a.hp,b.n⟩
structure TV where
 vs:List V
 hp:Hp
 n:Nat
def T2.bld (n:Nat):T2->TV| .c t=>let a:=t.bld n; ⟨[.w (.c (jgw a.cs))],a.hp,a.n⟩| .a l=>let a:=jsJ n l; ⟨[.w (.a a.cs)],a.hp,a.n⟩
def jcF:Nat->List T2->TV|n,[]=>⟨[],[],n⟩|n,t::l=>let a:=t.bld n;let b:=jcF a.n l; ⟨a.vs++b.vs,b.hp++a.hp,b.n⟩
def Hk (w:zs) (v:zt):O->Prop| .ext c=>jaQ w v c∧0<c.e| .xext X=>IsX (fun k=>k<w.heap.size) w v X|_=>False
structure TOK (w:zs) (n:Nat) (I I':Env) (vals:List zt) (cs:List C) (hp:Hp) (n':Nat):Prop where
 agree:jak n I I'
 le:n<=n'
 val:cs.map (C.val I')=vals
 lt:∀c∈cs,C.lt n' c
 heap:∀k o,find hp k=some o->n<=k∧k<n'∧Hk w (I' k) o
def T1.bld_ok {w:zs} {v:zt} {t:T1} (h:T1Is w v t) (n:Nat) (I:Env):∃I',TOK w n I I' [v] (t.bld n).cs (t.bld n).hp (t.bld n).n:=by
 cases h with
 |d x=>exact⟨I,jak.refl _ _,zq _,rfl,(fun c hc=>by simp only[T1.bld,zZ]at hc;subst hc;trivial),fun _ _ h=>by cases h⟩
 |r v c he h =>
  refine⟨upd I n v,jas _ _ _,xi _,by simp[T1.bld,C.val],(fun c hc=>by simp only[T1.bld,zZ]at hc;subst hc;exact zp n),fun k o hf=>?_⟩;simp only[T1.bld,find]at hf;split at hf
  ·rename_i e;subst e;cases hf;exact⟨zq _,zp _,by rw[upd_same];exact⟨h,he⟩⟩
  ·cases hf
 |xl v X h =>
  refine⟨upd I n v,jas _ _ _,xi _,by simp[T1.bld,C.val],(fun c hc=>by simp only[T1.bld,zZ]at hc;subst hc;exact zp n),fun k o hf=>?_⟩;simp only[T1.bld,find]at hf;split at hf
  ·rename_i e;subst e;cases hf;exact⟨zq _,zp _,by rw[upd_same];exact h⟩
  ·cases hf
def TOK.append {w:zs} {n n1 n2:Nat} {I I1 I2:Env} {a b:List zt} {ca cb:List C} {ha hb:Hp} (h1:TOK w n I I1 a ca ha n1) (h2:TOK w n1 I1 I2 b cb hb n2):TOK w n I I2 (a++b) (ca++cb) (hb++ha) n2:=by
 refine⟨h1.agree.trans h2.agree h1.le,qN h1.le h2.le,?_,?_,?_⟩
 ·rw[qO,h2.val,<-h1.val]
  congr 1
  exact qt fun c hc=>C.val_agree h2.agree (h1.lt c hc)
 ·intro c hc;rcases qK.1 hc with hc|hc
  ·exact C.lt_mono h2.le (h1.lt c hc)
  ·exact h2.lt c hc
 ·intro k o hf;rw[jar]at hf;cases hg:find hb k with
  |some o2 =>
   rw[hg]at hf;cases hf;obtain⟨q1,q2,q3⟩:=h2.heap k o hg;exact⟨qN h1.le q1,q2,q3⟩
  |none =>
   rw[hg]at hf;obtain⟨q1,q2,q3⟩:=h1.heap k o hf;exact⟨q1,zF q2 h2.le,by rw[h2.agree k q2];exact q3⟩
def jGr {w:zs} {vs:List zt} {ts:List T1} (h:T1sAre w vs ts):∀(n:Nat) (I:Env),∃I',TOK w n I I' vs (jsJ n ts).cs (jsJ n ts).hp (jsJ n ts).n:=by
 induction h with
 |nil=>exact fun n I=>⟨I,jak.refl _ _,zq _,rfl,(fun _ h=>by cases h),fun _ _ h=>by cases h⟩
 |cons h r ih =>
  intro n I;obtain⟨I1,k1⟩:=T1.bld_ok h n I;obtain⟨I2,k2⟩:=ih _ I1;exact⟨I2,k1.append k2⟩
structure TVOK (w:zs) (n:Nat) (I I':Env) (vals:List zt) (vs:List V) (hp:Hp) (n':Nat):Prop where
 agree:jak n I I'
 le:n<=n'
 val:vs.map (V.val I')=vals
 lt:∀c∈vs,V.lt n' c
 heap:∀k o,find hp k=some o->n<=k∧k<n'∧Hk w (I' k) o
def T2.bld_ok {w:zs} {v:zt} {t:T2} (h:T2Is w v t) (n:Nat) (I:Env):∃I',TVOK w n I I' [v] (t.bld n).vs (t.bld n).hp (t.bld n).n:=by
 cases h with
 | @c v t h =>
  obtain⟨I',k⟩:=T1.bld_ok h n I;have hone:∃c,(t.bld n).cs=[c]:=by cases t<;>exact⟨_,rfl⟩
  obtain⟨c,hc⟩:=hone;have hval:=k.val;have hlt:=k.lt;rw[hc]at hval hlt;refine⟨I',k.agree,k.le,?_,?_,k.heap⟩
  ·simp only[T2.bld,hc,jgw,zJ,xb,V.val,W.val];simpa using hval
  ·intro y hy;simp only[T2.bld,hc,jgw,zZ]at hy;subst hy;exact hlt c zy
 | @a vs ts h =>
  obtain⟨I',k⟩:=jGr h n I;refine⟨I',k.agree,k.le,?_,?_,k.heap⟩
  ·simp only[T2.bld,zJ,xb,V.val,W.val,k.val]
  ·intro y hy;simp only[T2.bld,zZ]at hy;subst hy;exact k.lt
def jGs {w:zs} {vs:List zt} {ts:List T2} (h:T2sAre w vs ts):∀(n:Nat) (I:Env),∃I',TVOK w n I I' vs (jcF n ts).vs (jcF n ts).hp (jcF n ts).n:=by
 induction h with
 |nil=>exact fun n I=>⟨I,jak.refl _ _,zq _,rfl,(fun _ h=>by cases h),fun _ _ h=>by cases h⟩
 | @cons v t vs ts h r ih =>
  intro n I;obtain⟨I1,k1⟩:=T2.bld_ok h n I;obtain⟨I2,k2⟩:=ih (t.bld n).n I1;refine⟨I2,k1.agree.trans k2.agree k1.le,qN k1.le k2.le,?_,?_,?_⟩
  ·simp only[jcF,qO,k2.val]
   have:(t.bld n).vs.map (V.val I2)=[v]:=by
    rw[<-k1.val];exact qt fun c hc=>V.val_agree k2.agree (k1.lt c hc)
   rw[this];rfl
  ·intro c hc;rcases qK.1 hc with hc|hc
   ·exact V.lt_mono k2.le (k1.lt c hc)
   ·exact k2.lt c hc
  ·intro k o hf;have hf:find ((jcF (t.bld n).n ts).hp++(t.bld n).hp) k=some o:=hf;rw[jar]at hf;cases hg:find (jcF (t.bld n).n ts).hp k with
   |some o2 =>
    rw[hg]at hf;cases hf;obtain⟨q1,q2,q3⟩:=k2.heap k o hg;exact⟨qN k1.le q1,q2,q3⟩
   |none =>
    rw[hg]at hf;obtain⟨q1,q2,q3⟩:=k1.heap k o hf;exact⟨q1,zF q2 k2.le,by rw[k2.agree k q2];exact q3⟩
def jCi {P:zQ} {w:zs} {f:Nat} {shs:List SV} {g:List Lf->Option GT} {vs:List zt} {ts:List T2} {ls:List Lf} {am:List C} {ob:Prop} {b:Bool} {fn:Func} (hok:jaf P f true (jah shs g)) (hargs:T2sAre w vs ts)
  (hto:jiy (jcF 0 ts).hp shs (jcF 0 ts).vs=some (ls,am)) (hg:g ls=some (.leaf ob [.c (.d (.b b))])) (ho:ob) (hb:b=true)
  (hfn:P.funcs[f]?=some fn) (hbody:fn.body=some (fn.body.getD .skip)) (hn:(fn.name == "runtime.NumGoroutine")=false) (hgl:jbD (fun k=>k<w.heap.size) w) :
  Calls P f vs.toArray w fun e w'=>e=.returned (.bool true)∧Below w.heap.size w w':=by
 subst hb;obtain⟨I,k⟩:=jGs hargs 0 (fun _=>zX)
 have hh:HRel I (kd fun k=>k<w.heap.size) (jcF 0 ts).hp (jcF 0 ts).n w:=by
  refine⟨fun x o hf=>?_,fun x o x' o' q hf hf' _ hb=>?_,hgl⟩
  ·obtain⟨_,q2,q3⟩:=k.heap x o hf;cases o with
   |ext c=>exact⟨q2,trivial,q3.1,jaQ.lt q3.1 q3.2⟩
   |xext X=>exact⟨q2,trivial,q3⟩
   |_=>exact q3.elim
  ·obtain⟨_,_,q3⟩:=k.heap x o hf;cases o with
   |ext c=>cases hb
   |xext X=>cases hb
   |_=>exact q3.elim
 have:=(hok.sound hfn hbody hn).sound I (kd fun k=>k<w.heap.size) w (jcF 0 ts).vs (jcF 0 ts).hp (jcF 0 ts).n ((GT.leaf ob [.c (.d (.b true))]).toRT am (jcF 0 ts).hp (jcF 0 ts).n) (by
  unfold jah;rw[hto];dsimp only;rw[hg]) ho k.lt hh (fun k hk=>jbL.1 hk)
 rw[k.val]at this;refine this.mono ?_;rintro e w' ⟨I',rfl,hl⟩;exact⟨rfl,hl.mono rfl⟩
end
end Go.Sx
end

section
namespace Go.Sx
open Go.RowKit Go.ChangeShapes Go.WideShapes
def jGF (w:zs) (ks:List K2) (v:zt):Prop :=
 ∃(n:Nat) (us:Nat->List zt) (ts:Nat->List T1) (a:Option Addr) (cap:Nat),(∀i,i<n->Cells2 w ks (us i) (ts i))∧v=.slice a n cap∧(n<=cap∧(a=none->cap=0)) ∧ (0<n->∃b off,a=some ⟨b,off,none⟩∧b<w.heap.size∧∀i j,i<n->j<ks.length->w.cell? ⟨b,off+(i*ks.length+j),none⟩=(us i)[j]?)
inductive K3 where
 |k (k:K2)
 |x (ks:List K2)
inductive Cell3 (w:zs):K3->zt->Prop where
 |k (k:K2) (v:zt) (t:T1) (h:Cell2 w k v t):Cell3 w (.k k) v
 |x (ks:List K2) (v:zt) (h0:0<ks.length) (h:jGF w ks v):Cell3 w (.x ks) v
inductive Cells3 (w:zs):List K3->List zt->Prop where
 |nil:Cells3 w [] []
 |cons {k:K3} {v:zt} {ks:List K3} {vs:List zt} (h:Cell3 w k v) (r:Cells3 w ks vs):Cells3 w (k::ks) (v::vs)
def Cells3.append {w:zs} {ks ks':List K3} {vs vs':List zt} (h:Cells3 w ks vs) (h':Cells3 w ks' vs'):Cells3 w (ks++ks') (vs++vs'):=by
 induction h with
 |nil=>exact h'
 |cons h r ih=>exact .cons h ih
def jGt {w:zs} {ks:List K2} {vs:List zt} {ts:List T1} (h:Cells2 w ks vs ts):Cells3 w (ks.map .k) vs:=by
 induction h with
 |nil=>exact .nil
 |cons h r ih=>exact .cons (.k _ _ _ h) ih
def jfo (g:qI->Option (List K3)) (P:zQ):Nat->List Field->Option (List K3)|_,[]=>some []|n,f::fs=>match g f.type with|none=>none|some ks=>if f.offset=n∧P.cellsOf f.type=ks.length then(jfo g P (n+ks.length) fs).map (ks ++ ·)else none
def jod (P:zQ):Nat->qI->Option (List K3)|0,_=>none|d+1,t=>match jfP P d t with|some ks=>some (ks.map .k)|none=>match P.underlying t with|some (.slice e)=>(match jfP P d e with|some (k::ks)=>if P.cellsOf e=ks.length+1 then some [.x (k::ks)]else none|_=>none)|some (.struct fs)=>(match jfo (jod P d) P 0 fs.toList with|some ks=>if P.cellsOf t=ks.length then some ks else none|none=>none)|_=>none
def Cells2.len {w:zs} {ks:List K2} {vs:List zt} {ts:List T1} (h:Cells2 w ks vs ts):vs.length=ks.length∧ts.length=ks.length:=by
 induction h with
 |nil=>exact⟨rfl,rfl⟩
 |cons h r ih=>exact⟨by simp[ih.1],by simp[ih.2]⟩
section
variable {H:Type} {enc:qI × zt->H} {P:zQ} {w:zs} {base:Nat} {spare:Nat->Bool} {held:Bool}
def jCj {t e:qI} {ks:List K2} {d fuel:Nat} {cs:List zt} {x:DataW H × List gc} (ht:P.underlying t=some (.slice e)) (hk:jfP P d e=some ks) (hc:P.cellsOf e=ks.length) (h0:0<ks.length)
  (hx:xB enc P w base spare held fuel t cs=some x):∃v,cs=[v]∧jGF w ks v:=by
 rcases DataW.trod_slice ht hx with ⟨rfl,rfl⟩|⟨a,len,cap,elems,rest,n,rfl,rfl,rfl,hb,hl,hm,hel,hi,_,_⟩
 ·exact⟨_,rfl,0,fun _=>[],fun _=>[],none,0,fun i hi=>by omega,rfl,⟨zq _,fun _=>rfl⟩,fun h=>by omega⟩
 ·have hget:∀i,i<len->∃p:List zt × List T1,Cells2 w ks p.1 p.2∧∀j,j<ks.length->w.cell? ((a.add (i*ks.length)).add j)=p.1[j]?:=fun i hil=>by
   have h1:=hi i hil;rw[hc]at h1;have h2:elems[i]?=some (elems[i]'(by omega)):=zG (by omega);rw[h2]at h1;obtain⟨cs',hcs,htr⟩:=Option.bind_eq_some_iff.1 h1;obtain⟨ts,hts⟩:=jfz d e ks n cs' _ hk htr;obtain⟨_,hcl,hat⟩:=World.cells?_some hcs;exact⟨(cs',ts),hts,fun j hj=>hat j hj⟩
  let R:Nat->List zt × List T1:=fun i=>if h:i<len then jr (hget i h)else([],[])
  have hR:∀i (h:i<len),Cells2 w ks (R i).1 (R i).2∧∀j,j<ks.length->w.cell? ((a.add (i*ks.length)).add j)=(R i).1[j]?:=fun i h=>by
   have e:R i=jr (hget i h):=dif_pos h;rw[e];exact jW (hget i h)
  refine⟨_,rfl,len,fun i=>(R i).1,fun i=>(R i).2,some a,cap,fun i h=>(hR i h).1,rfl,⟨hl,fun h=>by cases h⟩,fun hn=>?_⟩;have hlen:=(hR 0 hn).1.len.1
  have hcell0:w.cell? ((a.add (0*ks.length)).add 0)=some ((R 0).1[0]'(by omega)):=by
   rw[(hR 0 hn).2 0 h0,zG]
  have hsp:a.spot=none:=by
   have h1:=hcell0;simp[Addr.add]at h1;cases hs:a.spot with
   |none=>rfl
   |some s =>
    exfalso;unfold World.cell? at h1;simp only[hs]at h1;split at h1
    ·simp at h1
    ·cases h1
  obtain⟨b,off,sp⟩:=a;simp only at hsp;subst hsp;refine⟨b,off,rfl,?_,fun i j hi hj=>?_⟩
  ·have h1:=hcell0;rw[jaX,jaX]at h1;exact World.block_lt_of_cell? w _ h1
  ·have:=(hR i hi).2 j hj;rw[jaX,jaX,Nat.add_assoc]at this;exact this
def jlC {g:qI->Option (List K3)} {m:Nat} (ih:∀t ks cs x,g t=some ks->xB enc P w base spare held m t cs=some x->Cells3 w ks cs) :
  ∀(fs:List Field) (n:Nat) (ks:List K3) (cs:List zt),jfo g P n fs=some ks->cs.length=n+ks.length->(∀f∈fs,∃x,xB enc P w base spare held m f.type ((cs.drop f.offset).take (P.cellsOf f.type))=some x) -> Cells3 w ks (cs.drop n)
 |[],n,ks,cs,hk,hl,_=>by
  simp only[jfo,zk]at hk;subst hk;simp at hl;rw[yY (by omega)];exact .nil
 |f::fs,n,ks,cs,hk,hl,h=>by
  simp only[jfo]at hk;split at hk
  ·cases hk
  ·rename_i kf hg;split at hk
   ·rename_i hc;cases hr:jfo g P (n+kf.length) fs with
    |none=>simp[hr]at hk
    |some kr =>
     simp only[hr,qn,zk]at hk;subst hk;obtain⟨x,hx⟩:=h f zy;rw[hc.1,hc.2]at hx;have h0:=ih f.type kf _ x hg hx;have h1:=jlC ih fs (n+kf.length) kr cs hr (by rw[hl,z9];omega) (fun f' hf'=>h f' (zw _ hf'));have e:cs.drop n=(cs.drop n).take kf.length++cs.drop (n+kf.length):=by rw[<-jV];exact(xE _ _).symm
     rw[e];exact h0.append h1
   ·cases hk
def jpL:∀(d:Nat) (t:qI) (ks:List K3) (fuel:Nat) (cs:List zt) (x:DataW H × List gc),jod P d t=some ks->xB enc P w base spare held fuel t cs=some x->Cells3 w ks cs
 |0,_,_,_,_,_,h,_=>by cases h
 |d+1,t,ks,fuel,cs,x,hk,hx=>by
  unfold jod at hk;split at hk
  ·rename_i ks' hks;cases hk;obtain⟨ts,h2⟩:=jfz d t ks' fuel cs x hks hx;exact jGt h2
  ·split at hk
   ·rename_i e ht;split at hk
    ·rename_i k ks' hks;split at hk
     ·rename_i hc;cases hk;obtain⟨v,rfl,h2⟩:=jCj ht hks (by simpa using hc) (by simp) hx;exact .cons (.x _ v (by simp) h2) .nil
     ·cases hk
    ·cases hk
   ·rename_i fs ht;split at hk
    ·rename_i ks' hks;split at hk
     ·rename_i hc;cases hk;obtain⟨xs,n,rfl,_,hl,hxl,hf⟩:=gy ht hx
      have:=jlC (enc:=enc) (w:=w) (base:=base) (spare:=spare) (held:=held) (g:=jod P d) (m:=n) (fun t ks cs x h1 h2=>jpL d t ks n cs x h1 h2) fs.toList 0 ks cs hks (by rw[hl,hc];omega) (fun f hfm=>by
       obtain⟨i,hi,hfi⟩:=xj.1 hfm;have hi':i<fs.size:=by simpa using hi
       have h1:=hf i f (by rw[qZ hi'];simpa using hfi);exact⟨xs[i]'(by omega),by rw[h1,zG]⟩)
      simpa using this
     ·cases hk
    ·cases hk
   ·cases hk
def jCk {r:Reach} {b0:Nat} {t:qI} {d:Nat} {ks:List K3} {v:zt} {x:DataW H} {p:List gc} (ht:jbF P t=some true) (hk:jod P d t=some ks)
  (hval:fI P w r b0 t v) (h:DataW.Trod enc P w base spare held t v x p):∃vs,v=.agg (List.toArray vs)∧Cells3 w ks vs:=by
 obtain⟨fuel,hx⟩:=h;have h1:=jpL d t ks fuel _ _ hk hx
 have hv:∃cs,v=.agg cs:=by
  unfold fI at hval;cases hU:P.underlying t with
  |none=>simp[jbF,hU]at ht
  |some u =>
   rw[hU]at hval;cases u with
   |struct fs=>obtain⟨cs,h,_⟩:=hval;exact⟨cs,h⟩
   |array n e=>obtain⟨cs,h,_⟩:=hval;exact⟨cs,h⟩
   |_=>simp[jbF,hU]at ht
 obtain⟨cs,rfl⟩:=hv;exact⟨cs.toList,by simp,h1⟩
end
def T1.nc:T1->NC| .d x=>.d x| .r c=>.r c| .xl _=>.d (.v zX)
section
variable [Globs]
def jim {w:zs} {v:zt} {t:T1} (h:T1Is w v t) (hx:∀X,t≠.xl X):t.nc.at (fun k=>k<w.heap.size) w v:=by
 cases h with
 |d x=>exact rfl
 |r v c he h=>exact⟨h,jaQ.lt h he⟩
 |xl v X h=>exact(hx X rfl).elim
abbrev jCl:List K2:=[.d .s,.d (.i .i64),.s [.i .i64],.s [.i .i64],.s [.i .i64],.d (.i .i64),.s (zi 5 (.i .i64)),.d (.i .i64)]
abbrev jfA:List NK:=zS
def jq0 {w:zs} {vs:List zt} {ts:List T1} (h:Cells2 w jCl vs ts):∃r:List NC,jcT jfA r∧r.length=8∧vs.length=8∧∀j u,vs[j]?=some u->(r.getD j (.d (.v zX))).at (fun k=>k<w.heap.size) w u:=by
 rcases h with _|⟨k0,r0⟩
 rcases r0 with _|⟨k1,r1⟩
 rcases r1 with _|⟨k2,r2⟩
 rcases r2 with _|⟨k3,r3⟩
 rcases r3 with _|⟨k4,r4⟩
 rcases r4 with _|⟨k5,r5⟩
 rcases r5 with _|⟨k6,r6⟩
 rcases r6 with _|⟨k7,r7⟩
 cases r7;obtain⟨a0,e0,_⟩:=jyw k0;obtain⟨a1,e1,_⟩:=jqZ k1;obtain⟨a2,e2,_⟩:=joc k2;obtain⟨a3,e3,_⟩:=joc k3;obtain⟨a4,e4,_⟩:=joc k4;obtain⟨a5,e5,_⟩:=jqZ k5;obtain⟨a6,e6,_⟩:=ju1 k6;obtain⟨a7,e7,_⟩:=jqZ k7;refine⟨[.d (.s a0),.d (.i .i64 a1),.r (.ints .i64 a2),.r (.ints .i64 a3),.r (.ints .i64 a4),.d (.i .i64 a5),.r (.recs 5 a6),.d (.i .i64 a7)],⟨rfl,fun j k x hk hx=>?_⟩,rfl,rfl,fun j u hu=>?_⟩
 ·match j,hk,hx with
  |0,hk,hx=>cases hk;cases hx;rfl
  |1,hk,hx=>cases hk;cases hx;rfl
  |2,hk,hx=>cases hk;cases hx;rfl
  |3,hk,hx=>cases hk;cases hx;rfl
  |4,hk,hx=>cases hk;cases hx;rfl
  |5,hk,hx=>cases hk;cases hx;rfl
  |6,hk,hx=>cases hk;cases hx;rfl
  |7,hk,hx=>cases hk;cases hx;rfl
  |j+8,hk,hx=>simp at hk
 ·match j,hu with
  |0,hu=>cases hu;exact jim e0 (fun X h=>by cases h)
  |1,hu=>cases hu;exact jim e1 (fun X h=>by cases h)
  |2,hu=>cases hu;exact jim e2 (fun X h=>by cases h)
  |3,hu=>cases hu;exact jim e3 (fun X h=>by cases h)
  |4,hu=>cases hu;exact jim e4 (fun X h=>by cases h)
  |5,hu=>cases hu;exact jim e5 (fun X h=>by cases h)
  |6,hu=>cases hu;exact jim e6 (fun X h=>by cases h)
  |7,hu=>cases hu;exact jim e7 (fun X h=>by cases h)
  |j+8,hu=>simp at hu
def jCm {w:zs} {v:zt} (h:Cell3 w (.x jCl) v):∃l:List (List NC),T1Is w v (.xl (.st jfA l)):=by
 cases h with
 |x ks v h0 h =>
  obtain⟨n,us,ts,a,cap,h1,rfl,h3,h4⟩:=h
  let R:Nat->List NC:=fun i=>if h:i<n then jr (jq0 (h1 i h))else[]
  have hR:∀i (h:i<n),jcT jfA (R i)∧(R i).length=8∧(us i).length=8∧∀j u,(us i)[j]?=some u->((R i).getD j (.d (.v zX))).at (fun k=>k<w.heap.size) w u:=fun i h=>by
   have e:R i=jr (jq0 (h1 i h)):=dif_pos h;rw[e];exact jW (jq0 (h1 i h))
  have hrows:∀r∈(zo n).map R,jcT jfA r:=fun r hr=>by
   obtain⟨i,hi,rfl⟩:=qm.1 hr;exact(hR i (List.mem_range.1 hi)).1
  obtain⟨m1,m2,m3⟩:=(XC.st jfA []).cell_mk hrows;have m1:(XC.st jfA ((zo n).map R)).n=((zo n).map R).length:=m1;have m3:∀i j,i<((zo n).map R).length->j<8->(XC.st jfA ((zo n).map R)).cell i j=(((zo n).map R).getD i []).getD j (.d (.v zX)):=m3;have hn:(XC.st jfA ((zo n).map R)).n=n:=by rw[m1];simp
  refine⟨(zo n).map R,.xl _ _ ⟨a,cap,by rw[hn],by rw[hn];exact h3,fun h=>?_⟩⟩;rw[hn]at h;obtain⟨b,off,rfl,hb,hc⟩:=h4 h;refine⟨b,off,rfl,hb,fun i j hi hj=>?_⟩;rw[hn]at hi;have hj:j<8:=hj;obtain⟨_,q2,q3,q4⟩:=hR i hi;have hu:(us i)[j]?=some ((us i)[j]'(by omega)):=zG (by omega);refine⟨_,(hc i j hi hj).trans hu,?_⟩;rw[m3 i j (by simpa using hi) hj];have:((zo n).map R).getD i []=R i:=by simp[List.getD,hi]
  rw[this];exact q4 j _ hu
end
end Go.Sx
end

section
namespace Go.Sx
open Go.RowKit Go.ChangeShapes Go.WideShapes
section
variable [Globs]
end
end Go.Sx
end
