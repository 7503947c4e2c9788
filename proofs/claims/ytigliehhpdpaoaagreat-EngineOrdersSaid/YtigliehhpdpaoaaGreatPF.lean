/- Part 6 of the proof of EngineOrders: the executor, the mirrors of the functions, the plain facts. -/
import Derived.Test.YtigliehhpdpaoaaGreatPE
import Derived.RangeFuncLeaves
import Derived.Carry
import Derived.ChangeArms
import Derived.OpenShut
import Derived.ChangeShapes
import Derived.ChangeSame
import Derived.SizedLaws
import Derived.WideShapes
set_option maxRecDepth 100000
set_option linter.unusedSectionVars false
set_option linter.unusedSimpArgs false
set_option linter.unusedVariables false
section
open Go.RowKit
namespace Go.Sx
structure SubSt (s s0:St):Prop where
 tm:∀t v,jav s.tm t=some v→jav s0.tm t=some v
 hp:∀h o,find s.hp h=some o→find s0.hp h=some o
 nx:s.nx=s0.nx
theorem SubSt.refl (s:St):SubSt s s:=⟨fun _ _ h=>h,fun _ _ h=>h,rfl⟩
theorem SubSt.trans {a b c:St} (h:SubSt a b) (k:SubSt b c):SubSt a c:=⟨fun t v x=>k.tm t v (h.tm t v x),fun t v x=>k.hp t v (h.hp t v x),h.nx.trans k.nx⟩
theorem jnI {α:Type} (j:Nat) (st:St) (k:St→α):∃s,stF j st k=k s∧SubSt s st:=by
 unfold stF;obtain⟨hp',h1,h2⟩:=jg7 (live:=fun _=>true) st.hp j 0 (fun hp=>fN st.nx fun nx=>k ⟨st.tm,hp,nx⟩);exact⟨⟨st.tm,hp',st.nx⟩,by rw[h1,jbA],fun _ _ h=>h,fun h o hf=>(h2 h o hf).1,rfl⟩
theorem jAf {α:Type} (st:St) (k:St→α):∃s,stG st k=k s∧SubSt s st:=by
 unfold stG;obtain⟨tm',h1,h2⟩:=jnE st.tm 0 (fun tm=>fN st.nx fun nx=>k ⟨tm,st.hp,nx⟩);exact⟨⟨tm',st.hp,st.nx⟩,by rw[h1,jbA],fun t v hf=>(h2 t v hf).1,fun _ _ h=>h,rfl⟩
theorem jfN {α:Type} (tm:List (Nat × V)) (hp:Hp) (nx:Nat) (k:St→α):jnF tm hp nx k=k ⟨tm,hp,nx⟩:=by
 unfold jnF;cases hp with
 |nil=>exact jbA _ _
 |cons x r =>
  obtain⟨h,o⟩:=x
  show fO o _=_
  rw[jwZ,jbA]
theorem jqJ {α:Type} (o:Oper) (r:Res) (st:St) (k:St→α):∃s,jqa o r st k=k s∧SubSt s (st.put o.dst r):=by
 have e:st.put o.dst ⟨True,r.v,r.hp,r.nx⟩=st.put o.dst r:=by cases o.dst<;>rfl
 unfold jqa;rw[jdb,e];unfold jqa.putG;split
 ·exact jnI _ _ _
 ·split
  ·rw[jbA];exact⟨_,rfl,SubSt.refl _⟩
  ·exact jnI _ _ _
  ·exact⟨_,rfl,SubSt.refl _⟩
 ·exact⟨_,jfN _ _ _ _,SubSt.refl _⟩
 ·exact⟨_,jfN _ _ _ _,SubSt.refl _⟩
 ·exact⟨_,jfN _ _ _ _,SubSt.refl _⟩
 ·exact⟨_,jfN _ _ _ _,SubSt.refl _⟩
 ·exact⟨_,jfN _ _ _ _,SubSt.refl _⟩
 ·exact⟨_,rfl,SubSt.refl _⟩
def jbQ (sp:jaa):Prop:=∀f M S args hp nx t,sp f=some (M,S)→S args hp nx=some t→t.sel.ob
section
variable [Globs] {P:Program} {B:Kd} {N n0:Nat} {sp:jaa} {ρ ρ0:Env} {w w0:World} {a:Act} {st:St} {ds:List Deferred}
theorem RelD.subSt {s:St} (h:RelD ds ρ B N n0 st a w) (hs:SubSt s st):RelD ds ρ B N n0 s a w:=by
 obtain⟨B1,g,hh⟩:=h.heap;refine⟨fun t v hv=>?_,h.size,h.defers,⟨B1,g,?_⟩,h.le,by rw[hs.nx];exact h.n0⟩
 ·rw[hs.nx];exact h.tm t v (hs.tm t v hv)
 ·rw[hs.nx];exact hh.sub fun k o hf=>hs.hp k o hf
theorem jw7 {op:Op} {rd:Operand→Option V} {hp:Hp} {nx:Nat} {t:RT} (hfr:jbQ sp) (h:jgg P sp op rd hp nx=some t):t.sel.ob:=by
 unfold jgg at h;split at h
 ·split at h
  ·split at h
   ·rename_i r _ _;cases h;cases r.isSome<;>trivial
   ·cases h
  ·cases h
 ·split at h
  ·rename_i b _ _ _;cases h;cases jpz b<;>trivial
  ·cases h
 ·split at h
  ·split at h
   ·split at h
    ·rename_i hsg;exact hfr _ _ _ _ _ _ _ hsg h
    ·cases h
   ·split at h
    ·rename_i hsg;exact hfr _ _ _ _ _ _ _ hsg h
    ·cases h
   ·cases h
  ·cases h
 ·cases h
theorem RT.sel_run:∀{t:RT} {k:Res→Prop},k t.sel→t.run k
 | .leaf _,_,h=>h
 | .br b x y,k,h=>by
  cases b
  ·exact RT.sel_run (t:=y) h
  ·exact RT.sel_run (t:=x) h
theorem jAg {o:Oper} {st':St} (hfr:jbQ sp) (h:cOp P sp N o st=some st'):∃s0,SubSt st' s0∧jgM P sp N o st fun s=>s=s0:=by
 unfold cOp at h;rw[jyF]at h;split at h
 ·cases h
 ·rename_i hd;split at h
  ·rename_i v hq;rw[jdb]at h;cases h;obtain⟨hT,ob,hV,hob⟩:=jp9 (P:=P) (sp:=sp) (nx:=st.nx) hq;refine⟨_,SubSt.refl _,?_⟩;unfold jgM;rw[hT];have hs:jbN P sp o.op (jce st) st.hp st.nx=some ⟨ob,v,st.hp,st.nx⟩:=by unfold jbN;rw[hV]
   simp only[hs,hd];have e:st.put o.dst ⟨ob,v,st.hp,st.nx⟩=st.put o.dst ⟨True,v,st.hp,st.nx⟩:=by cases o.dst<;>rfl
   split
   ·exact e
   ·exact⟨⟨hob⟩,e⟩
  ·split at h
   ·rename_i t ht;obtain⟨s,h1,h2⟩:=jqJ o t.sel st some;rw[h1]at h;cases h;refine⟨_,h2,?_⟩;unfold jgM;simp only[ht,hd];exact RT.sel_run ⟨⟨jw7 hfr ht⟩,rfl⟩
   ·rename_i hT;split at h
    ·rename_i r hr;obtain⟨s,h1,h2⟩:=jqJ o r st some;split at h
     ·rename_i ht;rw[h1]at h;cases h;refine⟨_,h2,?_⟩;unfold jgM;simp only[hT,hr,hd,ht]
     ·rename_i ht hb;rw[h1]at h;cases h;refine⟨_,h2,?_⟩;unfold jgM;simp only[hT,hr,hd,ht];exact⟨⟨b_ob hb hr⟩,trivial⟩
     ·cases h
    ·cases h
theorem jlA {o:Oper} {st':St} {K:Act→World→Prop} {Q:Exit→Act→World→Prop} (hsp:jac P sp) (hfr:jbQ sp) (hr:RelD ds ρ B N n0 st a w) (hag:jae n0 ρ0 ρ) (hbl:Bel B w0 w) (h:cOp P sp N o st=some st')
  (hK:∀ρ' a' w',RelD ds ρ' B N n0 st' a' w'→jae n0 ρ0 ρ'→Bel B w0 w'→K a' w'):o.wp P a w K Q:=by
 obtain⟨s0,h1,h2⟩:=jAg hfr h;refine jel hsp hr hag hbl h2 fun ρ' s a' w' q1 q2 q3 q4=>?_;subst q4;exact hK ρ' a' w' (q1.subSt h1) q2 q3
theorem jif {o:Oper} {st':St} {K:Act→World→Prop} (hr:RelD ds ρ B N n0 st a w) (hag:jae n0 ρ0 ρ) (hbl:Bel B w0 w) (h:jpa N o st=some st')
  (hK:∀ρ' a' w',RelD ds ρ' B N n0 st' a' w'→jae n0 ρ0 ρ'→Bel B w0 w'→K a' w'):K (a.put o.dst undef) w:=by
 unfold jpa at h;split at h
 ·rename_i hd;cases h;exact hK ρ _ w (hr.skip hd) hag hbl
 ·cases h
theorem jpc {all:List Oper} {st':St} {Q:Exit→Act→World→Prop} (hsp:jac P sp) (hfr:jbQ sp)
  (hQ:∀ρ' a' w',RelD ds ρ' B N n0 st' a' w'→jae n0 ρ0 ρ'→Bel B w0 w'→Q .normal a' w') :
  ∀(l:List Oper) (ρ:Env) (st:St) (a:Act) (w:World),RelD ds ρ B N n0 st a w→jae n0 ρ0 ρ→Bel B w0 w→cOps P sp N all l st=some st'→wpList P all.toArray Q l a w
 |[],ρ,st,a,w,hr,hag,hbl,h=>by
  cases (show some st=some st' from h);exact hQ ρ a w hr hag hbl
 |o::r,ρ,st,a,w,hr,hag,hbl,h=>by
  have h:Option.rec (motive:=fun _=>Option St) none (fun st1=>cOps P sp N all r st1) (cOne P sp N all o st)=some st':=h;cases h1:cOne P sp N all o st with
  |none=>rw[h1]at h;cases h
  |some st1 =>
   rw[h1]at h;have h:cOps P sp N all r st1=some st':=h;have ih:=fun ρ' a' w' (h1:RelD ds ρ' B N n0 st1 a' w') h2 h3=>jpc (all:=all) hsp hfr hQ r ρ' st1 a' w' h1 h2 h3 h;unfold wpList;unfold cOne at h1;split at h1
   ·rename_i hg;have hw:Region.wanted o (yielded all.toArray a.tmps)=true:=by simp[Region.wanted,hg]
    rw[if_pos hw];exact .inl (jlA hsp hfr hr hag hbl h1 ih)
   ·rename_i j want hg;have hwanted:∀ob,yielded all.toArray a.tmps j=ob→Region.wanted o (yielded all.toArray a.tmps)=(ob==some want):=fun ob hob=>by simp[Region.wanted,hg,hob]
    rw[jed]at h1;split at h1
    ·cases h1
    ·rename_i t ht;rw[jiN]at h1;split at h1
     ·rename_i b hget;have hgo:jeP all j st=some (t,.w (.c (.d (.b b)))):=by unfold jeP;rw[ht];simp[hget]
      obtain⟨hy,_⟩:=jdI hr hgo (.inr rfl);have hw:=hwanted _ hy;have hval:(V.w (.c (.d (.b b)))).val ρ=.bool b:=rfl;rw[hval]at hw;cases b<;>cases want<;>dsimp only at h1
      ·rw[if_pos (by rw[hw];rfl)];exact .inl (jlA hsp hfr hr hag hbl h1 ih)
      ·rw[if_neg (by rw[hw];simp)];exact jif hr hag hbl h1 ih
      ·rw[if_neg (by rw[hw];simp)];exact jif hr hag hbl h1 ih
      ·rw[if_pos (by rw[hw];rfl)];exact .inl (jlA hsp hfr hr hag hbl h1 ih)
     ·rename_i vs hget;have hgo:jeP all j st=some (t,.w (.c (.d (.v (.tuple vs))))):=by unfold jeP;rw[ht];simp[hget]
      obtain⟨hy,_⟩:=jdI hr hgo (.inr rfl);have hw:=hwanted _ hy;have hval:(V.w (.c (.d (.v (.tuple vs))))).val ρ=.tuple vs:=rfl;rw[hval]at hw;rw[if_neg (by rw[hw];simp)];exact jif hr hag hbl h1 ih
     ·cases h1
end
end Go.Sx
end

section
open Go.RowKit
namespace Go.Sx
section
variable [Globs] {P:Program} {B:Kd} {N n0:Nat} {sp:jaa} {ρ ρ0:Env} {w w0:World} {a:Act} {st:St} {ds:List Deferred}
theorem jfO {t:Bool} {ob k:Prop} (h:t=true∨ob) (hk:k):obT t ob k:=by
 cases t with
 |true=>exact hk
 |false=>exact⟨⟨h.elim (fun h=>by cases h) id⟩,hk⟩
theorem jjM {op:Op} {rd:Operand→Option V} {hp:Hp} {r r':Rec} (h:obC P op rd hp r=some r'):r'=r∧(ja5 op rd hp=true∨obB P op rd hp=true):=by
 unfold obC at h;split at h
 ·rename_i ht;rw[jdb]at h;cases h;exact⟨rfl,.inl ht⟩
 ·rename_i ht hb;rw[jdb]at h;cases h;exact⟨rfl,.inr hb⟩
 ·cases h
theorem jw8 {op:Op} {rd:Operand→Option V} {hp:Hp} {ob:Prop} {v:V} (ht:obB P op rd hp=true) (h:ja1 P op rd hp=some (ob,v)):ob:=by
 unfold ja1 at h;split at h
 ·rename_i p hp0;cases h;exact jyD ht hp0
 ·exact jAQ ht h
theorem jig {op:Op} {rd:Operand→Option V} {hp:Hp} {nx:Nat} {r r':Rec} {res:Res} (hfr:jbQ sp) (hs:jbN P sp op rd hp nx=some res) (h:jnG.obCall P sp op rd hp r=some r'):r'=r∧(ja5 op rd hp=true∨res.ob):=by
 unfold jnG.obCall at h
 have gen:obC P op rd hp r=some r'→r'=r∧(ja5 op rd hp=true∨res.ob):=fun h=>by
  obtain⟨h1,h2⟩:=jjM h;exact⟨h1,h2.imp id fun hb=>b_ob hb hs⟩
 split at h
 ·rename_i c;split at h
  ·rename_i f hc;rw[jdb]at h;cases h;refine⟨rfl,.inr ?_⟩;have h1:ja1 P (.call c) rd hp=none:=by simp[ja1,jaZ,jfi,hc]
   have h2:jc7 P (.call c) rd hp nx=none:=by simp[jc7]
   have h3:jdE P (.call c) rd hp nx=none:=by simp[jdE]
   have h4:jei P (.call c) rd hp nx=none:=by simp[jei,hc]
   have h5:jdG P (.call c) rd hp nx=none:=by simp[jdG,hc]
   have h6:jdF P (.call c) rd hp nx=none:=by simp[jdF,hc]
   unfold jbN at hs;simp only[h1,h2,h3,h4,h5,h6]at hs;unfold jhp at hs;dsimp only at hs;simp only[hc]at hs;split at hs
   ·split at hs
    ·rename_i M S hsg;obtain⟨t,ht,hl⟩:=Option.bind_eq_some_iff.1 hs;have:=hfr _ _ _ _ _ _ _ hsg ht;cases t with
     |leaf r0=>cases hl;exact this
     |br=>cases hl
    ·cases hs
   ·split at hs
    ·rename_i M S hsg;obtain⟨t,ht,hl⟩:=Option.bind_eq_some_iff.1 hs;have:=hfr _ _ _ _ _ _ _ hsg ht;cases t with
     |leaf r0=>cases hl;exact this
     |br=>cases hl
    ·cases hs
   ·cases hs
  ·exact gen h
 ·exact gen h
theorem jyI {op:Op} {rd:Operand→Option V} {hp:Hp} {bef:List Nat} {st0:St} {tr:List Rec} {r:Rec} (h:qdop P op rd hp bef st0 tr=some r) :
  ∃v ob,ja1 P op rd hp=some (ob,v)∧ob∧ja0 bef st0 tr v [] (jab st0 tr)=true∧r=⟨v,jam st0 tr,jab st0 tr,0,[],none⟩:=by
 unfold qdop at h;split at h
 ·rename_i v hq;rw[jdb]at h;split at h
  ·rename_i ho;cases h;rw[jly]at ho;obtain⟨_,ob,h1,h2⟩:=jp9 (P:=P) (sp:=fun _=>none) (nx:=0) hq;exact⟨v,ob,h1,h2,ho,rfl⟩
  ·cases h
 ·cases h
theorem jw9 {op:Op} {rd:Operand→Option V} {bef:List Nat} {st0:St} {tr:List Rec} {r:Rec} (h:jw3 P op rd bef st0 tr=some r) :
  ∃h x v ob,loadAt op rd=some h∧find (jam st0 tr) h=some x∧(jar (fun j=>bef.contains j) st0 tr h&&jbv st0 bef h tr)=true∧ja1 P op rd [(h,x)]=some (ob,v)∧ob∧ja0 bef st0 tr v [] (jab st0 tr)=true∧r=⟨v,jam st0 tr,jab st0 tr,0,[],none⟩:=by
 unfold jw3 at h;split at h
 ·split at h
  ·cases h
  ·rename_i k hk;split at h
   ·cases h
   ·rename_i x hx;rw[jdo]at hx;split at h
    ·cases h
    ·rename_i hb;rw[jg8]at hb;split at h
     ·rename_i v hq;rw[jdb]at h;split at h
      ·rename_i ho;cases h;rw[jly]at ho;obtain⟨_,ob,h1,h2⟩:=jp9 (P:=P) (sp:=fun _=>none) (nx:=0) hq;exact⟨k,x,v,ob,hk,hx,hb,h1,h2,ho,rfl⟩
      ·cases h
     ·cases h
 ·cases h
theorem jpd {tab:List (List Nat)} {i:Nat} {lf:Bool}:∀{l:List Oper} {k:Nat},ja3 tab i false false k l=true→ja3 tab i lf false k l=true
 |[],_,_=>rfl
 |o::r,k,h=>by
  simp only[ja3,Bool.and_eq_true,Bool.or_eq_true]at h ⊢;refine⟨?_,jpd h.2⟩;rcases h.1 with ((((h1|h1)|h1)|h1)|h1)|h1
  ·exact .inl (.inl (.inl (.inl (.inl h1))))
  ·exact .inl (.inl (.inl (.inl (.inr h1))))
  ·exact .inl (.inl (.inl (.inr h1)))
  ·exact .inl (.inl (.inr h1))
  ·cases h1.1
  ·cases h1.1.1
theorem jCs {L:List Oper} {tab:List (List Nat)} {st0:St} {o:Oper} {tr:List Rec}:mkF L tab st0 o tr.length tr=jpH L tab st0 o tr:=by
 unfold mkF;split
 ·rename_i h;unfold jpH;rw[jpd h]
 ·rfl
theorem jl9 {L:List Oper} {bef:List Nat} {st0:St} {t:Nat}:∀{tr:List Rec},jez L bef tr.length t=true→jcc L bef st0 t tr=jav (jdP L st0 tr) t
 |[],_=>rfl
 |r::tr,h=>by
  unfold jez at h;simp only[List.length_cons,jrH]at h;simp only[jcc,jdP];cases hd:jbJ L tr.length with
  |none =>
   rw[hd]at h;dsimp only at h ⊢;exact jl9 (by unfold jez;exact h)
  |some d =>
   rw[hd]at h;dsimp only at h ⊢
   by_cases e:d=t
   ·rw[if_pos e]at h ⊢;dsimp only at h;rw[h];simp only[jav,if_pos e]
   ·rw[if_neg e]at h ⊢;simp only[jav,if_neg e];exact jl9 (by unfold jez;exact h)
theorem jlB {L:List Oper} {tab:List (List Nat)}:∀{l:List Oper} {k:Nat},jiP L tab k l=true→∀m o,l[m]?=some o→∀t∈jap L o,jez L (tab.getD (k+m) []) (k+m) t=true
 |[],_,_,_,_,h=>by simp at h
 |o' :: r,k,hs,m,o,h=>by
  simp only[jiP,Bool.and_eq_true]at hs;cases m with
  |zero =>
   simp at h;subst h;exact fun t ht=>List.all_eq_true.1 hs.1 t ht
  |succ m =>
   intro t ht;have:=jlB hs.2 m o (by simpa using h) t ht;rw[show k+(m+1)=k+1+m by omega];exact this
theorem jCt {L:List Oper} {tab:List (List Nat)} {st0:St} {o:Oper} {tr:List Rec} (h:∀t∈jap L o,jez L (tab.getD tr.length []) tr.length t=true) :
  rdF st0 (jap L o) (jdP L st0 tr)=ja4 L (jap L o) (tab.getD tr.length []) st0 tr:=by
 funext x;cases x with
 |tmp t =>
  simp only[rdF,ja4];cases hc:(jap L o).contains t with
  |false=>rfl
  |true =>
   dsimp only;rw[jiN,jl9 (h t (by simpa using hc))]
 |_=>rfl
theorem jqK {L:List Oper} {tab:List (List Nat)} {st0:St} {o:Oper} {tr:List Rec} {r:Rec} {k:Rec→Prop} (hfr:jbQ sp) (hrd:∀t∈jap L o,jez L (tab.getD tr.length []) tr.length t=true) (h:jnG P sp N L tab st0 o tr.length (tab.getD tr.length []) (rdF st0 (jap L o) (jdP L st0 tr)) tr=some r) (hk:k r):dop P sp N L tab st0 o tr k:=by
 rw[jCt hrd]at h;unfold jnG at h;simp only[jly,jg8,jAc,jCs]at h;unfold dop;split at h
 ·cases h
 ·rename_i hd;rw[hd];dsimp only;split at h
  ·rename_i r' hq;cases h;obtain⟨v,ob,h1,h2,h3,rfl⟩:=jyI hq;rw[h1];dsimp only;rw[h3];exact jfO (.inr h2) hk
  ·split at h
   ·rename_i ob v hv;split at h
    ·rename_i ho;rw[hv];dsimp only;rw[ho];obtain⟨rfl,h2⟩:=jjM h;exact jfO (h2.imp id fun hb=>jw8 hb hv) hk
    ·cases h
   ·rename_i hv;rw[hv];dsimp only;split at h
    ·rename_i hsp;rw[hsp];dsimp only;split at h
     ·rename_i hb;rw[hb];dsimp only;split at h
      ·rename_i ob v hv2;rw[hv2];dsimp only;split at h
       ·rename_i ho;rw[ho];obtain⟨rfl,h2⟩:=jjM h;exact jfO (h2.imp id fun hb=>jw8 hb hv2) hk
       ·cases h
      ·cases h
     ·cases h
    ·rename_i hsp;rw[hsp];dsimp only;split at h
     ·rename_i hl;rw[hl];dsimp only;split at h
      ·rename_i r' hq;cases h;obtain⟨k',x,v,ob,q1,q2,q3,q4,q5,q6,rfl⟩:=jw9 hq;rw[q1];dsimp only;rw[q2];dsimp only;rw[q3];dsimp only;rw[q4];dsimp only;rw[q6];exact jfO (.inr q5) hk
      ·split at h
       ·cases h
       rename_i h' hla;rw[hla];dsimp only;split at h
       ·cases h
       ·rename_i x hx;rw[hx];dsimp only;split at h
        ·cases h
        ·rename_i hb;rw[hb];dsimp only;split at h
         ·rename_i hv2;rw[hv2];dsimp only;split at h
          ·cases h
          ·rename_i hmk;rw[hmk];dsimp only;split at h
           ·rename_i res hs;rw[hs];dsimp only;split at h
            ·rename_i ho;rw[ho];obtain⟨rfl,h2⟩:=jig hfr hs h;exact jfO h2 hk
            ·cases h
           ·cases h
         ·rename_i ob v hv2;rw[hv2];dsimp only;split at h
          ·rename_i ho;rw[ho];obtain⟨rfl,h2⟩:=jjM h;exact jfO (h2.imp id fun hb=>jw8 hb hv2) hk
          ·cases h
     ·rename_i hl;rw[hl];dsimp only;split at h
      ·rename_i hm;rw[hm];dsimp only;split at h
       ·rename_i res hs;rw[hs];dsimp only;split at h
        ·rename_i ho;rw[ho];obtain⟨rfl,h2⟩:=jig hfr hs h;exact jfO h2 hk
        ·cases h
       ·cases h
      ·rename_i hm;rw[hm];dsimp only;split at h
       ·cases h
       ·rename_i hf;rw[hf];dsimp only;split at h
        ·rename_i res hs;rw[hs];dsimp only;split at h
         ·rename_i ho;rw[ho];obtain⟨rfl,h2⟩:=jig hfr hs h;exact jfO h2 hk
         ·cases h
        ·cases h
theorem jmV {st0:St} {o:Oper} {tr:List Rec} {r:Rec} {k:Rec→Prop} (h:jlz N st0 o tr=some r) (hk:k r):jjd N st0 o tr k:=by
 unfold jlz at h;unfold jjd;split at h
 ·cases h
 ·rename_i hd;cases h;rw[hd];exact hk
theorem jBr {L:List Oper} {st0:St} {o:Oper} {r:Rec} {tr:List Rec} (h:L[tr.length]?=some o):jjL o r (jdP L st0 tr)=jdP L st0 (r::tr):=by
 simp only[jjL,jdP,jbJ,h,Option.bind_some];cases o.dst<;>rfl
theorem jpe {L:List Oper} {tab:List (List Nat)} {st0:St} (hfr:jbQ sp) (hrd:jiP L tab 0 L=true):∀(l:List Oper) (tr:List Rec) (tm':List (Nat × V)) (tr':List Rec) (k:List Rec→Prop),L=L.take tr.length++l→tr.length+l.length=L.length →
  jeA P sp N L tab st0 l tr.length (jdP L st0 tr) tr=some (tm',tr')→(tm'=jdP L st0 tr'→k tr')→jeT P sp N L tab st0 l tr k
 |[],tr,tm',tr',k,_,_,h,hk=>by
  unfold jeA at h;cases h;exact hk rfl
 |o::r,tr,tm',tr',k,hL,hlen,h,hk=>by
  have hlt:tr.length<L.length:=by simp at hlen;omega
  have ho:L[tr.length]?=some o:=by
   rw[hL,List.getElem?_append_right (by simp;omega)];simp[Nat.min_eq_left (Nat.le_of_lt hlt)]
  have hro:∀t∈jap L o,jez L (tab.getD tr.length []) tr.length t=true:=fun t ht=>by
   have:=jlB hrd tr.length o ho t ht;simpa using this
  have next:∀rc,jeA P sp N L tab st0 r (tr.length+1) (jjL o rc (jdP L st0 tr)) (rc::tr)=some (tm',tr')→jeT P sp N L tab st0 r (rc::tr) k:=fun rc hrc=>by
   refine jpe hfr hrd r (rc::tr) tm' tr' k ?_ (by simp at hlen ⊢;omega) (by rw[←jBr ho];exact hrc) hk
   have h1:L.take (tr.length+1)=L.take tr.length++[o]:=by
    rw[List.take_succ_eq_append_getElem hlt]
    congr 2
    have:=List.getElem?_eq_getElem hlt;rw[this]at ho;exact Option.some.inj ho
   simp only[List.length_cons,h1,List.append_assoc,List.singleton_append];exact hL
  unfold jeA at h;unfold jeT;split at h
  ·rename_i hg;rw[hg];dsimp only;split at h
   ·rename_i rc hc;exact jqK hfr hro hc (next rc h)
   ·cases h
  ·rename_i g want hg;rw[hg];dsimp only;split at h
   ·cases h
   ·rename_i t ht;rw[ht];dsimp only
    have hnm:t∈jap L o:=by
     unfold jap;rw[hg];simp[ht]
    rw[jiN,←jl9 (hro t hnm)]at h;split at h
    ·rename_i b hs;have hset:jc9 L t (vb b) tr=tr:=jgk hs;rw[hs];dsimp only
     cases b<;>cases want<;>dsimp only[Br]at h ⊢ <;> split at h<;>rw[hset]<;>first
      |(rename_i rc hc;exact jqK hfr hro hc (next rc h))
      |(rename_i rc hc;exact jmV hc (next rc h))
      |cases h
    ·rename_i vs hs;rw[hs];dsimp only;split at h
     ·rename_i rc hc;exact jmV hc (next rc h)
     ·cases h
    ·cases h
theorem jxa {ops:Array Oper} {s0:St} (hfr:jbQ sp) (h:jw4 P sp N ops st=some s0):jb1 P sp N ops st fun s=>s=s0:=by
 unfold jw4 at h;unfold jb1;split at h
 ·rename_i hf;rw[hf];dsimp only;unfold jyH at h;unfold jkK;split at h
  ·rename_i hs;rw[Bool.and_eq_true]at hs;rw[hs.1];dsimp only;split at h
   ·rename_i tm tr htr;cases h;exact jpe hfr hs.2 ops.toList [] tm tr _ (by simp) (by simp) htr fun e=>by rw[e];rfl
   ·cases h
  ·cases h
 ·cases h
theorem jcy {fuel:Nat} (hsp:jac P sp) (hfr:jbQ sp) (hdr:jeQ P B N n0 ρ0 w0 (jb1 P sp N)) :
  ∀(c:Code) (st:St) (ρ:Env) (a:Act) (w:World) (e:Ex) (st':St),cx P sp N fuel c st=some (e,st')→RelD ds ρ B N n0 st a w→jae n0 ρ0 ρ→Bel B w0 w →
   c.wp P (Qx ds ρ0 B N n0 w0 fun e' s=>e'=e∧s=st') a w
 | .skip,st,ρ,a,w,e,st',h,hr,hag,hbl=>by
  cases (show some (Ex.normal,st)=some (e,st')from h);exact wp_skip ⟨.normal,ρ,st,rfl,⟨rfl,rfl⟩,hr,hag,hbl⟩
 | .label l,st,ρ,a,w,e,st',h,hr,hag,hbl=>by
  cases (show some (Ex.normal,st)=some (e,st')from h);exact wp_label ⟨.normal,ρ,st,rfl,⟨rfl,rfl⟩,hr,hag,hbl⟩
 | .region id ops draw,st,ρ,a,w,e,st',h,hr,hag,hbl=>by
  have h:jw5 P sp N ops draw st=some (e,st'):=h;unfold jw5 at h;cases draw with
  |false =>
   dsimp only at h;split at h
   ·rename_i s1 hs;cases h;refine wp_region_list ?_;have:=jpc (P:=P) (Q:=Qx ds ρ0 B N n0 w0 fun e' s=>e'=.normal∧s=st') (all:=ops.toList) hsp hfr (fun ρ' a' w' h1 h2 h3=>⟨.normal,ρ',st',rfl,⟨rfl,rfl⟩,h1,h2,h3⟩) ops.toList ρ st a w hr hag hbl hs;simpa using this
   ·cases h
  |true =>
   dsimp only at h;split at h
   ·rename_i s1 hs;obtain⟨s2,h1,h2⟩:=jnI 3 s1 (fun s=>some (Ex.normal,s));rw[h1]at h;cases h
    exact hdr id ops st _ ρ a w _ (jxa hfr hs) hr hag hbl (fun ρ' s a' w' q1 q2 q3 q4=>by
     subst q4;exact⟨.normal,ρ',st',rfl,⟨rfl,rfl⟩,q1.subSt h2,q2,q3⟩)
   ·cases h
 | .seq x y,st,ρ,a,w,e,st',h,hr,hag,hbl=>by
  have h:jcS (cx P sp N fuel x st) (cx P sp N fuel y)=some (e,st'):=h;unfold jcS at h;refine wp_seq ?_;split at h
  ·rename_i s1 hs;refine wp_mono (jcy hsp hfr hdr x st ρ a w _ _ hs hr hag hbl) ?_;rintro e1 a1 w1 ⟨ex,ρ1,s2,rfl,⟨rfl,rfl⟩,hr1,hag1,hbl1⟩;exact jcy hsp hfr hdr y s2 ρ1 a1 w1 _ _ h hr1 hag1 hbl1
  ·rename_i hne;refine wp_mono (jcy hsp hfr hdr x st ρ a w _ _ h hr hag hbl) ?_;rintro e1 a1 w1 ⟨ex,ρ1,s2,rfl,⟨rfl,rfl⟩,hr1,hag1,hbl1⟩;cases ex with
   |normal=>exact(hne _ h).elim
   |exit j=>exact⟨.exit j,ρ1,_,rfl,⟨rfl,rfl⟩,hr1,hag1,hbl1⟩
   |ret=>exact⟨.ret,ρ1,_,rfl,⟨rfl,rfl⟩,hr1,hag1,hbl1⟩
 | .cond c x y,st,ρ,a,w,e,st',h,hr,hag,hbl=>by
  have h:jtn c (cx P sp N fuel x) (cx P sp N fuel y) st=some (e,st'):=h;unfold jtn at h;rw[jyF]at h;split at h
  ·rename_i hc;exact wp_cond_true (jhq hr (b:=true) (by rw[hc];rfl)) (jcy hsp hfr hdr x st ρ a w _ _ h hr hag hbl)
  ·rename_i hc;exact wp_cond_false (jhq hr (b:=false) (by rw[hc];rfl)) (jcy hsp hfr hdr y st ρ a w _ _ h hr hag hbl)
  ·cases h
 | .block id c,st,ρ,a,w,e,st',h,hr,hag,hbl=>by
  have h:jqb id (cx P sp N fuel c st)=some (e,st'):=h;unfold jqb at h;refine wp_block ?_;split at h
  ·rename_i j s1 hs;refine wp_mono (jcy hsp hfr hdr c st ρ a w _ _ hs hr hag hbl) ?_;rintro e1 a1 w1 ⟨ex,ρ1,s2,rfl,⟨rfl,rfl⟩,hr1,hag1,hbl1⟩;simp only[Ex.toExit,Exit.inBlock];split at h
   ·rename_i hj;cases h;rw[if_pos (Nat.eq_of_beq_eq_true hj)];exact⟨.normal,ρ1,_,rfl,⟨rfl,rfl⟩,hr1,hag1,hbl1⟩
   ·rename_i hj;cases h;rw[if_neg (fun e=>by subst e;rw[Nat.beq_refl]at hj;cases hj)];exact⟨.exit j,ρ1,_,rfl,⟨rfl,rfl⟩,hr1,hag1,hbl1⟩
  ·rename_i hne;refine wp_mono (jcy hsp hfr hdr c st ρ a w _ _ h hr hag hbl) ?_;rintro e1 a1 w1 ⟨ex,ρ1,s2,rfl,⟨rfl,rfl⟩,hr1,hag1,hbl1⟩;cases ex with
   |normal=>exact⟨.normal,ρ1,_,rfl,⟨rfl,rfl⟩,hr1,hag1,hbl1⟩
   |exit j=>exact(hne _ _ h).elim
   |ret=>exact⟨.ret,ρ1,_,rfl,⟨rfl,rfl⟩,hr1,hag1,hbl1⟩
 | .loop c,st,ρ,a,w,e,st',h,hr,hag,hbl=>by
  have h:jpb (cx P sp N fuel c) fuel st=some (e,st'):=h;refine wp_loop_rounds fuel ?_
  have key:∀(n:Nat) (st:St) (ρ:Env) (a:Act) (w:World),jpb (cx P sp N fuel c) n st=some (e,st')→RelD ds ρ B N n0 st a w→jae n0 ρ0 ρ→Bel B w0 w→Code.rounds P c (Qx ds ρ0 B N n0 w0 fun e' s=>e'=e∧s=st') n a w:=by
   intro n
   induction n with
   |zero=>intro st ρ a w h;cases (show none=some (e,st')from h)
   |succ n ih =>
    intro st ρ a w h hr hag hbl
    have h:(match cx P sp N fuel c st with
     |some (.normal,st1)=>stG st1 fun st1=>jpb (cx P sp N fuel c) n st1
     |x=>x)=some (e,st'):=h
    rw[rounds_succ];split at h
    ·rename_i s1 hs;obtain⟨s2,h1,h2⟩:=jAf s1 (fun s=>jpb (cx P sp N fuel c) n s);rw[h1]at h;refine wp_mono (jcy hsp hfr hdr c st ρ a w _ _ hs hr hag hbl) ?_;rintro e1 a1 w1 ⟨ex,ρ1,s3,rfl,⟨rfl,rfl⟩,hr1,hag1,hbl1⟩;exact ih s2 ρ1 a1 w1 h (hr1.subSt h2) hag1 hbl1
    ·rename_i hne;refine wp_mono (jcy hsp hfr hdr c st ρ a w _ _ h hr hag hbl) ?_;rintro e1 a1 w1 ⟨ex,ρ1,s2,rfl,⟨rfl,rfl⟩,hr1,hag1,hbl1⟩;cases ex with
     |normal=>exact(hne _ h).elim
     |exit j=>exact⟨.exit j,ρ1,_,rfl,⟨rfl,rfl⟩,hr1,hag1,hbl1⟩
     |ret=>exact⟨.ret,ρ1,_,rfl,⟨rfl,rfl⟩,hr1,hag1,hbl1⟩
  exact key fuel st ρ a w h hr hag hbl
 | .exit id,st,ρ,a,w,e,st',h,hr,hag,hbl=>by
  cases (show some (Ex.exit id,st)=some (e,st')from h);exact wp_exit ⟨.exit id,ρ,st,rfl,⟨rfl,rfl⟩,hr,hag,hbl⟩
 | .ret,st,ρ,a,w,e,st',h,hr,hag,hbl=>by
  cases (show some (Ex.ret,st)=some (e,st')from h);exact wp_ret ⟨.ret,ρ,st,rfl,⟨rfl,rfl⟩,hr,hag,hbl⟩
 | .scope c,st,ρ,a,w,e,st',h,_,_,_=>by cases (show none=some (e,st')from h)
 | .goto l,st,ρ,a,w,e,st',h,_,_,_=>by cases (show none=some (e,st')from h)
 | .rangeFunc f ps x y,st,ρ,a,w,e,st',h,_,_,_=>by cases (show none=some (e,st')from h)
 | .refuse s,st,ρ,a,w,e,st',h,_,_,_=>by cases (show none=some (e,st')from h)
end
end Go.Sx
end

section
open Go.RowKit
namespace Go.Sx
section
variable [Globs] {P:Program} {B:Kd} {sp:jaa} {ρ:Env} {w:World} {hp:Hp} {nx:Nat}
theorem jtq {st:St} {r:ResultVar} {u:W} (h:jqc P st r=some u):∃ob,jit P st r=some (ob,u)∧ob:=by
 unfold jqc at h;unfold jit;split at h
 ·split at h
  ·rename_i u' hg;cases h;exact⟨True,by simp only[hg],trivial⟩
  ·cases h
 ·split at h
  ·rename_i k i e j hg;split at h
   ·rename_i o hf;split at h
    ·rename_i ob u' hr hb;cases h;exact⟨ob,by simp only[hg,hf,hr],jvD hr hb⟩
    ·cases h
   ·cases h
  ·cases h
theorem jlC {st:St}:∀{rs:List ResultVar} {l:List W},jdv P st rs=some l→∃l',jdC P st rs=some l'∧l'.map (·.2)=l∧∀k:Prop,k→jfD l' k
 |[],l,h=>by
  simp only[jdv,Option.some.injEq]at h;subst h;exact⟨[],rfl,rfl,fun _ h=>h⟩
 |r::rs,l,h=>by
  simp only[jdv]at h;split at h
  ·rename_i x l1 h1 h2;cases h;obtain⟨ob,q1,q2⟩:=jtq h1;obtain⟨l',q3,q4,q5⟩:=jlC h2;refine⟨(ob,x)::l',by simp only[jdC,q1,q3],by simp[q4],fun k hk=>⟨⟨q2⟩,q5 k hk⟩⟩
  ·cases h
theorem jqL (hh:HRel ρ B hp nx w) {v:V} (hv:v.lt nx):(jg9 hp v).val ρ=v.val ρ∧(jg9 hp v).lt nx:=by
 unfold jg9;split
 ·rename_i h;split
  ·rename_i ty cs hf;obtain⟨q1,_,k,q3,_⟩:=hh.ok h _ hf;exact⟨by simp[V.val,W.val,C.val,q3,base],q1⟩
  ·rename_i cs hf;obtain⟨q1,_,k,o,q3,_⟩:=hh.ok h _ hf;exact⟨by simp[V.val,W.val,C.val,q3,base],q1⟩
  ·rename_i ty k e r hf;obtain⟨q1,_,k,q3,_⟩:=hh.ok h _ hf;exact⟨by simp[V.val,W.val,C.val,q3,base],q1⟩
  ·exact⟨rfl,hv⟩
 ·exact⟨rfl,hv⟩
theorem jgu (hh:HRel ρ B hp nx w) {args:List V} (hlt:∀x∈args,V.lt nx x):(args.map (jg9 hp)).map (V.val ρ)=args.map (V.val ρ)∧∀x∈args.map (jg9 hp),V.lt nx x:=by
 refine⟨?_,fun x hx=>?_⟩
 ·rw[List.map_map];exact List.map_congr_left fun v hv=>(jqL hh (hlt v hv)).1
 ·obtain⟨v,hv,rfl⟩:=List.mem_map.1 hx;exact(jqL hh (hlt v hv)).2
theorem jnJ {f fuel:Nat} {fn:Func} {body:Code} {args:List V} {e:Ex} {st:St} {l:List W} (hsp:jac P sp) (hfr:jbQ sp) (hdr:∀ρ w,jeQ P B fn.ntmps nx ρ w (jb1 P sp fn.ntmps))
  (hf:P.funcs[f]?=some fn) (hb:fn.body=some body) (hlen:args.length≤fn.ntmps) (hcx:cx P sp fn.ntmps fuel body ⟨jbZ 0 args,hp,nx⟩=some (e,st)) (he:∀j,e≠.exit j) (hl:jdv P st fn.results.toList=some l)
  (hlt:∀x∈args,V.lt nx x) (hh:HRel ρ B hp nx w) (hB:Old B w) :
  Calls P f (args.map (V.val ρ)).toArray w fun e w'=>∃ρ',e=.returned ((jaU l).val ρ')∧(jaU l).lt st.nx∧jae nx ρ ρ'∧(∃B',Grow B B' false w' w'∧HRel ρ' B' st.hp st.nx w')∧Bel B w w':=by
 refine calls_of_wp hf hb ?_;have hrel:=jdj (n0:=nx) hlen hlt (Nat.le_refl _) ρ w hh hB;refine wp_mono (jcy hsp hfr (hdr ρ w) body _ ρ _ w e st hcx hrel (jae.refl _ _) (Bel.refl _ _)) ?_;rintro e1 a1 w1 ⟨ex,ρ1,s,rfl,⟨rfl,rfl⟩,hr1,hag1,hbl1⟩;obtain⟨l',q1,q2,q3⟩:=jlC hl
 have fin:a1.defers=[]∧∃v,(results fn a1.tmps).run P w1=.ok v w1∧∃ρ',Ending.returned v=.returned ((jaU l).val ρ')∧(jaU l).lt s.nx∧jae nx ρ ρ'∧(∃B',Grow B B' false w1 w1∧HRel ρ' B' s.hp s.nx w1)∧Bel B w w1:=by
  have hra:=jgi hr1 _ l' True q1 (q3 True trivial);refine⟨hr1.defers,(jaU l).val ρ1,?_,ρ1,rfl,jeR (fun y hy=>?_),hag1,hr1.heap,hbl1⟩
  ·rw[jcN];simp only[ji9,Array.mapM_eq_mapM_toList,Sem.run_bind,Sem.run_map,hra.1,Result.andThen_ok,Sem.run_pure,←q2,List.map_map];rfl
  ·rw[←q2]at hy;obtain⟨z,hz,rfl⟩:=List.mem_map.1 hy;exact hra.2.1 z hz
 cases ex with
 |normal=>exact fin
 |exit j=>exact(he j rfl).elim
 |ret=>exact fin
theorem jqM {α:Type} (n0:Nat) (v:V) (st:St) (k:Hp→α):∃hp',outF n0 v st k=k hp'∧∀h o,find hp' h=some o→find st.hp h=some o:=by
 unfold outF;obtain⟨m,h1⟩:=jie (n0:=n0) (hp:=st.hp) 6 (jrG v 0) (fun m=>hpF (fun h=>Nat.blt h n0||Nat.testBit m h) 0 0 st.hp k);rw[h1];obtain⟨hp',h2,h3⟩:=jg7 (live:=fun h=>Nat.blt h n0||Nat.testBit m h) st.hp 0 0 k;exact⟨hp',h2,fun h o hf=>(h3 h o hf).1⟩
theorem jqN {α:Type} (n0:Nat) (v:V) (st:St) (k:Hp→α):∃hp',outN n0 v st k=k hp'∧∀h o,find hp' h=some o→find st.hp h=some o∧n0≤h:=by
 unfold outN;obtain⟨m,h1⟩:=jie (n0:=n0) (hp:=st.hp) 6 (jrG v 0) (fun m=>hpF (fun h=>Nat.ble n0 h&&Nat.testBit m h) 0 0 st.hp k);rw[h1];obtain⟨hp',h2,h3⟩:=jg7 (live:=fun h=>Nat.ble n0 h&&Nat.testBit m h) st.hp 0 0 k;refine⟨hp',h2,fun h o hf=>⟨(h3 h o hf).1,?_⟩⟩;have:=(h3 h o hf).2.2;simp only[Bool.and_eq_true]at this;exact Nat.le_of_ble_eq_true this.1
theorem jAh {fn:Func} {body:Code} {fuel:Nat} {args:List V} {t:RT} (h:inl P sp fn body fuel args hp nx=some t):t.sel.ob:=by
 unfold inl at h;split at h
 ·cases h
 ·split at h
  ·rename_i e st hcx;split at h
   ·cases h
   ·split at h
    ·rename_i l hl hle;rw[jdb]at h;obtain⟨hp',h1,_⟩:=jqM nx (jaU l) st (fun hp'=>some (RT.leaf ⟨True,jaU l,hp',st.nx⟩));rw[h1]at h;cases h;trivial
    ·cases h
  ·cases h
theorem jCu {f fuel:Nat} {fn:Func} {body:Code} (hm:P.follows .mixedOrders=true) (hsp:jac P sp) (hfr:jbQ sp) (hf:P.funcs[f]?=some fn) (hb:fn.body=some body) (hn:(fn.name == "runtime.NumGoroutine")=false) :
  jaf P f false (inl P sp fn body fuel):=by
 refine .inl ⟨jcu hf hb hn,fun ρ B w args hp nx t hS hob hlt hh hB=>?_⟩;unfold inl at hS;split at hS
 ·cases hS
 ·rename_i hlen;have hlen:=Nat.le_of_ble_eq_true hlen;split at hS
  ·rename_i e st hcx
   have go:∀l,(∀j,e≠.exit j)→jdv P st fn.results.toList=some l→Nat.ble nx st.nx=true→(fV (jaU l) fun v=>outF nx v st fun hp'=>some (RT.leaf ⟨True,v,hp',st.nx⟩))=some t →
     Calls P f (args.map (V.val ρ)).toArray w fun e w'=>∃ρ',e=.returned (t.sel.v.val ρ')∧Left ρ B nx w t.sel false ρ' w':=by
    intro l he hl hle hS;rw[jdb]at hS;obtain⟨hp',h1,h2⟩:=jqM nx (jaU l) st (fun hp'=>some (RT.leaf ⟨True,jaU l,hp',st.nx⟩));rw[h1]at hS;cases hS;obtain⟨ha1,ha2⟩:=jgu hh hlt;have hc:=jnJ (f:=f) (args:=args.map (jg9 hp)) hsp hfr (fun ρ w=>jbx hm hsp) hf hb (by simpa using hlen) hcx he hl ha2 hh hB;rw[ha1]at hc;refine hc.mono ?_;rintro e' w' ⟨ρ',rfl,q2,q3,⟨B',g,q4⟩,q5⟩;exact⟨ρ',rfl,q3,q2,Nat.le_of_ble_eq_true hle,⟨B',g.weak,q4.sub h2⟩,q5,(fun h=>by cases h),fun h=>by cases h⟩
   split at hS
   ·cases hS
   ·rename_i hne;split at hS
    ·rename_i l hl hle;exact go l (fun j e=>hne j e) hl hle hS
    ·cases hS
  ·cases hS
theorem jqd (hp:Hp) (h:Nat):find (jf6 hp) h=(find hp h).map roO:=by
 induction hp with
 |nil=>rfl
 |cons x r ih =>
  obtain⟨k,o⟩:=x;simp only[jf6,List.map_cons,find]at *;split
  ·rfl
  ·exact ih
theorem jvF (v:Value) (o:O):(roO o).blk v=none:=by
 cases o<;>simp only[roO]<;>first
  |rfl
  |(unfold roO.extR;split<;>rfl)
  |(unfold roO.lstR;split<;>rfl)
theorem jyJ (hh:HRel ρ B hp nx w) (hB:Old B w):HRel ρ (kd fun k=>k<w.heap.size) (jf6 hp) nx w:=by
 have row:∀h o c,find hp h=some o→o.cont=some c→h<nx∧(roO.extR c).lt nx∧(roO.extR c).ok ρ (kd fun k=>k<w.heap.size) w h:=by
  intro h o c hf hc;obtain⟨q1,q2,q3⟩:=hh.ok h o hf;have hr:=jaR q3 hc;unfold roO.extR;split
  ·exact⟨q1,trivial,trivial⟩
  ·rename_i e he;exact⟨q1,trivial,hr,jaD.lt hr (by omega)⟩
 have lst:∀h o e n cs,find hp h=some o→o.lst=some (e,n,cs)→(∀c∈cs,C.lt nx c)→h<nx∧(roO.lstR e n cs).lt nx∧(roO.lstR e n cs).ok ρ (kd fun k=>k<w.heap.size) w h:=by
  intro h o e n cs hf hl hlt;obtain⟨q1,q2,q3⟩:=hh.ok h o hf;obtain⟨h1,h2,h3⟩:=jbV q3 hl;unfold roO.lstR;split
  ·exact⟨q1,trivial,trivial⟩
  ·rename_i e';refine⟨q1,hlt,h1,fun a n' cap heq hn=>?_,h2,h3⟩;obtain⟨a',cap',hv,_,hadr⟩:=h1;rw[hv]at heq;cases heq;obtain⟨b,off,e9⟩:=hadr hn;cases e9;have hlen:0<cs.length:=by rw[h2];exact Nat.mul_pos hn (Nat.succ_pos _)
   have:=h3 0 cs[0] (List.getElem?_eq_getElem hlen);rw[hv]at this;exact World.block_lt_of_cell? w _ this
 refine⟨fun h o' hf=>?_,fun h o k o' b _ hf' _ _ hb'=>?_,hh.glob.sub fun g hg=>hB g (.inl hg)⟩
 ·rw[jqd]at hf;obtain⟨o,ho,rfl⟩:=Option.map_eq_some_iff.1 hf;obtain⟨q1,q2,q3⟩:=hh.ok h o ho;cases o with
  |row ty c=>exact row h _ c ho rfl
  |ext c=>exact row h _ c ho rfl
  |view r c fl=>exact row h _ c ho rfl
  |rrow c=>exact row h _ c ho rfl
  |fext c=>exact row h _ c ho rfl
  |sub r i e j ty c=>exact row h _ c ho rfl
  |box ty cs =>
   obtain⟨k,h1,h2,h3⟩:=q3;refine⟨q1,q2,k,0,h1,(Array.getElem?_eq_some_iff.1 h3).1,fun j c hj=>?_⟩;rw[Nat.zero_add,cell_of_row w k _ _ ty (0,0) h3];simp[hj]
  |ebox cs =>
   obtain⟨k,o,h1,h2,h3⟩:=q3;exact⟨q1,q2,k,o,h1,hB k (.inl h2),h3⟩
  |lbox ty e n cs=>exact lst h _ e n cs ho rfl q2
  |lview r e n cs=>exact lst h _ e n cs ho rfl q2.2
  |elist e n cs=>exact⟨q1,q2,q3.1,jaO (fun k hk=>hB k (.inl hk)) q3.2.1,q3.2.2⟩
  |xext X=>exact⟨q1,trivial,IsX.mono (fun k hk=>hB k (.inl hk)) q3⟩
  |_=>exact⟨q1,trivial,trivial⟩
 ·rw[jqd]at hf';obtain⟨o1,_,rfl⟩:=Option.map_eq_some_iff.1 hf';rw[jvF]at hb';cases hb'
theorem jnK (l r:Hp) (h:Nat):find (l++r) h=match find l h with|some o=>some o|none=>find r h:=by
 induction l with
 |nil=>rfl
 |cons x l ih =>
  obtain⟨k,o⟩:=x;simp only[List.cons_append,find];split
  ·rfl
  ·exact ih
theorem jvG {B1:Kd} {o:O} {h:Nat} (ho:jeS o=true) (hok:o.ok ρ B1 w h) (hB:∀k,¬B1.all k→¬B.all k):o.ok ρ B w h:=by
 cases o with
 |row ty c=>exact⟨hok.1,fun k hk=>hB k (hok.2 k hk)⟩
 |box ty cs=>obtain⟨k,h1,h2,h3⟩:=hok;exact⟨k,h1,hB k h2,h3⟩
 |lbox ty e n cs=>exact⟨hok.1,fun k hk=>hB k (hok.2 k hk)⟩
 |arr ty k e r=>obtain⟨g,h1,h2,h3⟩:=hok;exact⟨g,h1,hB g h2,h3⟩
 |_=>cases ho
theorem jAi {w':World} {ρ':Env} {B1:Kd} {hp1 hp':Hp} {nx1:Nat} (hh:HRel ρ B hp nx w) (hB:Old B w) (hbel:Below w.heap.size w w') (hag:jae nx ρ ρ') (hle:nx≤nx1) (h1:HRel ρ' B1 hp1 nx1 w') (hB1:∀k,¬B1.all k→w.heap.size≤k)
  (hs:∀h o,find hp' h=some o→find hp1 h=some o∧nx≤h) (hk:hp'.all (fun x=>jeS x.2)=true) :
  HRel ρ' B (hp' ++ hp) nx1 w'∧∀h o k,nx≤h→find (hp' ++ hp) h=some o→o.blk (ρ' h)=some k→w.heap.size≤k:=by
 have hold:=(hh.below hbel hB).agree hag;have hBn:∀k,¬B1.all k→¬B.all k:=fun k hk hc=>by have:=hB k hc;have:=hB1 k hk;omega
 have own:∀h o,find hp' h=some o→jeS o=true:=fun h o hf=>List.all_eq_true.1 hk _ (ji8 hf);have new:∀h o k,find hp' h=some o→o.blk (ρ' h)=some k→w.heap.size≤k:=fun h o k hf hb=>hB1 k (O.blk_lt (h1.ok h o (hs h o hf).1).2.2 hb).2
 have oldlt:∀h o k,find hp h=some o→o.blk (ρ' h)=some k→k<w.heap.size:=fun h o k hf hb=>by
  have q:=hh.ok h o hf;rw[hag h q.1]at hb;exact(O.blk_lt q.2.2 hb).1
 have part:∀h o,find (hp' ++ hp) h=some o→find hp' h=some o∨find hp h=some o:=fun h o hf=>by
  rw[jnK]at hf;cases hq:find hp' h with
  |some o1=>simp only[hq]at hf;exact .inl hf
  |none=>simp only[hq]at hf;exact .inr hf
 refine⟨⟨fun h o hf=>?_,fun h o h' o' k hf hf' hne hb hb'=>?_,hold.glob⟩,fun h o k hn hf hb=>?_⟩
 ·rcases part h o hf with hq|hq
  ·have q:=h1.ok h o (hs h o hq).1;exact⟨q.1,q.2.1,jvG (own h o hq) q.2.2 hBn⟩
  ·have q:=hold.ok h o hq;exact⟨Nat.lt_of_lt_of_le q.1 hle,O.lt_mono hle q.2.1,q.2.2⟩
 ·rcases part h o hf with hq|hq<;>rcases part h' o' hf' with hq' | hq'
  ·exact h1.apart h o h' o' k (hs h o hq).1 (hs h' o' hq').1 hne hb hb'
  ·have:=new h o k hq hb;have:=oldlt h' o' k hq' hb';omega
  ·have:=oldlt h o k hq hb;have:=new h' o' k hq' hb';omega
  ·exact hold.apart h o h' o' k hq hq' hne hb hb'
 ·rcases part h o hf with hq|hq
  ·exact new h o k hq hb
  ·have:=(hh.ok h o hq).1;omega
theorem jBs {f fuel:Nat} {fn:Func} {body:Code} (hm:P.follows .mixedOrders=true) (hsp:jac P sp) (hfr:jbQ sp) (hf:P.funcs[f]?=some fn) (hb:fn.body=some body) (hn:(fn.name == "runtime.NumGoroutine")=false) :
  jaf P f true (jtp P sp fn body fuel):=by
 refine .inl ⟨jcu hf hb hn,fun ρ B w args hp nx t hS hob hlt hh hB=>?_⟩;unfold jtp at hS;split at hS
 ·cases hS
 ·rename_i hlen;have hlen:=Nat.le_of_ble_eq_true hlen;split at hS
  ·rename_i e st hcx;split at hS
   ·cases hS
   ·rename_i hne;split at hS
    ·rename_i l hl hle;have hle:=Nat.le_of_ble_eq_true hle;rw[jdb]at hS;obtain⟨hp',h1,h2⟩:=jqN nx (jaU l) st (jto (jaU l) hp st.nx);rw[h1]at hS;unfold jto at hS;split at hS
     ·rename_i hk;cases hS;obtain⟨ha1,ha2⟩:=jgu hh hlt;have hro:=jyJ hh hB;have hc:=jnJ (f:=f) (args:=args.map (jg9 hp)) (B:=kd fun k=>k<w.heap.size) hsp hfr (fun ρ w=>jbx hm hsp) hf hb (by simpa using hlen) hcx (fun j e=>hne j e) hl ha2 hro (fun k hk=>(jaW.1 hk));rw[ha1]at hc;refine hc.mono ?_;rintro e' w' ⟨ρ',rfl,q2,q3,⟨B1,g,q4⟩,q5⟩;have hbel:Below w.heap.size w w':=Bel.below q5;have hB1:∀k,¬B1.all k→w.heap.size≤k:=fun k hk=>Nat.le_of_not_lt fun hlt=>hk (.inl (g.le.kp k hlt));obtain⟨r1,r2⟩:=jAi hh hB hbel q3 hle q4 hB1 h2 hk;exact⟨ρ',rfl,q3,q2,hle,HRel.gr r1,jb9 hbel hB,fun _=>hbel,fun _=>r2⟩
     ·cases hS
    ·cases hS
  ·cases hS
theorem jyK {fn:Func} {body:Code} {fuel:Nat} {args:List V} {t:RT} (h:jtp P sp fn body fuel args hp nx=some t):t.sel.ob:=by
 unfold jtp at h;split at h
 ·cases h
 ·split at h
  ·rename_i e st hcx;split at h
   ·cases h
   ·split at h
    ·rename_i l hl hle;rw[jdb]at h;obtain⟨hp',h1,_⟩:=jqN nx (jaU l) st (jto (jaU l) hp st.nx);rw[h1]at h;unfold jto at h;split at h
     ·cases h;trivial
     ·cases h
    ·cases h
  ·cases h
theorem jqe {ov:jaa} {ro:Nat→Bool} {fuel:Nat} (hm:P.follows .mixedOrders=true) (hov:jac P ov) (hfo:jbQ ov):∀n,jac P (jnH P ov ro fuel n)∧jbQ (jnH P ov ro fuel n)
 |0=>⟨(fun f M S h=>by cases h),(fun f M S args hp nx t h=>by cases h)⟩
 |n+1=>by
  obtain⟨ih1,ih2⟩:=jqe hm hov hfo (ro:=ro) (fuel:=fuel) n;refine⟨fun f M S h=>?_,fun f M S args hp nx t h hS=>?_⟩
  ·unfold jnH at h;split at h
   ·rename_i x hx;cases h;exact hov f M S hx
   ·split at h
    ·rename_i fn hf;split at h
     ·rename_i body hb hn;split at h
      ·cases h;exact jBs hm ih1 ih2 hf hb hn
      ·cases h;exact jCu hm ih1 ih2 hf hb hn
     ·cases h
    ·cases h
  ·unfold jnH at h;split at h
   ·rename_i x hx;cases h;exact hfo f M S args hp nx t hx hS
   ·split at h
    ·split at h
     ·split at h
      ·cases h;exact jyK hS
      ·cases h;exact jAh hS
     ·cases h
    ·cases h
end
end Go.Sx
end

section
open Go.RowKit
namespace Go.Sx
section
variable {P:Program} {ρ:Env} {B:Kd} {nx:Nat} {hp:Hp} {w:World}
theorem jyL (I J:Globs) (ht:I.tab=J.tab) (hh:I.held=J.held) {B:Bd} {w:World} (h:@jb8 I B w):@jb8 J B w:=by
 cases I;cases J;cases ht;cases hh;exact h
theorem jlD (I J:Globs) (ht:I.tab=J.tab) (hd:I.held=J.held) (h:@HRel I ρ B hp nx w):@HRel J ρ B hp nx w :=
 @HRel.mk J _ _ _ _ _ (@HRel.ok I _ _ _ _ _ h) (@HRel.apart I _ _ _ _ _ h) (jyL I J ht hd (@HRel.glob I _ _ _ _ _ h))
theorem jqO (I J:Globs) (ht:I.tab=J.tab) (hd:I.held=J.held) {f:Nat} {M:Bool} {S:Spec} (h:@jaf I P f M S):@jaf J P f M S:=by
 rcases h with h|h
 ·refine .inl (@RunOK.mk J _ _ _ _ (@RunOK.enter I _ _ _ _ h) fun ρ B w args hp nx t hS ho hl hh hB=>?_);refine(@RunOK.sound I _ _ _ _ h ρ B w args hp nx t hS ho hl (jlD J I ht.symm hd.symm hh) hB).mono ?_;rintro e w' ⟨ρ',e1,hL⟩;obtain⟨B',g,q⟩:=@Left.heap I _ _ _ _ _ _ _ _ hL;exact⟨ρ',e1,@Left.mk J _ _ _ _ _ _ _ _ (@Left.agree I _ _ _ _ _ _ _ _ hL) (@Left.lt I _ _ _ _ _ _ _ _ hL) (@Left.le I _ _ _ _ _ _ _ _ hL) ⟨B',g,jlD I J ht hd q⟩ (@Left.below I _ _ _ _ _ _ _ _ hL) (@Left.mono I _ _ _ _ _ _ _ _ hL) (@Left.fresh I _ _ _ _ _ _ _ _ hL)⟩
 ·exact .inr fun ρ B w args hp nx t hS ho hl hh hB=>h ρ B w args hp nx t hS ho hl (jlD J I ht.symm hd.symm hh) hB
end
def jxb (hp:Hp) (k:NK) (c:C):Option NC :=
 match c with
 | .d (.v (.slice none 0 0))=>jlU k
 | .d x=>match jbq k (.d x)with
  |true=>some (.d x)
  |false=>none
 | .o h=>match find hp h with
  |some (.ext c)=>match jbq k (.r c)with
   |true=>some (.r c)
   |false=>none
  |_=>none
 |_=>none
def jha (hp:Hp):List NK→List C→Option (List NC)
 |[],[]=>some []
 |k::ks,c::cs=>match jxb hp k c,jha hp ks cs with
  |some x,some l=>some (x::l)
  |_,_=>none
 |_,_=>none
def jma (hp:Hp) (sh:List NK):Nat→List C→Option (List (List NC))
 |0,cs=>match cs with
  |[]=>some []
  |_=>none
 |n+1,cs=>match jha hp sh (cs.take sh.length),jma hp sh n (cs.drop sh.length)with
  |some r,some l=>some (r::l)
  |_,_=>none
def jpf (hp:Hp) (e n:Nat) (cs:List C):List XC→Option XC
 |[]=>none
 |x::l=>match Nat.beq x.e e,Nat.beq e x.sh.length,Nat.blt 0 e with
  |true,true,true=>match jma hp x.sh n cs with
   |some rs=>some (x.mk rs)
   |none=>jpf hp e n cs l
  |_,_,_=>jpf hp e n cs l
def jmb (hp:Hp) (xs:List XC) (o:O):O :=
 match o with
 | .elist e n cs=>match jpf hp e n cs xs with
  |some X=>.xext X
  |none=>o
 |_=>o
def hpQ (xs:List XC) (hp:Hp):Hp:=hp.map fun x=>(x.1,jmb hp xs x.2)
noncomputable def fHp {α:Type} (hp:Hp):(Hp→α)→α:=fL (fun x k=>fN x.1 fun n=>fO x.2 fun o=>k (n,o)) hp
def jAY (o:O):O:=match jeS o with
 |true=>o
 |false=>match o with
  | .dead=>.dead
  |_=>.atom
def jlE (hp:Hp):Hp:=hp.map fun x=>(x.1,jAY x.2)
noncomputable def jfd (xs:List XC) (shs:List SV) (g:List Lf→Option (List RR)):Spec:=fun args hp nx =>
 match jjq (hpQ xs (jf6 hp)) shs (args.map (jg9 hp))with
 |some (ls,am)=>match g ls with
  |some rs=>match jcf am rs nx with
   |b=>fV (jaU b.ws) fun v=>fHp (jlE b.hp) fun hp'=>fN b.n fun n=>match hp'.all (fun x=>Nat.ble nx x.1)with
    |true=>some (.leaf ⟨True,v,hp' ++ hp,n⟩)
    |false=>none
  |none=>none
 |none=>none
section
variable [Globs] {P:Program} {ρ:Env} {B:Kd} {nx:Nat} {hp:Hp} {w:World}
theorem jxc (hh:HRel ρ B hp nx w) {k:NK} {c:C} {x:NC} (h:jxb hp k c=some x):jbq k x=true∧x.at B.kp w (c.val ρ):=by
 unfold jxb at h;split at h
 ·have:=ji2 h;exact⟨this.1,this.2 _ _⟩
 ·split at h
  ·rename_i hk;cases h;exact⟨hk,rfl⟩
  ·cases h
 ·rename_i h0;split at h
  ·rename_i c0 hf;split at h
   ·rename_i hk;cases h;exact⟨hk,(hh.ok _ _ hf).2.2⟩
   ·cases h
  ·cases h
 ·cases h
theorem jmW (hh:HRel ρ B hp nx w):∀{sh:List NK} {cs:List C} {r:List NC},jha hp sh cs=some r →
  jco sh r∧cs.length=sh.length∧∀(j:Nat) (x:NC) (c:C),r[j]?=some x→cs[j]?=some c→x.at B.kp w (c.val ρ)
 |[],[],r,h=>by
  simp only[jha,Option.some.injEq]at h;subst h;exact⟨⟨rfl,fun j k x h=>by simp at h⟩,rfl,fun j x c h=>by simp at h⟩
 |[],c::cs,r,h=>by simp[jha]at h
 |k::sh,[],r,h=>by simp[jha]at h
 |k::sh,c::cs,r,h=>by
  simp only[jha]at h;split at h
  ·rename_i x l hx hl;simp only[Option.some.injEq]at h;subst h;obtain⟨a1,a3⟩:=jxc hh hx;obtain⟨b1,b2,b4⟩:=jmW hh hl;refine⟨⟨by simp[b1.1],fun j k' x' hj hx'=>?_⟩,by simp[b2],fun j x' c' hj hc=>?_⟩
   ·cases j with
    |zero=>simp at hj hx';subst hj;subst hx';exact a1
    |succ j=>exact b1.2 j k' x' (by simpa using hj) (by simpa using hx')
   ·cases j with
    |zero =>
     simp at hj hc;subst hj;subst hc;exact a3
    |succ j=>exact b4 j x' c' (by simpa using hj) (by simpa using hc)
  ·cases h
theorem jpg (hh:HRel ρ B hp nx w) {sh:List NK}:∀{n:Nat} {cs:List C} {rs:List (List NC)},jma hp sh n cs=some rs →
  rs.length=n∧(∀r∈rs,jco sh r)∧∀(i j:Nat) (c:C),i<n→j<sh.length→cs[i*sh.length+j]?=some c→((rs.getD i []).getD j (.d (.v undef))).at B.kp w (c.val ρ)
 |0,cs,rs,h=>by
  cases cs with
  |nil =>
   simp only[jma,Option.some.injEq]at h;subst h;exact⟨rfl,(fun _ h=>by cases h),fun i j c hi=>by omega⟩
  |cons c cs=>simp[jma]at h
 |n+1,cs,rs,h=>by
  simp only[jma]at h;split at h
  ·rename_i r l hr hl;simp only[Option.some.injEq]at h;subst h;obtain⟨a1,a2,a3⟩:=jmW hh hr;obtain⟨b1,b2,b3⟩:=jpg hh hl;refine⟨by simp[b1],fun r' hr'=>?_,fun i j c hi hj hc=>?_⟩
   ·rcases List.mem_cons.1 hr' with e|e
    ·subst e;exact a1
    ·exact b2 r' e
   ·cases i with
    |zero =>
     rw[Nat.zero_mul,Nat.zero_add]at hc;have hjr:j<r.length:=by rw[a1.1];exact hj
     have e1:(r.getD j (.d (.v undef)))=r[j]:=by simp[List.getD,hjr]
     show(r.getD j _).at _ _ _
     rw[e1];exact a3 j _ c (List.getElem?_eq_getElem hjr) (by rw[List.getElem?_take_of_lt hj];exact hc)
    |succ i =>
     show((l.getD i []).getD j _).at _ _ _
     refine b3 i j c (by omega) hj ?_;rw[List.getElem?_drop];rw[←hc]
     congr 1
     rw[Nat.add_mul];omega
  ·cases h
theorem jjN (hh:HRel ρ B hp nx w) {h e n:Nat} {cs:List C} (hok:(O.elist e n cs).ok ρ B w h):∀{xs:List XC} {X:XC},jpf hp e n cs xs=some X→IsX B.kp w (ρ h) X
 |[],X,hp=>by cases hp
 |x::l,X,hq=>by
  unfold jpf at hq;split at hq
  ·rename_i h1 h2 h3;have h1:=Nat.eq_of_beq_eq_true h1;have h2:=Nat.eq_of_beq_eq_true h2;split at hq
   ·rename_i rs hrs;cases hq;obtain⟨q1,q2,q3,q4⟩:=hok;obtain⟨a,cap,hv,hc,hadr⟩:=q1;obtain⟨r1,r2,r3⟩:=jpg hh hrs;obtain⟨m1,m2,m3⟩:=x.cell_mk r2;refine⟨a,cap,by rw[m1,r1];exact hv,by rw[m1,r1];exact hc,fun hn=>?_⟩;rw[m1,r1]at hn;obtain⟨b,off,rfl⟩:=hadr hn;refine⟨b,off,rfl,?_,fun i j hi hj=>?_⟩
    ·exact q2 _ n cap hv hn
    ·rw[m1]at hi;rw[m2]at hj ⊢;have hi':i<n:=by rw[←r1];exact hi
     have hlt:i*x.e+j<cs.length:=by
      rw[q3,←h1]
      calc i*x.e+j<i*x.e+x.e:=by omega
       _=(i+1)*x.e:=by rw[Nat.add_mul];omega
       _≤n*x.e:=Nat.mul_le_mul_right _ hi'
     have hget:=List.getElem?_eq_getElem hlt;have:=q4 _ _ hget;rw[hv]at this;refine⟨_,this,?_⟩;rw[m3 i j hi hj];exact r3 i j _ hi' (by rw[←h2,←h1];exact hj) (by rw[←h2,←h1];exact hget)
   ·exact jjN hh hok hq
  ·exact jjN hh hok hq
theorem jAj (xs:List XC) (hp0 hp:Hp) (h:Nat):find (hp.map fun x=>(x.1,jmb hp0 xs x.2)) h=(find hp h).map (jmb hp0 xs):=by
 induction hp with
 |nil=>rfl
 |cons x r ih =>
  obtain⟨k,o⟩:=x;simp only[List.map_cons,find]at *;split
  ·rfl
  ·exact ih
theorem jyM {xs:List XC} (hh:HRel ρ B hp nx w) (hn:∀h o,find hp h=some o→o.blk (ρ h)=none):HRel ρ B (hpQ xs hp) nx w:=by
 have key:∀h o',find (hpQ xs hp) h=some o'→∃o,find hp h=some o∧o'=jmb hp xs o:=fun h o' hf=>by
  unfold hpQ at hf;rw[jAj]at hf;obtain⟨o,ho,rfl⟩:=Option.map_eq_some_iff.1 hf;exact⟨o,ho,rfl⟩
 have nob:∀h o',find (hpQ xs hp) h=some o'→o'.blk (ρ h)=none:=fun h o' hf=>by
  obtain⟨o,ho,rfl⟩:=key h o' hf;have:=hn h o ho;unfold jmb;split
  ·split
   ·rfl
   ·exact this
  ·exact this
 refine⟨fun h o' hf=>?_,fun h o k o' b hf hf' _ hb=>?_,hh.glob⟩
 ·obtain⟨o,ho,rfl⟩:=key h o' hf;obtain⟨q1,q2,q3⟩:=hh.ok h o ho;unfold jmb;split
  ·split
   ·rename_i X hX;exact⟨q1,trivial,jjN hh q3 hX⟩
   ·exact⟨q1,q2,q3⟩
  ·exact⟨q1,q2,q3⟩
 ·rw[nob h o hf]at hb;cases hb
theorem jyN {α:Type} (hp:Hp) (k:Hp→α):fHp hp k=k hp:=by
 unfold fHp;rw[ja2 fun x k=>by rw[jbA,jwZ]]
theorem jCv {h:Nat} {o:O} (hf:find (jf6 hp) h=some o) (v:Value):o.blk v=none:=by
 rw[jqd]at hf;obtain⟨o1,_,rfl⟩:=Option.map_eq_some_iff.1 hf;exact jvF v o1
theorem jAk (f:O→O) (hp:Hp) (h:Nat):find (hp.map fun x=>(x.1,f x.2)) h=(find hp h).map f:=by
 induction hp with
 |nil=>rfl
 |cons x r ih =>
  obtain⟨k,o⟩:=x;simp only[List.map_cons,find]at *;split
  ·rfl
  ·exact ih
theorem jyO {w':World} {ρ':Env} {B1:Kd} {hp1 hp':Hp} {nx1:Nat} (hh:HRel ρ B hp nx w) (hB:Old B w) (hbel:Below w.heap.size w w') (hag:jae nx ρ ρ') (hle:nx≤nx1) (h1:HRel ρ' B1 hp1 nx1 w') (hB1:∀k,¬B1.all k→w.heap.size≤k)
  (hs:∀h o,find hp' h=some o→((h<nx1∧o.ok ρ' B w' h∧o.lt nx1∧∀v,o.blk v=none)∨(find hp1 h=some o∧jeS o=true))∧nx≤h) :
  HRel ρ' B (hp' ++ hp) nx1 w'∧∀h o k,nx≤h→find (hp' ++ hp) h=some o→o.blk (ρ' h)=some k→w.heap.size≤k:=by
 have hold:=(hh.below hbel hB).agree hag;have hBn:∀k,¬B1.all k→¬B.all k:=fun k hk hc=>by have:=hB k hc;have:=hB1 k hk;omega
 have new:∀h o k,find hp' h=some o→o.blk (ρ' h)=some k→w.heap.size≤k:=fun h o k hf hb=>by
  rcases(hs h o hf).1 with ⟨_,_,_,hn⟩|⟨hf1,_⟩
  ·rw[hn]at hb;cases hb
  ·exact hB1 k (O.blk_lt (h1.ok h o hf1).2.2 hb).2
 have oldlt:∀h o k,find hp h=some o→o.blk (ρ' h)=some k→k<w.heap.size:=fun h o k hf hb=>by
  have q:=hh.ok h o hf;rw[hag h q.1]at hb;exact(O.blk_lt q.2.2 hb).1
 have part:∀h o,find (hp' ++ hp) h=some o→find hp' h=some o∨find hp h=some o:=fun h o hf=>by
  rw[jnK]at hf;cases hq:find hp' h with
  |some o1=>simp only[hq]at hf;exact .inl hf
  |none=>simp only[hq]at hf;exact .inr hf
 refine⟨⟨fun h o hf=>?_,fun h o h' o' k hf hf' hne hb hb'=>?_,hold.glob⟩,fun h o k hn hf hb=>?_⟩
 ·rcases part h o hf with hq|hq
  ·rcases(hs h o hq).1 with ⟨hlt,q1,q2,_⟩|⟨hf1,hk⟩
   ·exact⟨hlt,q2,q1⟩
   ·have q:=h1.ok h o hf1;exact⟨q.1,q.2.1,jvG hk q.2.2 hBn⟩
  ·have q:=hold.ok h o hq;exact⟨Nat.lt_of_lt_of_le q.1 hle,O.lt_mono hle q.2.1,q.2.2⟩
 ·rcases part h o hf with hq|hq<;>rcases part h' o' hf' with hq' | hq'
  ·rcases(hs h o hq).1 with ⟨_,_,_,hn⟩|⟨hf1,_⟩
   ·rw[hn]at hb;cases hb
   rcases(hs h' o' hq').1 with ⟨_,_,_,hn⟩|⟨hf1',_⟩
   ·rw[hn]at hb';cases hb'
   exact h1.apart h o h' o' k hf1 hf1' hne hb hb'
  ·have:=new h o k hq hb;have:=oldlt h' o' k hq' hb';omega
  ·have:=oldlt h o k hq hb;have:=new h' o' k hq' hb';omega
  ·exact hold.apart h o h' o' k hq hq' hne hb hb'
 ·rcases part h o hf with hq|hq
  ·exact new h o k hq hb
  ·have:=(hh.ok h o hq).1;omega
theorem juR {α:Type} {a b:List α} (h:a++b=b):a=[]:=by
 have:=congrArg List.length h;rw[List.length_append]at this;exact List.length_eq_zero_iff.1 (by omega)
theorem jBt {f:Nat} {xs:List XC} {shs:List SV} {g0:List Lf→Option GT} {g:List Lf→Option (List RR)} (hs:jaf P f true (jal shs g0))
  (hg:∀ls rs,g ls=some rs→∃t,g0 ls=some t∧t.sel.2=rs∧t.sel.1):jaf P f true (jfd xs shs g):=by
 have key:∀args hp nx t,jfd xs shs g args hp nx=some t→∃(t0:RT) (b:Rw),jal shs g0 (args.map (jg9 hp)) (hpQ xs (jf6 hp)) nx=some t0∧t0.sel.ob∧t0.sel.v=jaU b.ws∧t0.sel.hp=b.hp++hpQ xs (jf6 hp)∧t0.sel.nx=b.n ∧
   t=.leaf ⟨True,jaU b.ws,jlE b.hp++hp,b.n⟩∧(jlE b.hp).all (fun x=>Nat.ble nx x.1)=true:=by
  intro args hp nx t h;unfold jfd at h;split at h
  ·rename_i ls am hto;split at h
   ·rename_i rs hrs;obtain⟨t0,h0,h1,h2⟩:=hg ls rs hrs;rw[jdb,jyN,jbA]at h;split at h
    ·rename_i hall;cases h;refine⟨t0.toRT am (hpQ xs (jf6 hp)) nx,jcf am rs nx,?_,?_,?_,?_,?_,rfl,hall⟩
     ·unfold jal;rw[hto];simp only[h0]
     all_goals rw[jby]
     ·exact h2
     all_goals rw[←h1]
    ·cases h
   ·cases h
  ·cases h
 have rel:∀{ρ:Env} {B:Kd} {w:World} {hp:Hp} {nx:Nat},HRel ρ B hp nx w→Old B w→HRel ρ (kd fun k=>k<w.heap.size) (hpQ xs (jf6 hp)) nx w:=fun hh hB =>
  jyM (jyJ hh hB) fun h o hf=>jCv hf _
 rcases hs with hs|hs
 ·refine .inl ⟨hs.enter,fun ρ B w args hp nx t hS hob hlt hh hB=>?_⟩;obtain⟨t0,b,h0,h1,h2,h3,h4,rfl,h5⟩:=key args hp nx t hS;obtain⟨ha1,ha2⟩:=jgu hh hlt;have hc:=hs.sound ρ (kd fun k=>k<w.heap.size) w _ _ nx t0 h0 h1 ha2 (rel hh hB) (fun k hk=>jaW.1 hk);rw[ha1]at hc;refine hc.mono ?_;rintro e w' ⟨ρ',rfl,hL⟩;obtain⟨B1,gB,q4⟩:=hL.heap;have hbel:Below w.heap.size w w':=hL.mono rfl;have hB1:∀k,¬B1.all k→w.heap.size≤k:=fun k hk=>Nat.le_of_not_lt fun hlt=>hk (.inl (gB.le.kp k hlt));have hall:=List.all_eq_true.1 h5;rw[h3,h4]at q4
  obtain⟨r1,r2⟩:=jyO (hp':=jlE b.hp) hh hB hbel hL.agree (by have:=hL.le;rw[h4]at this;exact this) q4 hB1 fun h o hf=>by
   have hn:=Nat.le_of_ble_eq_true (hall _ (ji8 hf));unfold jlE at hf;rw[jAk]at hf;obtain⟨o1,ho1,rfl⟩:=Option.map_eq_some_iff.1 hf;have hfa:find (b.hp++hpQ xs (jf6 hp)) h=some o1:=by rw[jnK,ho1]
   refine⟨?_,hn⟩;unfold jAY;split
   ·rename_i hk;exact .inr ⟨hfa,hk⟩
   ·refine .inl ⟨(q4.ok h o1 hfa).1,?_⟩;split
    ·exact⟨trivial,trivial,fun _=>rfl⟩
    ·rename_i hnd;refine⟨?_,trivial,fun _=>rfl⟩
     have h1:C.one (b.hp++hpQ xs (jf6 hp)) (.o h)=true:=by
      unfold C.one;simp only[hfa]
     exact C.one_val q4 h1
  refine⟨ρ',by rw[h2];rfl,hL.agree,?_,?_,HRel.gr r1,jb9 hbel hB,fun _=>hbel,fun _=>r2⟩
  ·have:=hL.lt;rw[h2,h4]at this;exact this
  ·have:=hL.le;rw[h4]at this;exact this
 ·refine .inr fun ρ B w args hp nx t hS hob hlt hh hB=>?_;obtain⟨t0,b,h0,h1,h2,h3,h4,rfl,h5⟩:=key args hp nx t hS;obtain⟨ha1,ha2⟩:=jgu hh hlt;obtain⟨ob,v,e1,e2,e3⟩:=hs ρ (kd fun k=>k<w.heap.size) w _ _ nx t0 h0 h1 ha2 (rel hh hB) (fun k hk=>jaW.1 hk);rw[e1]at h2 h3 h4;have hb:=juR h3.symm;rw[hb];have hv:v=jaU b.ws:=h2;refine⟨True,v,?_,e2,by rw[←ha1];exact e3⟩
  show Res.mk _ _ _ _=_
  rw[hv,←h4];rfl
theorem jyP {xs:List XC} {shs:List SV} {g:List Lf→Option (List RR)} {args:List V} {t:RT} (h:jfd xs shs g args hp nx=some t):t.sel.ob:=by
 unfold jfd at h;split at h
 ·split at h
  ·rw[jdb,jyN,jbA]at h;split at h
   ·cases h;trivial
   ·cases h
  ·cases h
 ·cases h
end
end Go.Sx
end

section
open Go.RowKit
namespace Go.Sx
def jhF:Code→List Code
 | .seq a b=>jhF a++jhF b
 |c=>[c]
section
variable [Globs] {P:Program} {sp:jaa}
noncomputable def cxL (P:Program) (sp:jaa) (N fuel:Nat):List Code→St→Option (Ex × St)
 |[],st=>some (.normal,st)
 |c::l,st=>jcS (cx P sp N fuel c st) (cxL P sp N fuel l)
theorem jAl (r:Option (Ex × St)):jcS r (fun st=>some (.normal,st))=r:=by
 unfold jcS;split<;>rfl
theorem juS (r:Option (Ex × St)) (f g:St→Option (Ex × St)):jcS (jcS r f) g=jcS r fun st=>jcS (f st) g:=by
 unfold jcS;cases r with
 |none=>rfl
 |some x =>
  obtain⟨e,st⟩:=x;cases e<;>rfl
theorem jph {N fuel:Nat}:∀(l l2:List Code) (st:St),cxL P sp N fuel (l++l2) st=jcS (cxL P sp N fuel l st) (cxL P sp N fuel l2)
 |[],l2,st=>rfl
 |c::l,l2,st=>by
  simp only[List.cons_append,cxL];rw[juS]
  congr 1
  funext s;exact jph l l2 s
theorem jvH {N fuel:Nat} (c:Code) (st:St):cxL P sp N fuel [c] st=cx P sp N fuel c st:=jAl _
theorem jBu {N fuel:Nat} (c:Code):∀st:St,cxL P sp N fuel (jhF c) st=cx P sp N fuel c st:=by
 induction c with
 |seq a b iha ihb =>
  intro st;simp only[jhF];rw[jph,iha]
  show jcS (cx P sp N fuel a st) _=jcS (cx P sp N fuel a st) (cx P sp N fuel b)
  congr 1
  funext s;exact ihb s
 |_=>exact fun st=>jvH _ st
theorem jdY {N fuel:Nat} {c:Code} {l:List Code} {st st':St} {r:Option (Ex × St)} (h:cx P sp N fuel c st=some (.normal,st')) (hl:cxL P sp N fuel l st'=r):cxL P sp N fuel (c::l) st=r:=by
 simp only[cxL,h,jcS];exact hl
theorem jyQ {f fuel:Nat} {fn:Func} {body:Code} {x:D} {e:Ex} {st:St} {g:List Lf→Option GT} (hm:P.follows .mixedOrders=true) (hsp:jac P sp) (hfr:jbQ sp) (hf:P.funcs[f]?=some fn) (hb:fn.body=some body) (hn:(fn.name == "runtime.NumGoroutine")=false)
  (hcx:cxL P sp fn.ntmps fuel (jhF body) ⟨[],[],0⟩=some (e,st)) (he:∀j,e≠.exit j) (hl:jdv P st fn.results.toList=some [.c (.d x)])
  (hg:∀ls t,g ls=some t→ls=[]∧∃ob,t=.leaf ob [.c (.d x)]):jaf P f true (jal [] g):=by
 refine js2 hf hb hn fun ls t h=>?_;obtain⟨rfl,ob,rfl⟩:=hg ls t h;refine⟨ob,x,rfl,fun _ b hbl ρ w hh=>?_⟩;simp only[jet,Option.some.injEq]at hbl;subst hbl;rw[jBu]at hcx;have hc:=jnJ (f:=f) (args:=[]) (B:=kd fun k=>k<w.heap.size) (ρ:=ρ) (w:=w) hsp hfr (fun ρ w=>jbx hm hsp) hf hb (Nat.zero_le _) hcx he hl (fun _ h=>by cases h) hh (fun k hk=>jaW.1 hk);refine hc.mono ?_;rintro e' w' ⟨ρ',rfl,q2,q3,q4,q5⟩;exact⟨rfl,Bel.below q5⟩
end
end Go.Sx
end

section
open Go Go.RowKit
namespace Go.Sx
section
variable [Globs] {P:Program} {sp:jaa} {ρ ρ0:Env} {B:Kd} {nx N n0:Nat} {hp:Hp} {w w0:World} {st:St} {a:Act} {ds:List Deferred}
theorem jCw {o:Oper} {t yt:TypeId} {x:Operand} {u:V} {aa:Option Addr} {n cap:Nat} {K:Act→World→Prop} {Q:Exit→Act→World→Prop} (hop:o.op=.binOp .eql t x (.const (.slice none 0 0)) yt) (hd:jcd N o.dst=true) (hit:jlR P t=true)
  (hx:jce st x=some u) (hv:u.val ρ=.slice aa n cap) (hr:RelD ds ρ B N n0 st a w)
  (hK:RelD ds ρ B N n0 (st.put o.dst ⟨True,vb aa.isNone,st.hp,st.nx⟩) (a.put o.dst (.bool aa.isNone)) w→K (a.put o.dst (.bool aa.isNone)) w):o.wp P a w K Q:=by
 obtain⟨ms,hms⟩:∃ms,P.underlying t=some (.slice ms):=by
  unfold jlR at hit;split at hit
  ·rename_i ms h';exact⟨ms,h'⟩
  ·cases hit
 have h1:=hr.reads _ _ hx;have e1:a.eval x=.slice aa n cap:=by rw[h1.2,hv]
 have e2:a.eval (.const (.slice none 0 0))=.slice none 0 0:=rfl
 have heq:(Op.equal t (.slice aa n cap) (.slice none 0 0)).run P w=.ok aa.isNone w:=by
  unfold Op.equal;rw[show Op.maxDepth=9999+1 from rfl,Op.equalIn];cases aa<;>simp only[Sem.run_bind,run_underlying hms,Result.andThen_ok,Sem.run_pure]<;>rfl
 have hg:(eqGuard .eql t x (.const (.slice none 0 0)) (.slice aa n cap) (.slice none 0 0)).run P w=.ok () w:=by
  cases x<;>rfl
 have hb:(binOp .eql t (.slice aa n cap) (.slice none 0 0)).run P w=.ok (.bool aa.isNone) w:=by
  simp only[binOp,Sem.run_bind,heq,Result.andThen_ok,Sem.run_pure]
 have hrun:(execOp a.eval o).run P w=.ok (.value (.bool aa.isNone)) w:=by
  unfold execOp;simp only[hop,e1,e2,Sem.run_bind,hg,hb,Result.andThen_ok,Sem.run_pure]
 obtain⟨B1,g,hh⟩:=hr.heap;have hl:Left ρ B1 st.nx w ⟨True,vb aa.isNone,st.hp,st.nx⟩ false ρ w:=⟨jae.refl _ _,trivial,Nat.le_refl _,⟨B1,Grow.refl _ _ _ _,hh⟩,Bel.refl _ _,(fun h=>by cases h),fun h=>by cases h⟩
 have:=hr.put1 (o:=o) g hd hl;unfold Oper.wp;rw[hrun];exact hK this
theorem juT {f:Nat} {fn:Func} {body:Code} {args:List V} {hp0:Hp} {nx0:Nat} {post:V→Hp→Nat→Prop}
  (hf:P.funcs[f]?=some fn) (hb:fn.body=some body) (hlen:args.length≤fn.ntmps)
  (hlt:∀x∈args,V.lt nx0 x) (hn0:n0≤nx0) (ρ:Env) (w:World) (hh:HRel ρ B hp0 nx0 w) (hB:Old B w)
  (h:∀a:Act,Rel ρ B fn.ntmps n0 ⟨jbZ 0 args,hp0,nx0⟩ a w→body.wp P (Qx [] ρ B fn.ntmps n0 w (jcb P fn.results.toList post)) a w) :
  Calls P f (args.map (V.val ρ)).toArray w fun e w'=>∃ρ' v hp' nx',e=.returned (v.val ρ')∧v.lt nx'∧jae n0 ρ ρ'∧(∃B',Grow B B' false w' w'∧HRel ρ' B' hp' nx' w')∧Bel B w w'∧Old B w'∧post v hp' nx':=by
 refine calls_of_wp hf hb ?_;have hrel:=jdj (n0:=n0) hlen hlt hn0 ρ w hh hB;refine wp_mono (h _ hrel) ?_;rintro e a' w' ⟨x,ρ',st',rfl,hk,hr',hag',hbl'⟩
 have fin:∀l:List (Prop × W),jdC P st' fn.results.toList=some l→jfD l (post (jaU (l.map (·.2))) st'.hp st'.nx) →
   a'.defers=[]∧∃v,(results fn a'.tmps).run P w'=.ok v w'∧∃ρ' v' hp' nx',Ending.returned v=.returned (v'.val ρ')∧v'.lt nx'∧jae n0 ρ ρ'∧(∃B',Grow B B' false w' w'∧HRel ρ' B' hp' nx' w')∧Bel B w w'∧Old B w'∧post v' hp' nx':=by
  intro l hl ho;have hra:=jgi hr' _ l _ hl ho;refine⟨hr'.defers,(jaU (l.map (·.2))).val ρ',?_,ρ',jaU (l.map (·.2)),st'.hp,st'.nx,rfl,jeR (fun y hy=>?_),hag',hr'.heap,hbl',hr'.le,hra.2.2⟩
  ·rw[jcN];simp only[ji9,Array.mapM_eq_mapM_toList,Sem.run_bind,Sem.run_map,hra.1,Result.andThen_ok,Sem.run_pure,List.map_map];rfl
  ·obtain⟨z,hz,rfl⟩:=List.mem_map.1 hy;exact hra.2.1 z hz
 cases x with
 |normal =>
  simp only[jcb]at hk;split at hk
  ·rename_i l hl;exact fin l hl hk
  ·exact hk.elim
 |exit j=>exact hk.elim
 |ret =>
  simp only[jcb]at hk;split at hk
  ·rename_i l hl;exact fin l hl hk
  ·exact hk.elim
theorem jyR {f:Nat} {fn:Func} {body:Code} {shs:List SV} {g:List Lf→Option GT} (hf:P.funcs[f]?=some fn) (hb:fn.body=some body) (hn:(fn.name == "runtime.NumGoroutine")=false)
  (h:∀ls t,g ls=some t→t.sel.1→∀b:Bv,jet shs 0 ls=some b→(∀x∈b.vs,V.lt b.n x)→∀ρ w,HRel ρ (kd fun k=>k<w.heap.size) b.hp b.n w→Old (kd fun k=>k<w.heap.size) w →
   Calls P f (b.vs.map (V.val ρ)).toArray w fun e w'=>∃ρ' v hp' nx',e=.returned (v.val ρ')∧v.lt nx'∧jae b.n ρ ρ'∧(∃B',Grow (kd fun k=>k<w.heap.size) B' false w' w'∧HRel ρ' B' hp' nx' w')∧Bel (kd fun k=>k<w.heap.size) w w'∧Old (kd fun k=>k<w.heap.size) w'∧jfS b.n t.sel.2 v hp') :
  jaf P f true (jal shs g):=by
 refine .inl ⟨jcu hf hb hn,fun ρ B w args hp nx t hS hob hlt hh hB=>?_⟩;unfold jal at hS;split at hS
 ·rename_i ls am hto;split at hS
  ·rename_i t' hg;cases hS;rw[jby]at hob ⊢;have hob:t'.sel.1:=hob;obtain⟨b,ρ0,hbl,q⟩:=jhw hh hB shs args ls am hto hlt 0 (fun _=>undef) [];rw[List.append_nil]at hbl;have hbn:b.n=am.length:=by have:=q.nn;omega
   have hh0:HRel ρ0 (kd fun k=>k<w.heap.size) b.hp b.n w:=by
    refine⟨fun x o hf=>?_,fun x o x' o' k hf hf' _ hb=>?_,jjp hh.glob hB⟩
    ·obtain⟨_,a2,a3,a4,_⟩:=q.heap x o hf;exact⟨a2,a3,a4⟩
    ·obtain⟨_,_,_,_,a5⟩:=q.heap x o hf;rw[a5]at hb;cases hb
   have hcalls:=h ls t' hg hob b hbl q.lt ρ0 w hh0 (fun k hk=>jaW.1 hk);rw[q.val]at hcalls;refine hcalls.mono ?_;rintro e w' ⟨ρ',v,hp',nx',rfl,hvlt,hag,⟨Bc,gB,hh'⟩,hbel,hold,hfit⟩;have hbw:Below w.heap.size w w':=hbel.below;have hBc:Old Bc w':=gB.old hold
   have hfr:∀k,Bc.fr k→w.heap.size≤k:=fun k hk=>by
    rcases gB.out k hk with h1|h1
    ·exact h1.elim
    ·exact Nat.le_of_not_lt h1
   have hmu:∀k,Bc.mu k≠none→w.heap.size≤k:=fun k hk=>Nat.le_of_not_lt fun hlt=>hk (Bc.dis k (gB.le.kp k hlt))
   let Bn:Kd:=⟨fun k=>B.kp k∨Bc.fr k,fun k=>B.fr k∨Bc.fr k,fun k=>match B.mu k with|some g=>some g|none=>Bc.mu k,fun k hk=>hk.imp (B.sub k) id,fun k hk=>by
    have h1:B.mu k=none:=by
     rcases hk with hk|hk
     ·exact B.dis k hk
     ·have h2:=hfr k hk;cases hm2:B.mu k with
      |none=>rfl
      |some g=>exact absurd (hB k (.inr (by rw[hm2];simp))) (Nat.not_lt_of_le h2)
    have h2:Bc.mu k=none:=by
     rcases hk with hk|hk
     ·exact Bc.dis k (gB.le.kp k (hB k (.inl hk)))
     ·exact Bc.dis k (Bc.sub k hk)
    show(match B.mu k with|some g=>some g|none=>Bc.mu k)=none
    rw[h1,h2]⟩
   have hmn:∀k,Bn.mu k=match B.mu k with|some g=>some g|none=>Bc.mu k:=fun _=>rfl
   have hBn:B.Le Bn:=⟨fun k hk=>.inl hk,fun k hk=>.inl hk⟩
   have hBm:B.LeM Bn:=fun k g hk=>by rw[hmn,hk]
   have hna:∀k,Bn.all k→B.all k∨(w.heap.size≤k∧Bc.all k):=fun k hk=>by
    rcases hk with (hk|hk)|hk
    ·exact .inl (.inl hk)
    ·exact .inr ⟨hfr k hk,.inl (Bc.sub k hk)⟩
    ·rw[hmn]at hk;cases hm2:B.mu k with
     |none=>rw[hm2]at hk;exact .inr ⟨hmu k hk,.inr hk⟩
     |some g=>exact .inl (.inr (by rw[hm2];simp))
   have gn:Grow B Bn true w w':=⟨hBn,fun k hk=>(hna k hk).imp id fun h=>hBc k h.2,fun k hk=>hk.imp id fun h hb=>absurd (hB k (.inl hb)) (Nat.not_lt_of_le (hfr k h)),fun _=>⟨fun k hk=>(hna k hk).imp id fun h=>h.1,hBm⟩⟩
   have hh1:HRel ρ Bn hp nx w':=(hh.below hbw hB).moreB hBn hBm fun h o k hf hk hb=>by
    have h1:=O.blk_lt (hh.ok h o hf).2.2 hk;rcases hna k hb with hb|hb
    ·exact h1.2 hb
    ·exact absurd h1.1 (Nat.not_lt_of_le hb.1)
   obtain⟨ws,hws,hfw⟩:∃ws,(jaU ws).val ρ'=v.val ρ'∧jlZ b.n hp' t'.sel.2 ws []:=by
    match v,hfit with
    | .w u,hfit=>exact⟨[u],rfl,hfit⟩
    | .t [],hfit=>exact⟨[],rfl,hfit⟩
    | .t (x::y::l),hfit=>exact⟨x::y::l,rfl,hfit⟩
   have hin:CIn ρ ρ' Bn hp hp' nx w.heap.size b.n am w' []:=by
    refine⟨hh1,fun k o b hk hbk=>.inl (O.blk_lt (hh.ok k o hk).2.2 hbk).1,fun i hi=>?_⟩;have hi2:i<am.length:=by omega
    have h1:=q.own i hi2;rw[Nat.zero_add]at h1;refine⟨?_,by rw[hag i hi];exact h1.symm⟩;have:am.getD i (.d (.v undef))=am[i]:=by simp[List.getD,hi2]
    rw[this];exact q.xlt _ (List.getElem_mem hi2)
   obtain⟨us2,ρ2,k⟩:=jjs (B:=Bn) (m:=w.heap.size) (fun k hk=>gB.le.kp k hk) (fun k hk=>(hna k hk).elim (fun h=>.inl (gB.le.kp k (hB k h))) (fun h=>h.2)) (fun k hk=>.inr hk) (fun k g hk=>by
    rw[hmn];cases hm2:B.mu k with
    |none=>exact hk
    |some g'=>exact absurd (hB k (.inr (by rw[hm2];simp))) (Nat.not_lt_of_le (hmu k (by rw[hk];simp)))) hh' t'.sel.2 ws [] hfw nx hp ρ hin
   refine⟨ρ2,?_,k.agree,jeR k.lt,k.le,⟨Bn,gn,k.heap⟩,jb9 hbw hB,fun _=>hbw,fun _ h o b hle hf hbk=>?_⟩
   ·show Ending.returned _=Ending.returned ((jaU (jcf am t'.sel.2 nx).ws).val ρ2)
    rw[←hws,jcN,jcN];simp only[k.val]
   ·have hf:find ((jcf am t'.sel.2 nx).hp++hp) h=some o:=hf;rw[jat]at hf;cases hg2:find (jcf am t'.sel.2 nx).hp h with
    |some o2=>rw[hg2]at hf;cases hf;exact k.fresh h o b hg2 hbk
    |none =>
     rw[hg2]at hf;have:=(hh.ok h o hf).1;omega
  ·cases hS
 ·cases hS
theorem jqP {o:Oper} {r:List Oper} {all:Array Oper} {Q:Exit→Act→World→Prop} (hg:o.guard=none) (h:o.wp P a w (fun a' w'=>wpList P all Q r a' w') Q):wpList P all Q (o::r) a w:=by
 unfold wpList;rw[if_pos (by simp[Region.wanted,hg])];exact .inl h
def jpi:Code→Option (List Oper)
 | .region _ ops false=>some ops.toList
 |_=>none
theorem jAm {c:Code} {l:List Oper} {Q:Exit→Act→World→Prop} (hc:jpi c=some l) (h:wpList P l.toArray Q l a w):c.wp P Q a w:=by
 unfold jpi at hc;split at hc
 ·cases hc;refine wp_region_list ?_;simpa using h
 ·cases hc
theorem jyS {fuel:Nat} {loops:jgh} {drawn:Array Oper→St→(St→Prop)→Prop} (hsp:jac P sp) (hdr:jeQ P B N n0 ρ0 w0 drawn) {x y:Code} {cur:Nat} {gs:List Nat} {k:Ex→St→Prop}
  (h:sx P sp N n0 fuel loops drawn (.seq x y) cur gs st k) (hr:RelD ds ρ B N n0 st a w) (hag:jae n0 ρ0 ρ) (hbl:Bel B w0 w):x.wp P (Exit.then (y.wp P (Qx ds ρ0 B N n0 w0 k)) (Qx ds ρ0 B N n0 w0 k)) a w:=by
 unfold sx at h;refine wp_mono (ja6 hsp hdr x cur gs st _ ρ a w h hr hag hbl) ?_;rintro e a' w' ⟨ex,ρ',st',rfl,hk,hr',hag',hbl'⟩;cases ex with
 |normal=>exact ja6 hsp hdr y cur gs st' k ρ' a' w' hk hr' hag' hbl'
 |exit j=>exact⟨.exit j,ρ',st',rfl,hk,hr',hag',hbl'⟩
 |ret=>exact⟨.ret,ρ',st',rfl,hk,hr',hag',hbl'⟩
def jCx (P:Program) (sp:jaa) (N:Nat) (R1 CD:Code) (o1 o2:Oper) (x:Operand) (rs:List ResultVar) (c:Cont) (post:List RR):Prop :=
 sx P sp N 1 1 (fun _ _ _=>none) (jb1 P sp N) R1 0 [] ⟨jbZ 0 [.w (.c (.o 0))],[(0,.ext c)],1⟩ fun ex st=>ex=.normal∧jgM P sp N o1 st fun st=>jce st x=some (.w (.c (.o 0))) ∧
  (Ob (c.n=0)→sx P sp N 1 1 (fun _ _ _=>none) (jb1 P sp N) CD 0 [] (st.put o2.dst ⟨True,vb true,st.hp,st.nx⟩) (jcb P rs fun v hp _=>jfS 1 post v hp)) ∧
  sx P sp N 1 1 (fun _ _ _=>none) (jb1 P sp N) CD 0 [] (st.put o2.dst ⟨True,vb false,st.hp,st.nx⟩) (jcb P rs fun v hp _=>jfS 1 post v hp)
theorem jnL {f:Nat} {fn:Func} {R1 R2 C D:Code} {o1 o2:Oper} {t yt:TypeId} {x:Operand} {c0:Cont} {g:List Lf→Option GT} (hm:P.follows .mixedOrders=true) (hsp:jac P sp) (hf:P.funcs[f]?=some fn) (hb:fn.body=some (.seq R1 (.seq (.seq R2 C) D))) (hn:(fn.name == "runtime.NumGoroutine")=false)
  (hlen:1≤fn.ntmps) (hR2:jpi R2=some [o1,o2]) (hg1:o1.guard=none) (hg2:o2.guard=none) (hop:o2.op=.binOp .eql t x (.const (.slice none 0 0)) yt) (hd:jcd fn.ntmps o2.dst=true) (hit:jlR P t=true)
  (hg:∀ls t,g ls=some t→∃c ob post,ls=[.r c]∧t=.leaf ob post∧(ob→jCx P sp fn.ntmps R1 (.seq C D) o1 o2 x fn.results.toList c post)):jaf P f true (jal [.c (.r c0)] g):=by
 refine jyR hf hb hn fun ls t ht ho b hbl hlt ρ w hh hB=>?_;obtain⟨c,ob,post,rfl,rfl,hv⟩:=hg ls t ht;have hv:=hv ho;simp only[jet,jsu,jes,Option.map_some,jgn,Option.some.injEq]at hbl;subst hbl;have hh:HRel ρ (kd fun k=>k<w.heap.size) [(0,.ext c)] 1 w:=hh;refine juT (args:=[.w (.c (.o 0))]) hf hb hlen hlt (Nat.le_refl _) ρ w hh hB fun a hr=>?_;obtain⟨aa,cap,hval,hcap,hcell⟩:=(hh.ok 0 _ rfl).2.2.1;refine wp_seq (wp_mono (ja6 hsp (jbx hm hsp) R1 0 [] _ _ ρ a w hv hr (jae.refl _ _) (Bel.refl _ _)) ?_);rintro e a1 w1 ⟨ex,ρ1,st1,rfl,⟨rfl,hdo⟩,hr1,hag1,hbl1⟩;refine wp_seq (wp_seq (jAm hR2 (jqP hg1 (jel hsp hr1 hag1 hbl1 hdo fun ρ2 st2 a2 w2 hr2 hag2 hbl2 hk=>?_))));obtain⟨hx,hk1,hk2⟩:=hk
 have hval2:(V.w (.c (.o 0))).val ρ2=.slice aa c.n cap:=by
  show ρ2 0=_
  rw[hag2 0 (by omega)];exact hval
 refine jqP hg2 (jCw (u:=.w (.c (.o 0))) hop hd hit hx hval2 hr2 fun hr3=>?_)
 have fin:C.wp P (Exit.then (D.wp P (Qx [] ρ (kd fun k=>k<w.heap.size) fn.ntmps 1 w (jcb P fn.results.toList fun v hp _=>jfS 1 post v hp))) (Qx [] ρ (kd fun k=>k<w.heap.size) fn.ntmps 1 w (jcb P fn.results.toList fun v hp _=>jfS 1 post v hp))) (a2.put o2.dst (.bool aa.isNone)) w2:=by
  cases aa with
  |none =>
   refine jyS hsp (jbx hm hsp) (hk1 ⟨?_⟩) hr3 hag2 hbl2;refine Nat.eq_zero_of_not_pos fun hn=>?_;obtain⟨b,off,e,_⟩:=hcell hn;cases e
  |some p=>exact jyS hsp (jbx hm hsp) hk2 hr3 hag2 hbl2
 unfold wpList;exact fin
end
end Go.Sx
end

section
namespace Go.Sh
open Go Go.Proofs Go.RowKit Go.Sx Go.Sx09
def cl1 (f:Func):Oper:=((jpi (Sx09.sub [1,0,0] (Sx09.bodyOf f))).getD []).getD 0 default
def cl2 (f:Func):Oper:=((jpi (Sx09.sub [1,0,0] (Sx09.bodyOf f))).getD []).getD 1 default
def jlF:List SV:=[.c (.r (.ints .i64 []))]
def jdw (l:List (Int)):Option (List (Int)):=if l.length*8≤140737488355328 then some l else none
def jhb:List Lf→Option GT
 |[.r (.ints .i64 l)]=>some (.leaf (ok (jdw l)) [.c (.row 3 (.ints .i64 (val (jdw l))))])
 |_=>none
theorem jru:jaf Tryz.prog 136 true (jal jlF jhb):=by
 refine jnL (sp:=sp0) (fn:=Tryz.f136) (R1:=Sx09.sub [0] (Sx09.bodyOf Tryz.f136)) (R2:=Sx09.sub [1,0,0] (Sx09.bodyOf Tryz.f136)) (C:=Sx09.sub [1,0,1] (Sx09.bodyOf Tryz.f136)) (D:=Sx09.sub [1,1] (Sx09.bodyOf Tryz.f136)) (o1:=cl1 Tryz.f136) (o2:=cl2 Tryz.f136) (t:=31) (yt:=31) (x:=.tmp 3)
  mixed jau Tryz.func136 (by kernel_rfl) (by kernel_rfl) (Nat.le_of_ble_eq_true (by kernel_rfl)) (by kernel_rfl) (by kernel_rfl) (by kernel_rfl) (by kernel_rfl) (by kernel_rfl) (by kernel_rfl) fun ls t h=>?_
 unfold jhb at h;split at h
 ·rename_i l;cases h;refine⟨_,_,_,rfl,rfl,fun ho=>?_⟩
  have hl:l.length*8≤140737488355328:=by
   unfold ok jdw at ho;split at ho
   ·assumption
   ·cases ho
  have hv:val (jdw l)=l:=by
   unfold jdw;rw[if_pos hl];rfl
  rw[hv];refine Eq.mp (by kernel_rfl:(Ex.normal=Ex.normal∧some (V.w (W.c (Sx.C.o 0)))=some (V.w (W.c (Sx.C.o 0)))∧(Ob (l.length=0)→Ob True∧Ob (l.length=0)∧True)∧Ob ((([]:List (Int)).length+l.length)*8≤140737488355328∧([]:List (Int)).length+l.length≤9223372036854775807)∧Ob True∧Ob (([]:List (Int))++l=l)∧True)=_) ?_;exact⟨rfl,rfl,fun h=>⟨⟨trivial⟩,h,trivial⟩,⟨by simp only[List.length_nil];omega⟩,⟨trivial⟩,⟨rfl⟩,trivial⟩
 ·cases h
def jlG:List SV:=[.c (.r (.recs 5 []))]
def jdx (l:List (List Int)):Option (List (List Int)):=if l.length*40≤140737488355328 then some l else none
def jhc:List Lf→Option GT
 |[.r (.recs 5 l)]=>some (.leaf (ok (jdx l)) [.c (.row 148 (.recs 5 (val (jdx l))))])
 |_=>none
theorem jrv:jaf Tryz.prog 137 true (jal jlG jhc):=by
 refine jnL (sp:=sp0) (fn:=Tryz.f137) (R1:=Sx09.sub [0] (Sx09.bodyOf Tryz.f137)) (R2:=Sx09.sub [1,0,0] (Sx09.bodyOf Tryz.f137)) (C:=Sx09.sub [1,0,1] (Sx09.bodyOf Tryz.f137)) (D:=Sx09.sub [1,1] (Sx09.bodyOf Tryz.f137)) (o1:=cl1 Tryz.f137) (o2:=cl2 Tryz.f137) (t:=116) (yt:=116) (x:=.tmp 3)
  mixed jau Tryz.func137 (by kernel_rfl) (by kernel_rfl) (Nat.le_of_ble_eq_true (by kernel_rfl)) (by kernel_rfl) (by kernel_rfl) (by kernel_rfl) (by kernel_rfl) (by kernel_rfl) (by kernel_rfl) fun ls t h=>?_
 unfold jhc at h;split at h
 ·rename_i l;cases h;refine⟨_,_,_,rfl,rfl,fun ho=>?_⟩
  have hl:l.length*40≤140737488355328:=by
   unfold ok jdx at ho;split at ho
   ·assumption
   ·cases ho
  have hv:val (jdx l)=l:=by
   unfold jdx;rw[if_pos hl];rfl
  rw[hv];refine Eq.mp (by kernel_rfl:(Ex.normal=Ex.normal∧some (V.w (W.c (Sx.C.o 0)))=some (V.w (W.c (Sx.C.o 0)))∧(Ob (l.length=0)→Ob True∧Ob (l.length=0)∧True)∧Ob ((([]:List (List Int)).length+l.length)*40≤140737488355328∧([]:List (List Int)).length+l.length≤9223372036854775807)∧Ob True∧Ob (([]:List (List Int))++l=l)∧True)=_) ?_;exact⟨rfl,rfl,fun h=>⟨⟨trivial⟩,h,trivial⟩,⟨by simp only[List.length_nil];omega⟩,⟨trivial⟩,⟨rfl⟩,trivial⟩
 ·cases h
def jlH:List SV:=[.c (.r (.recs 4 []))]
def jdy (l:List (List Int)):Option (List (List Int)):=if l.length*32≤140737488355328 then some l else none
def jhd:List Lf→Option GT
 |[.r (.recs 4 l)]=>some (.leaf (ok (jdy l)) [.c (.row 174 (.recs 4 (val (jdy l))))])
 |_=>none
theorem jrw:jaf Tryz.prog 144 true (jal jlH jhd):=by
 refine jnL (sp:=sp0) (fn:=Tryz.f144) (R1:=Sx09.sub [0] (Sx09.bodyOf Tryz.f144)) (R2:=Sx09.sub [1,0,0] (Sx09.bodyOf Tryz.f144)) (C:=Sx09.sub [1,0,1] (Sx09.bodyOf Tryz.f144)) (D:=Sx09.sub [1,1] (Sx09.bodyOf Tryz.f144)) (o1:=cl1 Tryz.f144) (o2:=cl2 Tryz.f144) (t:=158) (yt:=158) (x:=.tmp 3)
  mixed jau Tryz.func144 (by kernel_rfl) (by kernel_rfl) (Nat.le_of_ble_eq_true (by kernel_rfl)) (by kernel_rfl) (by kernel_rfl) (by kernel_rfl) (by kernel_rfl) (by kernel_rfl) (by kernel_rfl) fun ls t h=>?_
 unfold jhd at h;split at h
 ·rename_i l;cases h;refine⟨_,_,_,rfl,rfl,fun ho=>?_⟩
  have hl:l.length*32≤140737488355328:=by
   unfold ok jdy at ho;split at ho
   ·assumption
   ·cases ho
  have hv:val (jdy l)=l:=by
   unfold jdy;rw[if_pos hl];rfl
  rw[hv];refine Eq.mp (by kernel_rfl:(Ex.normal=Ex.normal∧some (V.w (W.c (Sx.C.o 0)))=some (V.w (W.c (Sx.C.o 0)))∧(Ob (l.length=0)→Ob True∧Ob (l.length=0)∧True)∧Ob ((([]:List (List Int)).length+l.length)*32≤140737488355328∧([]:List (List Int)).length+l.length≤9223372036854775807)∧Ob True∧Ob (([]:List (List Int))++l=l)∧True)=_) ?_;exact⟨rfl,rfl,fun h=>⟨⟨trivial⟩,h,trivial⟩,⟨by simp only[List.length_nil];omega⟩,⟨trivial⟩,⟨rfl⟩,trivial⟩
 ·cases h
end Go.Sh
end

section
namespace Go.Sh
open Go Go.Proofs Go.RowKit Go.Sx
variable {g:List (List NC)} {l:List Int}
theorem jtr {X Y X' Y':Type} {body:X→Option (X ⊕ Y)} {body':X'→Option (X' ⊕ Y')} (Rel:Nat→X→X'→Prop) (post:Y→Y'→Prop)
  (h:∀m x x',Rel m x x'→(∃y y',body x=some (.inr y)∧body' x'=some (.inr y')∧post y y')∨(∃m' x1 x1',m=m' + 1∧body x=some (.inl x1)∧body' x'=some (.inl x1')∧Rel m' x1 x1')) :
  ∀(m:Nat) (x:X) (x':X') (N N':Nat),m<N→m<N'→Rel m x x'→∃y y',jak body N x=some y∧jak body' N' x'=some y'∧post y y'
 |m,x,x',0,_,hN,_,_=>absurd hN (by omega)
 |m,x,x',_+1,0,_,hN,_=>absurd hN (by omega)
 |m,x,x',N+1,N' + 1,h1,h2,hr=>by
  unfold jak;rcases h m x x' hr with ⟨y,y',e,e',hp⟩|⟨m',x1,x1',rfl,e,e',hr'⟩
  ·rw[e,e'];exact⟨y,y',rfl,rfl,hp⟩
  ·rw[e,e'];exact jtr Rel post h m' x1 x1' N N' (by omega) (by omega) hr'
theorem jqQ {i:Nat} (h:jbe g i=0):je6 (nI g i 1) (nL g i 2).length (nL g i 3).length (nL g i 4).length=true∧jcV (nI g i 1) (nL g i 3) (nL g i 4) (nI g i 5)=true∧jg1 (nL g i 2)=false∧inB (nI g i 1) 0 4=true:=by
 unfold jbe at h
 repeat' (split at h)
 all_goals first|omega|skip
 all_goals
  rename_i h1 h2 h3 h4 h5 h6 h7 h8 h9 h10;simp at *
 all_goals simp_all
theorem jBv {i:Nat} (h:jbe g i=0):(nL g i 3).length=(nL g i 2).length∧((nL g i 2).length=0↔nI g i 1=0):=by
 have h1:=(jqQ h).1;unfold je6 at h1;split at h1
 ·rename_i hk;simp only[inB,Bool.and_eq_true,decide_eq_true_eq,beq_iff_eq]at h1 hk;omega
 ·rename_i hk;split at h1
  all_goals
   simp only[inB,Bool.and_eq_true,decide_eq_true_eq,beq_iff_eq]at h1 hk;omega
theorem jCy {i:Nat} (h:jbe g i=0):(∀k,k<(nL g i 3).length→0≤(nL g i 3).getD k 0∧(nL g i 3).getD k 0≤64)∧0≤nI g i 5∧nI g i 5≤64:=by
 have h1:=(jqQ h).2.1;unfold jcV at h1;rw[Bool.and_eq_true,Bool.and_eq_true,Bool.and_eq_true]at h1;obtain⟨⟨⟨ha,_⟩,hd⟩,_⟩:=h1;simp only[inB,Bool.and_eq_true,decide_eq_true_eq]at hd;refine⟨fun k hk=>?_,hd⟩;rw[Bool.not_eq_true',List.any_eq_false]at ha;have:=ha ((nL g i 3).getD k 0) (by simp[List.getD,hk])
 generalize (nL g i 3).getD k 0=c at *
 simp only[inB,Bool.not_eq_true,Bool.not_eq_false',Bool.and_eq_true,decide_eq_true_eq]at this;exact this
inductive WayTo (g:List (List NC)):List Int→Int→Nat→Prop where
 |one {i:Nat} (hi:i<g.length) (h:nI g i 1=0):WayTo g [(i:Int)] 0 i
 |on {w:List Int} {n:Int} {u i k:Nat} (h:WayTo g w n u) (hi:i<g.length) (hk:k<(nL g i 2).length) (he:(nL g i 2).getD k 0=(u:Int)):WayTo g (w++[(i:Int)]) (n+((nL g i 3).getD k 0+nI g i 5)) i
theorem WayTo.bound (hall:∀i,i<g.length→jbe g i=0) {w:List Int} {n:Int} {i:Nat} (h:WayTo g w n i):0≤n∧n≤128*(w.length:Int)∧i<g.length∧1≤w.length:=by
 induction h with
 |one hi h=>simp;omega
 | @on w n u i k h hi hk he ih =>
  obtain⟨h1,h2,h3⟩:=jCy (hall i hi);have:=h1 k (by have:=(jBv (hall i hi)).1;omega);simp only[List.length_append,List.length_cons,List.length_nil];omega
end Go.Sh
end

section
namespace Go.Sh
open Go Go.Proofs Go.RowKit Go.Sx
variable {g:List (List NC)} {l:List Int}
theorem jyT (h:Rg g l) {k:Nat} (hk:k<g.length):jak (y85 g ((k:Int),stg g l k) (l,true)) big ((0:Int),stg g l k)=some (stg g l (k+1)):=by
 have hn:=h.n;have hI:=jl4 h k (by omega);obtain⟨i,hi,e,_⟩:=h.at hk;have hil:i<(stg g l k).length:=by rw[hI.len];exact hi
 have hz:(stg g l k).getD i 0=0:=by
  have:=hI.rest k (Nat.le_refl _) hk
  rwa [e,Int.toNat_natCast]at this
 have h0:((0:Int),stg g l k)=(((0:Nat):Int),(stg g l k).set i (mxf (fun x=>(stg g l k).getD x.toNat 0) 0 (nbL g i 0))):=by
  have:=jqI (stg g l k) i 0;rw[hz]at this
  show _=(((0:Nat):Int),(stg g l k).set i 0)
  rw[this];rfl
 rw[h0];refine jcL (f:=fun m=>((m:Int),(stg g l k).set i (mxf (fun x=>(stg g l k).getD x.toNat 0) 0 (nbL g i m)))) (k:=g.length) (fun m hm=>?_) ?_ (by omega)
 ·unfold y85;simp only[Int.toNat_natCast,e];rw[if_pos (by omega),if_pos (by omega),if_pos hi,jlm h.fw hi,jad];have hlen:((stg g l k).set i (mxf (fun x=>(stg g l k).getD x.toNat 0) 0 (nbL g i m))).length=g.length:=by simp[hI.len]
  rw[hlen];cases hb:jbo g i m with
  |true =>
   have hx:(m:Int)∈nbL g i g.length:=jl3.2 ⟨m,hm,hb,rfl⟩;have hne:=jvx h hk e hx;rw[Int.toNat_natCast]at hne;have hr:=hI.rng h hm;have a1:((stg g l k).set i (mxf (fun x=>(stg g l k).getD x.toNat 0) 0 (nbL g i m))).getD m 0=(stg g l k).getD m 0:=by rw[jbs _ _ _ _ _ hil,if_neg (fun e=>hne e.symm)]
   have a2:((stg g l k).set i (mxf (fun x=>(stg g l k).getD x.toNat 0) 0 (nbL g i m))).getD i 0=mxf (fun x=>(stg g l k).getD x.toNat 0) 0 (nbL g i m):=by rw[jbs _ _ _ _ _ hil,if_pos rfl]
   rw[if_pos rfl,if_pos (by omega),if_pos hi,if_pos (by omega),if_pos hm,if_pos (by omega),if_pos hi,a1,a2,jaL (by omega),jaL (by omega),jtb,jtd,if_pos hb,jz5,Int.toNat_natCast,Int.add_comm ((stg g l k).getD m 0) 1];rfl
  |false =>
   rw[if_neg (by simp),jaL (by omega),jtd,if_neg (by rw[hb];simp),List.append_nil];rfl
 ·unfold y85;rw[if_neg (by show ¬(g.length:Int)<_;omega)];rw[jfb,e,Int.toNat_natCast]
theorem jyU (h:Rg g l):jak (y49 g (l,true)) big ((0:Int),List.replicate g.length 0)=some (jc4 g l):=by
 have hn:=h.n;have hL:=h.len;refine jcL (f:=fun k=>((k:Int),stg g l k)) (k:=g.length) (fun k hk=>?_) ?_ (by omega)
 ·unfold y49;simp only[Int.toNat_natCast];rw[if_pos (by omega),if_pos (by omega),if_pos (by omega),jyT h hk,jad];unfold jf2;rw[jaL (by omega)];rfl
 ·unfold y49;rw[if_neg (by show ¬(g.length:Int)<(l.length:Int);omega)];rfl
theorem jBw (g:List (List NC)) (hn:g.length<1000) (s:List Int) (hs:s.length=g.length) (n:Nat) (o:List (List Int)):jak (y86 g s ((n:Int),o)) big ((0:Int),[])=some (grp s g.length n):=by
 refine jcL (f:=fun m=>((m:Int),grp s m n)) (k:=g.length) (fun m hm=>?_) ?_ (by omega)
 ·unfold y86
  have hg:(grp s m n).length≤m:=by
   unfold grp;rw[List.length_map];exact Nat.le_trans (List.length_filter_le _ _) (by simp)
  simp only[Int.toNat_natCast];rw[if_pos (by omega),if_pos (by omega),if_pos (by omega),jte];cases hb:s.getD m 0==(n:Int)with
  |true=>rw[if_pos rfl,if_pos (by simp only[List.length_cons,List.length_nil];omega),if_pos rfl,jaL (by omega)];rfl
  |false=>rw[if_neg (by simp),if_neg (by simp),jaL (by omega),List.append_nil];rfl
 ·unfold y86;rw[if_neg (by show ¬(g.length:Int)<_;omega)]
theorem jBx (g:List (List NC)) (hn:g.length<1000) (s:List Int) (hs:s.length=g.length):jak (y87 g s) big ((0:Int),[])=some (neO s g.length g.length):=by
 refine jcL (f:=fun n=>((n:Int),neO s g.length n)) (k:=g.length) (fun n hm=>?_) ?_ (by omega)
 ·unfold y87
  have hg:(neO s g.length n).length≤n:=by
   unfold neO;exact Nat.le_trans (List.length_filter_le _ _) (by simp)
  rw[if_pos (by show(n:Int)<_;omega),jBw g hn s hs,jad];unfold jf3;rw[jnC]
  by_cases hp:0<(grp s g.length n).length
  ·rw[if_pos (by omega),if_pos (by simp only[List.length_map,List.length_cons,List.length_nil];omega),if_pos hp,jaL (by show -9223372036854775808≤(n:Int)+1∧(n:Int)+1≤9223372036854775807;omega)];rfl
  ·rw[if_neg (by omega),if_neg hp,List.append_nil,jaL (by show -9223372036854775808≤(n:Int)+1∧(n:Int)+1≤9223372036854775807;omega)];rfl
 ·unfold y87;rw[if_neg (by show ¬(g.length:Int)<_;omega)]
theorem jxd (h:Rg g l) (nm:ByteArray):y83 nm g=some (jbP (jc4 g l) g.length):=by
 have hn:=h.n;obtain⟨f1,f2,f3,f4⟩:=jgr h;unfold y83;rw[jqD h.fw,h.ord,jad,if_pos (by omega),Int.toNat_natCast]
 show Option.bind (jak (y49 g (l,true)) big _) _=_
 rw[jyU h,jad];unfold y107;rw[jBx g hn _ f1,jad,jBm f2 f3 f4];rfl
theorem jvI {x:Int} {n:Nat} (h:inB x 0 ((n:Int)-1)=true):0≤x∧x<(n:Int):=by
 unfold inB at h;rw[Bool.and_eq_true,decide_eq_true_eq,decide_eq_true_eq]at h;omega
theorem jyV {o:List Int} {k:Nat} {x:Int} (hk:k<o.length) (hx:o.getD k 0=x):o.take k++[x]=o.take (k+1):=by
 have:o[k]?=some x:=by
  rw[List.getElem?_eq_getElem hk]
  congr 1
  have:o.getD k 0=o[k]:=by simp[List.getD,hk]
  rw[←this,hx]
 rw[List.take_add_one,this];rfl
def jee (g:List (List NC)) (o:List Int) (k:Nat):Option Int :=
 if inB (o.getD k 0) 0 ((g.length:Int)-1)=true then if jc2 (o.take k) (o.getD k 0).toNat=true then some 26 else if jbO g (o.take k) (o.getD k 0).toNat=true then none else some 9 else some 6
theorem jyW (h:Rg g l) {o:List Int} (hlen:o.length=g.length) {k:Nat} (hk:k<o.length):y18 g o ((k:Int),jaX g.length (o.take k))=match jee g o k with
  |some e=>some (.inr (.inl e))
  |none=>some (.inl (((k+1:Nat):Int),jaX g.length (o.take (k+1)))):=by
 have hn:=h.n;obtain⟨x,hx⟩:∃x,o.getD k 0=x:=⟨_,rfl⟩
 unfold y18 jee;simp only[Int.toNat_natCast,jex,hx];rw[if_pos (by omega),if_pos (by omega),if_pos hk,jaL (x:=(o.length:Int)-1) (by omega),jcw,jad,hlen];cases hin:inB x 0 ((g.length:Int)-1)with
 |false=>rfl
 |true =>
  have hr:=jvI hin;obtain⟨i,rfl⟩:∃i:Nat,x=(i:Int):=⟨x.toNat,by omega⟩
  have hi:i<g.length:=by omega
  rw[if_neg (by simp),if_pos (by omega),Int.toNat_natCast,if_pos hi,jey hi,if_pos rfl];cases hb:jc2 (o.take k) i with
  |true=>rfl
  |false =>
   rw[if_neg (by simp),jln h.fw hi (h.ok i hi),jad];cases hrd:jbO g (o.take k) i with
   |false=>rfl
   |true=>rw[if_neg (by simp),if_pos (by omega),if_pos hi,jaL (by omega),joW hi,jyV hk hx];rfl
theorem jyX (h:Rg g l) (nm:ByteArray) {o:List Int} (hlen:o.length=g.length) {k:Nat} (hk:k<o.length):y11 nm g o (k:Int)=match jee g o k with
  |some e=>some (.inr (.inl e))
  |none=>some (.inl ((k+1:Nat):Int)):=by
 have hn:=h.n;obtain⟨x,hx⟩:∃x,o.getD k 0=x:=⟨_,rfl⟩
 have htake:(o.take (Int.toNat (Option.getD (some (k:Int)) (o.length:Int))-0))=o.take k:=by simp
 have hc:(0:Int)≤Option.getD none 0∧Option.getD none 0≤Option.getD (some (k:Int)) (o.length:Int)∧Option.getD (some (k:Int)) (o.length:Int)≤(o.length:Int):=by simp;omega
 unfold y11 jee;simp only[Int.toNat_natCast,hx,List.drop_zero,htake];rw[if_pos (by omega),if_pos (by omega),if_pos hk,jaL (x:=(g.length:Int)-1) (by omega),jbc,jad];cases hin:inB x 0 ((g.length:Int)-1)with
 |false=>rfl
 |true =>
  have hr:=jvI hin;obtain⟨i,rfl⟩:∃i:Nat,x=(i:Int):=⟨x.toNat,by omega⟩
  have hi:i<g.length:=by omega
  have hlt2:(o.take k).length<1000:=by rw[List.length_take];omega
  have hh:(o.take k).any (fun x=>x==(i:Int))=jc2 (o.take k) i:=rfl;rw[if_neg (by simp),if_pos hc,if_pos (by omega),if_pos hk,jdV _ _ (by omega),jad,hh,if_pos rfl,Int.toNat_natCast];cases hb:jc2 (o.take k) i with
  |true=>rfl
  |false =>
   rw[if_neg (by simp),if_pos hc,if_pos (by omega),if_pos hk,jqC h.fw nm hi _ hlt2,jad];cases hrd:jbO g (o.take k) i with
   |false=>rfl
   |true=>rw[if_neg (by simp),jaL (by omega)];rfl
theorem jyY (g:List (List NC)):jbO (cpU g)=jbO g:=by
 funext out i;unfold jbO jbo;rw[jbz,(cpL i).1,(cpI i).2.2]
theorem jxe (g:List (List NC)) (o:List Int) (k:Nat):jee (cpU g) o k=jee g o k:=by
 unfold jee;rw[jbz,jyY]
theorem jts (h:Rg g l) (nm:ByteArray) (o:List Int) (hlen:o.length=g.length):∃y,jak (y18 (cpU g) o) big ((0:Int),List.replicate o.length false)=some y∧jak (y11 nm g o) big 0=some y:=by
 have hn:=h.n
 obtain⟨y,y',h1,h2,rfl⟩:=jtr (body:=y18 (cpU g) o) (body':=y11 nm g o) (fun m x x'=>∃k,m=o.length-k∧k≤o.length∧x=((k:Int),jaX (cpU g).length (o.take k))∧x'=(k:Int)) (fun y y'=>y=y') (by
  rintro m x x' ⟨k,rfl,hk,rfl,rfl⟩
  by_cases hlt:k<o.length
  ·rw[jyW h.cp (by rw[jbz];exact hlen) hlt,jyX h nm hlen hlt,jxe];cases jee g o k with
   |some e=>exact .inl ⟨_,_,rfl,rfl,rfl⟩
   |none=>exact .inr ⟨o.length-(k+1),_,_,by omega,rfl,rfl,k+1,rfl,hlt,rfl,rfl⟩
  ·unfold y18 y11;rw[if_neg (by show ¬(k:Int)<_;omega),if_neg (by omega)];exact .inl ⟨_,_,rfl,rfl,rfl⟩) o.length ((0:Int),jaX (cpU g).length (o.take 0)) 0 big big (by have:big=18446744073709551616:=rfl;omega) (by have:big=18446744073709551616:=rfl;omega) ⟨0,rfl,Nat.zero_le _,rfl,rfl⟩
 rw[List.take_zero,jo0,jbz,←hlen]at h1;exact⟨y,h1,h2⟩
theorem jtt (h:Rg g l) (nm:ByteArray) (hs:nm.size<1000) (h0:(cg nm g).2=0) (o:List Int) (ho:o.length<1000):∃e,y29 nm (cpU g) o=some e∧y41 nm g o=some e:=by
 have hn:=h.n;have h0c:(cg nm (cpU g)).2=0:=by rw[joS];exact h0
 have hf:=jnv h.cp.fw hs h0c;rw[h.cp.ord]at hf;have hS:=js6 h.cp.fw hs h0c h.cp.ord;unfold y29 y41 jda jbU jbL;rw[hf,hS,jbz]
 by_cases hlen:o.length=g.length
 ·obtain⟨y,h1,h2⟩:=jts h nm o hlen;have hne:((o.length:Int)!=(g.length:Int))=false:=by rw[hlen];simp
  refine⟨Sum.elim id (fun _=>0) y,?_,?_⟩
  ·rw[if_neg (by simp)];rw[Option.map_some,jad];rw[hne,if_neg (by simp),if_pos (js5 ho),Int.toNat_natCast,h1,jad];unfold y89;cases y<;>rfl
  ·rw[hne,if_neg (by simp),h2,jad];unfold y67;cases y<;>rfl
 ·have hne:((o.length:Int)!=(g.length:Int))=true:=by rw[bne_iff_ne];omega
  refine⟨10,?_,?_⟩
  ·rw[if_neg (by simp)];rw[Option.map_some,jad];rw[hne,if_pos rfl]
  ·rw[hne,if_pos rfl]
end Go.Sh
end

section
open Go.RowKit
namespace Go.Sh
open Go Go.Proofs Go.RowKit Go.Sx
def hpT (gU:List (List NC)) (s:List Int) (o:List (List Int)):Hp:=[(1,.row 3 (.ints .i64 s)),(2,.mrow 31 [3] (.ii .i64 o) none),(0,.xext (.st shG gU))]
def tmT (s:List Int) (k:Nat):List (Nat × V):=[(54,vi .i64 k),(53,vi .i64 (s.length:Int)),(52,.w (.c (.o 1))),(7,.w (.c (.o 2)))]
def tmU (s:List Int) (k:Nat):List (Nat × V):=[(12,vi .i64 (s.getD k 0)),(11,vi .i64 k)]++tmT s k
def inT (s:List Int) (d:Nat) (z:Nat × Nat):Prop:=z.1<s.length∧s.length-z.1=d∧mxS s z.1≤z.2∧z.2≤max (mxS s z.1) ((s.getD z.1 0).toNat+1)
noncomputable def lpT (gU:List (List NC)) (s:List Int):jgh:=fun gs id _=>match id with
 |4=>some ⟨Nat,fun k=>⟨tmT s k,hpT gU s (jbP s k),3⟩,fun k=>k≤s.length,fun k=>s.length-k⟩
 |6=>some ⟨Nat × Nat,fun z=>⟨tmU s z.1,hpT gU s (jbl s z.1 z.2),3⟩,fun z=>inT s (gs.getD 0 0) z,fun z=>(s.getD z.1 0).toNat+1-z.2⟩
 |_=>none
theorem jyZ (s:List Int) (k n:Nat):(grp s k n).length≤k:=by
 unfold grp;rw[List.length_map];exact Nat.le_trans (List.length_filter_le _ _) (by simp)
theorem jy0 {s:List Int} {k m m':Nat} (h:max (mxS s k) m=max (mxS s k) m'):jbl s k m=jbl s k m':=by
 unfold jbl;rw[show m-mxS s k=m' - mxS s k by omega]
section
variable {gU:List (List NC)} {s:List Int} {nm:ByteArray} {od:List Int}
theorem sT_vc {X:V→Hp→Nat→Prop} (h0:∀i,i<s.length→0≤s.getD i 0) (h1:∀i,i<s.length→(s.getD i 0).toNat<1000000) (hl:s.length≤1000000)
  (hX:X (V.t [W.c (C.o 2),W.c (C.d (D.i IntKind.i64 0))]) (hpT gU s (jbP s s.length)) 3) :
  sx Tryz.prog spS 78 1 0 (lpT gU s) (jb1 Tryz.prog spS 78) sgT 0 [] ⟨tmO od od.length,hpO nm gU od s,6⟩ (jcb Tryz.prog Tryz.f27.results.toList X):=by
 refine Eq.mp (by kernel_rfl:(
  (∃x:Nat,Ob (x≤s.length)∧Ob ((0:Int)=(x:Int))∧Ob ((s.length:Int)=s.length)∧Ob (s=s)∧Ob ((jbP s x).length=0)∧Ob (gU=gU)∧True) ∧
  ∀x:Nat,x≤s.length→Br (decide ((x:Int)<(s.length:Int)))
   (Ob ((0:Int)≤x∧(x:Int)<s.length)∧Ob ((x:Int).toNat<s.length) ∧
    (∃z:Nat × Nat,Ob (inT s ([s.length-x].getD 0 0) z)∧Ob (s.getD (x:Int).toNat 0=s.getD z.1 0)∧Ob ((x:Int)=z.1)∧Ob ((x:Int)=z.1)∧Ob ((s.length:Int)=s.length)∧Ob (s=s)∧Ob (jbP s x=jbl s z.1 z.2)∧Ob (gU=gU)∧True) ∧
    ∀z:Nat × Nat,inT s ([s.length-x].getD 0 0) z→Br (decide (((jbl s z.1 z.2).length:Int)≤s.getD z.1 0))
     (Ob (((jbl s z.1 z.2).length+1)*24≤140737488355328∧(jbl s z.1 z.2).length+1≤9223372036854775807)∧∃z':Nat × Nat,Ob (inT s ([s.length-x].getD 0 0) z')∧Ob ((s.getD z'.1 0).toNat+1-z'.2<(s.getD z.1 0).toNat+1-z.2)∧Ob (s.getD z.1 0=s.getD z'.1 0)∧Ob ((z.1:Int)=z'.1)∧Ob ((z.1:Int)=z'.1)∧Ob ((s.length:Int)=s.length)∧Ob (s=s)∧Ob (jbl s z.1 z.2++[[]]=jbl s z'.1 z'.2)∧Ob (gU=gU)∧True)
     (Ob (0≤s.getD z.1 0∧s.getD z.1 0<((jbl s z.1 z.2).length:Int))∧Ob ((s.getD z.1 0).toNat<(jbl s z.1 z.2).length)∧Ob ((((jbl s z.1 z.2).getD (s.getD z.1 0).toNat []).length+1)*8≤140737488355328∧((jbl s z.1 z.2).getD (s.getD z.1 0).toNat []).length+1≤9223372036854775807)∧Ob (0≤s.getD z.1 0∧s.getD z.1 0<((jbl s z.1 z.2).length:Int))∧Ob ((s.getD z.1 0).toNat=(s.getD z.1 0).toNat∧(s.getD z.1 0).toNat<(jbl s z.1 z.2).length) ∧
      ∃x':Nat,Ob (x'≤s.length)∧Ob (s.length-x'<s.length-x)∧Ob (IntKind.i64.wrap ((z.1:Int)+1)=x')∧Ob ((s.length:Int)=s.length)∧Ob (s=s)∧Ob ((jbl s z.1 z.2).set (s.getD z.1 0).toNat ((jbl s z.1 z.2).getD (s.getD z.1 0).toNat []++[(z.1:Int)])=jbP s x')∧Ob (gU=gU)∧True))
   (Ob True∧Ob True∧X (V.t [W.c (C.o 2),W.c (C.d (D.i IntKind.i64 0))]) (hpT gU s (jbP s x)) 3))=_) ?_
 refine⟨⟨0,⟨Nat.zero_le _⟩,⟨rfl⟩,⟨rfl⟩,⟨rfl⟩,⟨rfl⟩,⟨rfl⟩,trivial⟩,fun x hx=>Br.intro (fun hlt=>?_) fun hlt=>?_⟩
 ·have hlt:x<s.length:=by have:=of_decide_eq_true hlt;omega
  refine⟨⟨by omega⟩,⟨by omega⟩,⟨(x,mxS s x),⟨hlt,rfl,Nat.le_refl _,Nat.le_max_left _ _⟩,⟨rfl⟩,⟨rfl⟩,⟨rfl⟩,⟨rfl⟩,⟨rfl⟩,⟨(jyy s x).symm⟩,⟨rfl⟩,trivial⟩,?_⟩;rintro ⟨k,m⟩ ⟨hk,he,hm1,hm2⟩;dsimp only at hk he hm1 hm2 ⊢;have he:s.length-k=s.length-x:=he;obtain rfl:k=x:=by omega
  have hz:=h0 k hk;have hb:=h1 k hk;have hmx:=jo4 s 1000000 k fun i hi=>h1 i (by omega);have hlen:=jnB s k m;refine Br.intro (fun hle=>?_) fun hle=>?_
  ·have hle:=of_decide_eq_true hle;refine⟨⟨by omega⟩,(k,m+1),⟨hk,rfl,Nat.le_succ_of_le hm1,?_⟩,⟨?_⟩,⟨rfl⟩,⟨rfl⟩,⟨rfl⟩,⟨rfl⟩,⟨rfl⟩,⟨jyx hm1⟩,⟨rfl⟩,trivial⟩
   ·show m+1≤max (mxS s k) ((s.getD k 0).toNat+1)
    omega
   ·show(s.getD k 0).toNat+1-(m+1)<(s.getD k 0).toNat+1-m
    omega
  ·have hle:=of_decide_eq_false hle;have hin:(s.getD k 0).toNat<(jbl s k m).length:=by omega
   have hg:=jtf (fun i hi=>h0 i (by omega)) hin;have hgl:=jyZ s k (s.getD k 0).toNat;rw[hg];refine⟨⟨by omega⟩,⟨hin⟩,⟨by omega⟩,⟨by omega⟩,⟨rfl,hin⟩,k+1,⟨hk⟩,⟨by omega⟩,⟨by rw[jaL (by omega)];rfl⟩,⟨rfl⟩,⟨rfl⟩,⟨?_⟩,⟨rfl⟩,trivial⟩;rw[←hg,jy0 (m':=(s.getD k 0).toNat+1) (by omega)];exact jz6 fun i hi=>h0 i (by omega)
 ·have hlt:=of_decide_eq_false hlt;obtain rfl:x=s.length:=by omega
  exact⟨⟨trivial⟩,⟨trivial⟩,hX⟩
end
end Go.Sh
end

section
open Go.RowKit
namespace Go.Sh
open Go Go.Proofs Go.RowKit Go.Sx
noncomputable def sgR0:Code:=jc3 [1,1,1,1,1,0,0] sgB
def stH (nm:ByteArray) (gU:List (List NC)) (od:List Int):St:=⟨[(7,.w (.c (.d (.v (.slice none 0 0))))),(6,.w (.c (.p 5 0 1 0))),(4,.w (.c (.p 3 0 1 0)))],hpO nm gU od (List.replicate gU.length 0),6⟩
def kH (nm:ByteArray) (gU:List (List NC)) (K:V→Prop):Ex→St→Prop:=fun ex st'=>match ex with
 | .normal=>jda nm gU=false∧Le 1 st' (stH nm gU (val (jbL nm gU)))
 | .ret=>jcb Tryz.prog Tryz.f27.results.toList (fun v _ _=>K v) .ret st'
 |_=>False
theorem sH_vc (nm:ByteArray) (gU:List (List NC)) (K:V→Prop) (hF:jda nm gU=true→ok (jbU nm gU)∧K (.t [.c (.d (.v (.slice none 0 0))),.c (.d (.i .i64 (nzI (val (jbU nm gU)))))])) (hS:jda nm gU=false→ok (jbL nm gU)∧gU.length≤1000000) :
  sx Tryz.prog spS 78 1 0 (fun _ _ _=>none) (jb1 Tryz.prog spS 78) (jlr 5 sgB) 0 [] ⟨jbZ 0 [.w (.a [.d (.s nm),.o 0])],[(0,.xext (.st shG gU))],1⟩ (kH nm gU K):=by
 refine Eq.mp (by kernel_rfl:(Br (jda nm gU) (Ob (ok (jbU nm gU))∧Ob True∧Ob True∧K (.t [.c (.d (.v (.slice none 0 0))),.c (.d (.i .i64 (nzI (val (jbU nm gU)))))])) (Ob (ok (jbL nm gU))∧Ob ((0:Int)≤(gU.length:Int)∧(gU.length:Int)=gU.length∧((8:Nat):Int)*(gU.length:Int)≤281474976710656∧(gU.length:Int)≤9223372036854775807)∧jda nm gU=false∧Ob (Value.slice none 0 0=Value.slice none 0 0)∧Ob ((0:Nat)=0)∧Ob ((0:Nat)=0)∧Ob (List.replicate (gU.length:Int).toNat (0:Int)=List.replicate gU.length 0)∧Ob (nm=nm)∧Ob (val (jbL nm gU)=val (jbL nm gU))∧Ob (gU=gU)∧True))=_) ?_;refine Br.intro (fun h=>?_) fun h=>?_
 ·obtain⟨h1,h2⟩:=hF h;exact⟨⟨h1⟩,⟨trivial⟩,⟨trivial⟩,h2⟩
 ·obtain⟨h1,h2⟩:=hS h;exact⟨⟨h1⟩,⟨by omega⟩,h,⟨rfl⟩,⟨rfl⟩,⟨rfl⟩,⟨by rw[Int.toNat_natCast]⟩,⟨rfl⟩,⟨rfl⟩,⟨rfl⟩,trivial⟩
theorem s0_vc (nm:ByteArray) (gU:List (List NC)) (od:List Int):pcS 1 sgR0 (stH nm gU od) fun st'=>Le 1 st' (je9 nm gU od (List.replicate gU.length 0) 0):=by
 refine Eq.mp (by kernel_rfl:(Ob ((0:Int)=((0:Nat):Int))∧Ob ((od.length:Int)=od.length)∧Ob (Value.slice none 0 0=Value.slice none 0 0)∧Ob ((0:Nat)=0)∧Ob ((0:Nat)=0)∧Ob (List.replicate gU.length (0:Int)=List.replicate gU.length 0)∧Ob (nm=nm)∧Ob (od=od)∧Ob (gU=gU)∧True)=_) ?_;exact⟨⟨rfl⟩,⟨rfl⟩,⟨rfl⟩,⟨rfl⟩,⟨rfl⟩,⟨rfl⟩,⟨rfl⟩,⟨rfl⟩,⟨rfl⟩,trivial⟩
theorem jjO {fn:Func} {tmps:Array Value} {R:Ending→World→Prop} {I:World→Prop} {Pd:Nat→Prop} (hI:∀D w,Pd D→I w→w.heap[D]?=some (.deferred (some []))→I (w.putObj D (.deferred none)))
  (hR:∀w,I w→∃v,(results fn tmps).run Tryz.prog w=.ok v w∧R (.returned v) w) :
  ∀(l:List Nat) (w:World),l.Nodup→(∀D∈l,w.heap[D]?=some (.deferred (some []))∧Pd D)→I w→LeavesInM Fence.wide 9 Tryz.prog fn tmps R (l.map mk1) .returning w
 |[],w,_,_,h=>hR w h
 |D::l,w,hn,hm,h=>by
  have hD:=hm D List.mem_cons_self;rw[List.nodup_cons]at hn;refine⟨by simp,.inl ⟨D,_,rfl,run_takeDeferred hD.1,jjO hI hR l _ hn.2 (fun E hE=>⟨?_,(hm E (List.mem_cons_of_mem _ hE)).2⟩) (hI D w hD.2 h hD.1)⟩⟩;have hne:E≠D:=fun e=>hn.1 (by rw[←e];exact hE);rw[World.putObj_heap_other (by first|exact hne|exact hne.symm)];exact(hm E (List.mem_cons_of_mem _ hE)).1
theorem jy1 {ρ:Env} {B:Kd} {w:World} {h q:Nat} {o:List (List Int)} {e e':Obj} (hd:w.heap[q]?=some e) (he:e.isCells=false) (ho:O.ok ρ B w h (.mrow 31 [3] (.ii .i64 o) none)):O.ok ρ B (w.putObj q e') h (.mrow 31 [3] (.ii .i64 o) none):=by
 have fr:∀{ty sz n:Nat} {v:Value} {xs:List Value},w.ownsRow 0 ty sz v n xs→∀k,v.ownBlock=some k→(w.putObj q e').heap[k]?=w.heap[k]?:=fun h k hk=>by
  rcases h.2 with ⟨hn,_⟩|⟨g,cap,cur,h1,h2,h3,_⟩
  ·rw[hn]at hk;cases hk
  ·rw[h1]at hk;cases hk
   have hne:g≠q:=fun e2=>by
    subst e2;rw[h3]at hd;cases hd;cases he
   exact World.putObj_heap_other (by first|exact hne|exact hne.symm)
 obtain⟨us,q1,q2,q3,q4⟩:=ho;refine⟨us,jcp q1 (fr q1),fun i j hi hj hne=>?_,q3,q4⟩;obtain⟨u,hu,hx⟩:=q2 i j hi hj hne;exact⟨u,hu,jcK hx fun k hk=>fr hx.1 k hk⟩
end Go.Sh
end

section
open Go.RowKit
namespace Go.Sh
open Go Go.Proofs Go.RowKit Go.Sx
open Go.Sx09 (needL)
abbrev okV (e:Int):V:=.t [.c (.d (.v (.slice none 0 0))),.c (.d (.i .i64 e))]
abbrev rsS (o:List (List Int)) (e:Int):List RR:=[.c (.m 31 [3] (.ii .i64 o)),.c (.d (.i .i64 e))]
def RS (ρ0:Env) (w0:World) (rs:List RR):Ending→World→Prop:=fun e w'=>∃ρ' v hp' nx',e=.returned (v.val ρ')∧v.lt nx'∧jae 1 ρ0 ρ'∧(∃B',Grow (kd fun k=>k<w0.heap.size) B' false w' w'∧HRel ρ' B' hp' nx' w')∧Bel (kd fun k=>k<w0.heap.size) w0 w'∧Old (kd fun k=>k<w0.heap.size) w'∧jfS 1 rs v hp'
theorem jBy (e:Int):jfS 1 (rsS [] e) (okV e) []:=Eq.mp (by kernel_rfl:(Ob ((0:Nat)=0)∧Ob (e=e)∧True)=_) ⟨⟨rfl⟩,⟨rfl⟩,trivial⟩
theorem jBz (o:List (List Int)):jfS 1 (rsS o 0) (.t [.c (.o 2),.c (.d (.i .i64 0))]) [(2,.mrow 31 [3] (.ii .i64 o) none)]:=Eq.mp (by kernel_rfl:(Ob (o=o)∧Ob ((0:Int)=0)∧True)=_) ⟨⟨rfl⟩,⟨rfl⟩,trivial⟩
theorem jAZ:Tryz.f27.results=#[.tmp 2,.tmp 3]:=by kernel_rfl
theorem jA0 (tmps:Array Value) (W:World):(results Tryz.f27 tmps).run Tryz.prog W=.ok (.tuple #[tmps.getD 2 undef,tmps.getD 3 undef]) W:=by
 unfold results;rw[jAZ];simp
section
variable {ρ ρ0:Env} {B:Kd} {ds:List Deferred} {st:St} {a:Act} {w w0:World} {gU:List (List NC)} {s:List Int} {o:List (List Int)}
theorem jxf {K:V→Hp→Nat→Prop} (hr:RelD ds ρ B 78 1 st a w) (h:jcb Tryz.prog Tryz.f27.results.toList K .ret st):∃u2 u3:Sx.W,K (.t [u2,u3]) st.hp st.nx∧a.tmps.getD 2 undef=u2.val ρ∧a.tmps.getD 3 undef=u3.val ρ:=by
 rw[jAZ]at h;unfold jcb at h;split at h
 ·cases h
 ·split at h
  ·rename_i l hl;simp only[jdC,jit]at hl;split at hl
   ·rename_i x l' hx hl';split at hx
    ·rename_i u2 h2;cases hx;split at hl'
     ·rename_i y l2 hy hl2;split at hy
      ·rename_i u3 h3;cases hy;cases hl2;cases hl';cases hl;exact⟨u2,u3,h.2.2,(hr.tm 2 _ h2).2,(hr.tm 3 _ h3).2⟩
      ·cases hy
     ·cases hl'
    ·cases hx
   ·cases hl
  ·cases h
theorem jBA {e:Int} (hr:RelD [] ρ (kd fun k=>k<w0.heap.size) 78 1 st a w) (hag:jae 1 ρ0 ρ) (hbl:Bel (kd fun k=>k<w0.heap.size) w0 w) (h:jcb Tryz.prog Tryz.f27.results.toList (fun v _ _=>v=okV e) .ret st):LeavesInM Fence.wide 9 Tryz.prog Tryz.f27 a.tmps (RS ρ0 w0 (rsS [] e)) a.defers .returning w:=by
 obtain⟨u2,u3,hk,h2,h3⟩:=jxf hr h;cases hk;rw[hr.defers];obtain⟨B',gB,hh⟩:=hr.heap
 exact jjO (Pd:=fun _=>False) (I:=fun W=>W=w) (fun D W h _ _=>h.elim) (fun W hI=>by
  subst hI;exact⟨_,jA0 _ _,ρ,okV e,[],st.nx,by rw[h2,h3];rfl,(by intro u hu;simp only[List.mem_cons,List.not_mem_nil,or_false]at hu;rcases hu with rfl|rfl<;>trivial),hag,⟨B',gB,hh.sub fun k o hf=>by cases hf⟩,hbl,hr.le,jBy e⟩) [] w List.nodup_nil (fun D hD=>by cases hD) rfl
theorem jy2 {l:List Nat} (hr:RelD (l.map mk1) ρ (mB w0 l) 78 1 st a w) (hm:jo3 w0 l w) (hag:jae 1 ρ0 ρ) (hbl:Bel (fun k=>k<w0.heap.size) w0 w)
  (h:jcb Tryz.prog Tryz.f27.results.toList (fun v hp nx=>v=.t [.c (.o 2),.c (.d (.i .i64 0))]∧hp=hpT gU s o∧nx=3) .ret st):LeavesInM Fence.wide 9 Tryz.prog Tryz.f27 a.tmps (RS ρ0 w0 (rsS o 0)) a.defers .returning w:=by
 obtain⟨u2,u3,⟨hk,hhp,hnx⟩,h2,h3⟩:=jxf hr h;cases hk;rw[hr.defers];obtain⟨B',gB,hh⟩:=hr.heap;have hold:=hr.le;rw[hhp,hnx]at hh;have o2:=(hh.ok 2 _ rfl).2.2;refine jjO (Pd:=fun D=>¬D<w0.heap.size) (I:=fun W=>O.ok ρ B' W 2 (.mrow 31 [3] (.ii .i64 o) none)∧Bel (fun k=>k<w0.heap.size) w0 W∧w.heap.size≤W.heap.size) (fun D W hD hI hd=>?_) (fun W hI=>?_) l w hm.1 (fun D hD=>hm.2 D hD) ⟨o2,hbl,Nat.le_refl _⟩
 ·have hg:=grownBy_putObj' W D (.deferred none);refine⟨jy1 hd rfl hI.1,hI.2.1.trans ⟨hg.os,hg.tape,hg.output,hg.size,fun k hk=>hg.block k (Nat.lt_of_lt_of_le hk hI.2.1.size) (fun e=>?_)⟩,Nat.le_trans hI.2.2 hg.size⟩;cases e;exact hD hk
 ·refine⟨_,jA0 _ _,ρ,.t [.c (.o 2),.c (.d (.i .i64 0))],[(2,.mrow 31 [3] (.ii .i64 o) none)],3,by rw[h2,h3];rfl,(by intro u hu;simp only[List.mem_cons,List.not_mem_nil,or_false]at hu;rcases hu with rfl|rfl;exact(by decide:2<3);trivial),hag,⟨B',⟨⟨fun k hk=>gB.le.kp k (.inl hk),fun k hk=>hk.elim⟩,fun k hk=>?_,fun k hk=>.inr fun hkp=>?_,fun h=>by cases h⟩,⟨fun x o' hf=>?_,fun x o1 x' o' b hf hf' hne _ _=>?_,Go.Sx09.glob0⟩⟩,hI.2.1,fun k hk=>Nat.lt_of_lt_of_le (jaW.1 hk) hI.2.1.size,jBz o⟩
  ·rcases gB.new k hk with h|h
   ·exact .inr (Nat.lt_of_lt_of_le (hold k h) hI.2.2)
   ·exact .inr (Nat.lt_of_lt_of_le h hI.2.2)
  ·rcases gB.out k hk with h|h
   ·exact h
   ·exact h (.inl hkp)
  ·simp only[find]at hf;split at hf
   ·rename_i e;subst e;cases hf;exact⟨by decide,trivial,hI.1⟩
   ·cases hf
  ·simp only[find]at hf hf';split at hf
   ·split at hf'
    ·rename_i e1 e2;exact absurd (e1.symm.trans e2) hne
    ·cases hf'
   ·cases hf
end
def jch (gU:List (List NC)) (od:List Int):List Int:=jjG gU od (List.replicate gU.length 0) od.length
def inN (n:Nat) (x:Int):Bool:=decide (0≤x)&&decide (x<(n:Int))
def jeB (gU:List (List NC)) (od:List Int):Bool:=decide (gU.length≤1000000)&&decide (od.length≤1000000)&&od.all (inN gU.length)&&(jch gU od).all (inN 1000000)&&(List.range gU.length).all fun i=>decide (((nL gU i 2).length:Int)<9223372036854775807)&&(needL (nL gU i 2) (nI gU i 7)).all (inN gU.length)
def jbb (nm:ByteArray) (gU:List (List NC)):Option (List (List Int) × Int) :=
 if jda nm gU=true then(jbU nm gU).bind fun e=>some ([],nzI e)
 else(jbL nm gU).bind fun od=>if jeB gU od=true then some (jbP (jch gU od) (jch gU od).length,0)else none
def jpj:List SV:=[.a [.d,.x (.st [.s,.i .i64,.ints .i64,.ints .i64,.ints .i64,.i .i64,.recs 5,.i .i64] [])]]
def jjP:List Lf→Option GT
 |[.d (.s nm),.x (.st [.s,.i .i64,.ints .i64,.ints .i64,.ints .i64,.i .i64,.recs 5,.i .i64] gU)]=>some (.leaf (ok (jbb nm gU)) (rsS (val (jbb nm gU)).1 (val (jbb nm gU)).2))
 |_=>none
abbrev sp_27:jaa→jaa:=jaH 27 true (jal jpj jjP)
theorem jgz {n:Nat} {x:Int}:inN n x=true↔0≤x∧x<(n:Int):=by
 unfold inN;rw[Bool.and_eq_true,decide_eq_true_eq,decide_eq_true_eq]
theorem jCA {l:List Int} {P:Int→Bool} (h:l.all P=true) {i:Nat} (hi:i<l.length):P (l.getD i 0)=true:=by
 rw[List.getD_eq_getElem?_getD,List.getElem?_eq_getElem hi];exact List.all_eq_true.1 h _ (List.getElem_mem hi)
theorem jmX {gU:List (List NC)} {od:List Int} (h:jeB gU od=true):gU.length≤1000000∧od.length≤1000000∧(∀x∈od,0≤x∧x<(gU.length:Int))∧(∀i,i<(jch gU od).length→0≤(jch gU od).getD i 0∧(jch gU od).getD i 0<1000000) ∧
  (∀i:Nat,i<gU.length→((nL gU i 2).length:Int)<9223372036854775807)∧∀i:Nat,i<gU.length→∀x∈needL (nL gU i 2) (nI gU i 7),0≤x∧x<(gU.length:Int):=by
 unfold jeB at h;simp only[Bool.and_eq_true,decide_eq_true_eq]at h;obtain⟨⟨⟨⟨h1,h2⟩,h3⟩,h4⟩,h5⟩:=h;have h6:∀i:Nat,i<gU.length→_:=fun i hi=>List.all_eq_true.1 h5 i (List.mem_range.2 hi);simp only[Bool.and_eq_true,decide_eq_true_eq]at h6;exact⟨h1,h2,fun x hx=>jgz.1 (List.all_eq_true.1 h3 x hx),fun i hi=>jgz.1 (jCA h4 hi),fun i hi=>(h6 i hi).1,fun i hi x hx=>jgz.1 (List.all_eq_true.1 (h6 i hi).2 x hx)⟩
theorem jpk {p q:Prop} (h:p→q):∀(l:List (Prop × Sx.W)),jfD l p→jfD l q
 |[],k=>h k
 |_::l,k=>⟨k.1,jpk h l k.2⟩
set_option maxHeartbeats 2000000 in
theorem jtu (nm:ByteArray) (gU:List (List NC)) (ho:ok (jbb nm gU)) (ρ0:Env) (w:World) (hh:HRel ρ0 (kd fun k=>k<w.heap.size) [(0,.xext (.st shG gU))] 1 w) :
  Calls Tryz.prog 27 #[(V.w (.a [.d (.s nm),.o 0])).val ρ0] w (RS ρ0 w (rsS (val (jbb nm gU)).1 (val (jbb nm gU)).2)):=by
 refine callsIn_wide.1 (callsIn_of_wp_marks (n:=9) (c:=sgB) Tryz.func27 (by kernel_rfl) trivial (wpIn_wide.2 ?_) rfl);have hrel:=jdj (n0:=1) (N:=78) (args:=[.w (.a [.d (.s nm),.o 0])]) (Nat.le_of_ble_eq_true rfl) (fun x hx=>by simp only[List.mem_singleton]at hx;subst hx;intro c hc;simp only[List.mem_cons,List.not_mem_nil,or_false]at hc;rcases hc with rfl|rfl;trivial;exact Nat.lt_succ_self 0) (Nat.le_refl _) ρ0 w hh (fun k hk=>jaW.1 hk)
 have hvc:sx Tryz.prog spS 78 1 0 (fun _ _ _=>none) (jb1 Tryz.prog spS 78) (jlr 5 sgB) 0 [] ⟨jbZ 0 [.w (.a [.d (.s nm),.o 0])],[(0,.xext (.st shG gU))],1⟩ (kH nm gU fun v=>jda nm gU=true∧v=okV (nzI (val (jbU nm gU)))):=by
  refine sH_vc nm gU _ (fun h=>⟨?_,h,rfl⟩) fun h=>?_
  ·unfold jbb at ho;rw[if_pos h]at ho;exact(by cases hq:jbU nm gU<;>rw[hq]at ho<;>first|exact ho|rfl)
  ·unfold jbb at ho;rw[if_neg (by rw[h];simp)]at ho;cases hq:jbL nm gU with
   |none=>rw[hq]at ho;cases ho
   |some od =>
    rw[hq]at ho;refine⟨rfl,?_⟩;cases hk:jeB gU od with
    |true=>exact(jmX hk).1
    |false =>
     have ho:ok (if jeB gU od=true then some (jbP (jch gU od) (jch gU od).length,(0:Int))else none):=ho;rw[hk]at ho;cases ho
 refine jvw jfK (jbx mixed jfK) (cur:=0) (gs:=[]) 5 sgB _ ρ0 _ w (by kernel_rfl) hvc hrel (jae.refl _ _) (Bel.refl _ _) ?_ ?_
 ·rintro ρ1 st1 a1 w1 ⟨hE,hle⟩ hr1 hag1 hbl1
  obtain⟨od,hod,hok,hval⟩:∃od,jbL nm gU=some od∧jeB gU od=true∧val (jbb nm gU)=(jbP (jch gU od) (jch gU od).length,0):=by
   unfold jbb at ho ⊢;rw[if_neg (by rw[hE];simp)]at ho ⊢;cases hq:jbL nm gU with
   |none=>rw[hq]at ho;cases ho
   |some od =>
    rw[hq]at ho;cases hk:jeB gU od with
    |true =>
     refine⟨od,rfl,hk,?_⟩
     show val (if jeB gU od=true then some (jbP (jch gU od) (jch gU od).length,(0:Int))else none)=_
     rw[if_pos hk];rfl
    |false =>
     have ho:ok (if jeB gU od=true then some (jbP (jch gU od) (jch gU od).length,(0:Int))else none):=ho;rw[hk]at ho;cases ho
  rw[hod]at hle;have hle:Le 1 st1 (stH nm gU od):=hle;obtain⟨f1,f2,f3,f4,f5,f6⟩:=jmX hok;rw[hval];obtain⟨ρ2,hr2,hag2⟩:=hle.rel hr1;have hB:mB w []=kd fun k=>k<w.heap.size:=by simp[mB]
  have hT:js9 5 sgB=.seq (.seq sgR0 (.block 0 (.loop sgL))) sgT:=by kernel_rfl
  have hO:jfa ρ0 w (stH nm gU od) a1 w1:=⟨ρ2,[],by rw[hB];exact hr2,⟨List.nodup_nil,fun D hD=>by cases hD⟩,fun x hx=>(hag2 x hx).trans (hag1 x hx),hbl1⟩
  rw[hT];refine(wpIn_wide (n:=9)).1 (wpIn_seq (wpIn_seq (wpIn_mono (wpIn_wide.2 (hO.piece (s0_vc nm gU od))) ?_)));rintro e a2 w2 ⟨rfl,ho2⟩;refine jz4 (by omega) (by simp) f3 f5 f6 ho2 fun a3 w3 ho3=>?_;obtain⟨ρ3,l,hr3,hm3,hag3,hbl3⟩:=ho3
  have hr4:RelD (l.map mk1) ρ3 (mB w l) 78 1 ⟨tmO od od.length,hpO nm gU od (jch gU od),6⟩ a3 w3:=⟨fun t v hv=>hr3.tm t v (by
   have h31:t≠31:=fun e=>by subst e;simp[tmO,jav]at hv
   simp only[jav,if_neg (Ne.symm h31)];exact hv),hr3.size,hr3.defers,hr3.heap,hr3.le,hr3.n0⟩
  refine wpIn_wide.2 (wp_mono (ja6 jfK (jbx mixed jfK) sgT 0 [] _ _ ρ3 a3 w3 (sT_vc (od:=od) (nm:=nm) (gU:=gU) (s:=jch gU od) (X:=fun v hp nx=>v=.t [.c (.o 2),.c (.d (.i .i64 0))]∧hp=hpT gU (jch gU od) (jbP (jch gU od) (jch gU od).length)∧nx=3) (fun i hi=>(f4 i hi).1) (fun i hi=>by have:=f4 i hi;omega) (by unfold jch;rw[jnz,List.length_replicate];exact f1) ⟨rfl,rfl,rfl⟩) hr4 (jae.refl _ _) (Bel.refl _ _)) ?_);rintro e a4 w4 ⟨ex,ρ4,st4,rfl,hk4,hr5,hag4,hbl4⟩;have hm4:=hm3.bel hbl4;have hagA:jae 1 ρ0 ρ4:=fun x hx=>(hag4 x hx).trans (hag3 x hx);have hblA:Bel (fun k=>k<w.heap.size) w w4:=hbl3.trans (jta hbl4);cases ex with
  |normal=>exact jy2 hr5 hm4 hagA hblA hk4
  |ret=>exact jy2 hr5 hm4 hagA hblA hk4
  |exit j=>exact hk4.elim
 ·intro ex ρ1 st1 a1 w1 hne hk1 hr1 hag1 hbl1;cases ex with
  |normal=>exact absurd rfl hne
  |exit j=>exact hk1.elim
  |ret =>
   have hk2:jcb Tryz.prog Tryz.f27.results.toList (fun v _ _=>jda nm gU=true∧v=okV (nzI (val (jbU nm gU)))) .ret st1:=hk1;obtain⟨u2,u3,⟨hE,_⟩,_⟩:=jxf hr1 hk2
   have hval:val (jbb nm gU)=([],nzI (val (jbU nm gU))):=by
    unfold jbb at ho ⊢;rw[if_pos hE]at ho ⊢;cases hq:jbU nm gU with
    |none=>rw[hq]at ho;cases ho
    |some e=>rfl
   rw[hval];refine jBA hr1 hag1 hbl1 ?_;unfold jcb at hk2 ⊢;dsimp only at hk2 ⊢;split at hk2
   ·rename_i l hl;exact jpk (fun h=>h.2) l hk2
   ·exact hk2
theorem juU:jaf Tryz.prog 27 true (jal jpj jjP):=by
 refine jqv (body:=bodyOf Tryz.f27) Tryz.func27 (by kernel_rfl) (by kernel_rfl) ?_;intro ls t hg ho b hb ρ0 w hlt hh;unfold jjP at hg;split at hg
 ·rename_i nm gU;cases hg;obtain rfl:=jaM hb;exact jtu nm gU ho ρ0 w hh
 ·cases hg
theorem sp_27_ok {sp:jaa} (h:jac Tryz.prog sp):jac Tryz.prog (sp_27 sp):=jas juU h
end Go.Sh
end

section
namespace Go.Sh
open Go Go.Proofs Go.RowKit Go.Sx
open Go.IntKind (wrap)
def jhe:List SV:=[.c (.p [.p [.d,.x (.st [.s,.i .i64,.ints .i64,.ints .i64,.ints .i64,.i .i64,.recs 5,.i .i64] []),.r (.ints .i64 [])],.d,.x (.ff .f32 []),.x (.rr 4 []),.r (.frs .f32 32 []),.r (.ints .i64 []),.r (.frs .f32 32 []),.x (.rr 4 []),.r (.ints .i64 [])]),.c (.d),.c (.d)]
def jqf (u17:ByteArray) (u18:List (List NC)) (u19:List Int) (u16:Int) (u20:List (List Nat)) (u21:List (List (List Int))) (u22:List (List Nat)) (u23:List Int) (u24:List (List Nat)) (u25:List (List (List Int))) (u26:List Int) (u36:Int) (k:Int):Option Int :=
 if k<0 then
  if 0≤u36∧u36<(↑u20.length:Int)then
  if Int.toNat u36<List.length u20 then
   if 0≤wrap .i64 (128+k)∧wrap .i64 (128+k)<(↑(List.length (List.getD u20 u36.toNat [])):Int)then
   if Int.toNat (wrap .i64 (128+k))<List.length (List.getD u20 u36.toNat [])then
    if jn1 .f32 .i64 (List.getD (List.getD u20 u36.toNat []) (Int.toNat (wrap .i64 (128+k))) (0:Nat))=true then
    some (f2i .f32 (List.getD (List.getD u20 u36.toNat []) (Int.toNat (wrap .i64 (128+k))) (0:Nat)))
    else none
   else none
   else none
  else none
  else none
 else
  if 0≤u36∧u36<(↑u24.length:Int)then
  if 0≤k∧k<(↑(32:Nat):Int)then
   if Int.toNat u36<List.length u24∧0+Int.toNat k*1<32 then
   if jn1 .f32 .i64 (List.getD (List.getD u24 u36.toNat []) (0+Int.toNat k*1) (0:Nat))=true then
    some (f2i .f32 (List.getD (List.getD u24 u36.toNat []) (0+Int.toNat k*1) (0:Nat)))
   else none
   else none
  else none
  else none
def jhf:List Lf→Option GT
 |[.d (.s u17),.x (.st [.s,.i .i64,.ints .i64,.ints .i64,.ints .i64,.i .i64,.recs 5,.i .i64] u18),.r (.ints .i64 u19),.d (.i .i64 u16),.x (.ff .f32 u20),.x (.rr 4 u21),.r (.frs .f32 32 u22),.r (.ints .i64 u23),.r (.frs .f32 32 u24),.x (.rr 4 u25),.r (.ints .i64 u26),.d (.i .i64 u36),.d (.i .i64 k)]=>some (.leaf (ok (jqf u17 u18 u19 u16 u20 u21 u22 u23 u24 u25 u26 u36 k)) [.c (.d (.i .i64 ((val (jqf u17 u18 u19 u16 u20 u21 u22 u23 u24 u25 u26 u36 k)))))])
 |_=>none
abbrev sp_149:jaa→jaa:=jaH 149 true (jal jhe jhf)
def jtv (u17:ByteArray) (u18:List (List NC)) (u19:List Int) (u16:Int) (u20:List (List Nat)) (u21:List (List (List Int))) (u22:List (List Nat)) (u23:List Int) (u24:List (List Nat)) (u25:List (List (List Int))) (u26:List Int) (u36:Int) (k:Int) (r:Int):Sk (top r) (jqf u17 u18 u19 u16 u20 u21 u22 u23 u24 u25 u26 u36 k) :=
 .br
 (.obT (.ob (.ob (.ob (.ob (.ob (.obT (.rc))))))))
 (.obT (.ob (.ob (.ob (.ob (.obT (.rc)))))))
theorem jrx (u17:ByteArray) (u18:List (List NC)) (u19:List Int) (u16:Int) (u20:List (List Nat)) (u21:List (List (List Int))) (u22:List (List Nat)) (u23:List Int) (u24:List (List Nat)) (u25:List (List (List Int))) (u26:List Int) (u36:Int) (k:Int) (r:Int) (h:Option.bind (jqf u17 u18 u19 u16 u20 u21 u22 u23 u24 u25 u26 u36 k) some=some r):jbg Tryz.f149 (sp0) (fun _ _ _=>none) (ja8 jhe [.d (.s u17),.x (.st [.s,.i .i64,.ints .i64,.ints .i64,.ints .i64,.i .i64,.recs 5,.i .i64] u18),.r (.ints .i64 u19),.d (.i .i64 u16),.x (.ff .f32 u20),.x (.rr 4 u21),.r (.frs .f32 32 u22),.r (.ints .i64 u23),.r (.frs .f32 32 u24),.x (.rr 4 u25),.r (.ints .i64 u26),.d (.i .i64 u36),.d (.i .i64 k)]) [.c (.d (.i .i64 r))] :=
 Sk.vc (jtv u17 u18 u19 u16 u20 u21 u22 u23 u24 u25 u26 u36 k r) (by kernel_rfl) h
theorem jry:jaf Tryz.prog 149 true (jal jhe jhf):=by
 refine jaA (sp:=sp0) (fn:=Tryz.f149) (body:=bodyOf Tryz.f149) mixed jau Tryz.func149 (by kernel_rfl) (by kernel_rfl) fun ls t h ho b hb=>?_;unfold jhf at h;split at h
 ·rename_i u17 u18 u19 u16 u20 u21 u22 u23 u24 u25 u26 u36 k;cases h;obtain rfl:=jaM hb;exact⟨Nat.le_of_ble_eq_true (by kernel_rfl),_,_,jrx u17 u18 u19 u16 u20 u21 u22 u23 u24 u25 u26 u36 k _ (jaq ho)⟩
 ·cases h
theorem sp_149_ok {sp:jaa} (h:jac Tryz.prog sp):jac Tryz.prog (sp_149 sp):=jas jry h
end Go.Sh
end

section
namespace Go.Sh
open Go Go.Proofs Go.RowKit Go.Sx
open Go.IntKind (wrap)
def jeC:List SV:=[.c (.p [.p [.d,.x (.st [.s,.i .i64,.ints .i64,.ints .i64,.ints .i64,.i .i64,.recs 5,.i .i64] []),.r (.ints .i64 [])],.d,.x (.ff .f32 []),.x (.rr 4 []),.r (.frs .f32 32 []),.r (.ints .i64 []),.r (.frs .f32 32 []),.x (.rr 4 []),.r (.ints .i64 [])]),.a [.d,.d,.r (.ints .i64 []),.r (.ints .i64 []),.r (.ints .i64 []),.d,.r (.recs 5 []),.d],.c (.d),.c (.d)]
def jdZ (u17:ByteArray) (u18:List (List NC)) (u19:List Int) (u16:Int) (u20:List (List Nat)) (u21:List (List (List Int))) (u22:List (List Nat)) (u23:List Int) (u24:List (List Nat)) (u25:List (List (List Int))) (u26:List Int) (u12:List Int) (u11:List Int) (u41:Int) (u42:Int) (x0:(Int × Int × Int × Int × Int × Int × Int × Int × Int × Int × Int × Int × Int × Int × Int × Int × Int × Int × Int × Int × Int × Int × Int × Int × Int × Int × Int × Int × Int × Int × Int × Int × Int)):Option ((Int × Int × Int × Int × Int × Int × Int × Int × Int × Int × Int × Int × Int × Int × Int × Int × Int × Int × Int × Int × Int × Int × Int × Int × Int × Int × Int × Int × Int × Int × Int × Int × Int) ⊕ (Int × Int × Int × Int × Int × Int × Int × Int × Int × Int × Int × Int × Int × Int × Int × Int × Int × Int × Int × Int × Int × Int × Int × Int × Int × Int × Int × Int × Int × Int × Int × Int)) :=
 if x0.1<32 then
  if 0≤u41∧u41<(↑u12.length:Int)then
  if Int.toNat u41<List.length u12 then
   if 0≤u41∧u41<(↑u11.length:Int)then
   if Int.toNat u41<List.length u11 then
    Option.bind (jqf u17 u18 u19 u16 u20 u21 u22 u23 u24 u25 u26 (List.getD u12 u41.toNat (0:Int)) (wrap .i64 (wrap .i64 (x0.1-List.getD u11 u41.toNat (0:Int))-u42))) fun r0 =>
    if 0≤x0.1∧x0.1<(↑(32:Nat):Int)then
    if List.getD [true,true,true,true,true,true,true,true,true,true,true,true,true,true,true,true,true,true,true,true,true,true,true,true,true,true,true,true,true,true,true,true] (0+Int.toNat x0.1*1) false=true then
     some (.inl ((wrap .i64 (x0.1+1),bif Nat.beq (0+Int.toNat x0.1*1) 0 then r0 else x0.2.1,bif Nat.beq (0+Int.toNat x0.1*1) 1 then r0 else x0.2.2.1,bif Nat.beq (0+Int.toNat x0.1*1) 2 then r0 else x0.2.2.2.1,bif Nat.beq (0+Int.toNat x0.1*1) 3 then r0 else x0.2.2.2.2.1,bif Nat.beq (0+Int.toNat x0.1*1) 4 then r0 else x0.2.2.2.2.2.1,bif Nat.beq (0+Int.toNat x0.1*1) 5 then r0 else x0.2.2.2.2.2.2.1,bif Nat.beq (0+Int.toNat x0.1*1) 6 then r0 else x0.2.2.2.2.2.2.2.1,bif Nat.beq (0+Int.toNat x0.1*1) 7 then r0 else x0.2.2.2.2.2.2.2.2.1,bif Nat.beq (0+Int.toNat x0.1*1) 8 then r0 else x0.2.2.2.2.2.2.2.2.2.1,bif Nat.beq (0+Int.toNat x0.1*1) 9 then r0 else x0.2.2.2.2.2.2.2.2.2.2.1,bif Nat.beq (0+Int.toNat x0.1*1) 10 then r0 else x0.2.2.2.2.2.2.2.2.2.2.2.1,bif Nat.beq (0+Int.toNat x0.1*1) 11 then r0 else x0.2.2.2.2.2.2.2.2.2.2.2.2.1,bif Nat.beq (0+Int.toNat x0.1*1) 12 then r0 else x0.2.2.2.2.2.2.2.2.2.2.2.2.2.1,bif Nat.beq (0+Int.toNat x0.1*1) 13 then r0 else x0.2.2.2.2.2.2.2.2.2.2.2.2.2.2.1,bif Nat.beq (0+Int.toNat x0.1*1) 14 then r0 else x0.2.2.2.2.2.2.2.2.2.2.2.2.2.2.2.1,bif Nat.beq (0+Int.toNat x0.1*1) 15 then r0 else x0.2.2.2.2.2.2.2.2.2.2.2.2.2.2.2.2.1,bif Nat.beq (0+Int.toNat x0.1*1) 16 then r0 else x0.2.2.2.2.2.2.2.2.2.2.2.2.2.2.2.2.2.1,bif Nat.beq (0+Int.toNat x0.1*1) 17 then r0 else x0.2.2.2.2.2.2.2.2.2.2.2.2.2.2.2.2.2.2.1,bif Nat.beq (0+Int.toNat x0.1*1) 18 then r0 else x0.2.2.2.2.2.2.2.2.2.2.2.2.2.2.2.2.2.2.2.1,bif Nat.beq (0+Int.toNat x0.1*1) 19 then r0 else x0.2.2.2.2.2.2.2.2.2.2.2.2.2.2.2.2.2.2.2.2.1,bif Nat.beq (0+Int.toNat x0.1*1) 20 then r0 else x0.2.2.2.2.2.2.2.2.2.2.2.2.2.2.2.2.2.2.2.2.2.1,bif Nat.beq (0+Int.toNat x0.1*1) 21 then r0 else x0.2.2.2.2.2.2.2.2.2.2.2.2.2.2.2.2.2.2.2.2.2.2.1,bif Nat.beq (0+Int.toNat x0.1*1) 22 then r0 else x0.2.2.2.2.2.2.2.2.2.2.2.2.2.2.2.2.2.2.2.2.2.2.2.1,bif Nat.beq (0+Int.toNat x0.1*1) 23 then r0 else x0.2.2.2.2.2.2.2.2.2.2.2.2.2.2.2.2.2.2.2.2.2.2.2.2.1,bif Nat.beq (0+Int.toNat x0.1*1) 24 then r0 else x0.2.2.2.2.2.2.2.2.2.2.2.2.2.2.2.2.2.2.2.2.2.2.2.2.2.1,bif Nat.beq (0+Int.toNat x0.1*1) 25 then r0 else x0.2.2.2.2.2.2.2.2.2.2.2.2.2.2.2.2.2.2.2.2.2.2.2.2.2.2.1,bif Nat.beq (0+Int.toNat x0.1*1) 26 then r0 else x0.2.2.2.2.2.2.2.2.2.2.2.2.2.2.2.2.2.2.2.2.2.2.2.2.2.2.2.1,bif Nat.beq (0+Int.toNat x0.1*1) 27 then r0 else x0.2.2.2.2.2.2.2.2.2.2.2.2.2.2.2.2.2.2.2.2.2.2.2.2.2.2.2.2.1,bif Nat.beq (0+Int.toNat x0.1*1) 28 then r0 else x0.2.2.2.2.2.2.2.2.2.2.2.2.2.2.2.2.2.2.2.2.2.2.2.2.2.2.2.2.2.1,bif Nat.beq (0+Int.toNat x0.1*1) 29 then r0 else x0.2.2.2.2.2.2.2.2.2.2.2.2.2.2.2.2.2.2.2.2.2.2.2.2.2.2.2.2.2.2.1,bif Nat.beq (0+Int.toNat x0.1*1) 30 then r0 else x0.2.2.2.2.2.2.2.2.2.2.2.2.2.2.2.2.2.2.2.2.2.2.2.2.2.2.2.2.2.2.2.1,bif Nat.beq (0+Int.toNat x0.1*1) 31 then r0 else x0.2.2.2.2.2.2.2.2.2.2.2.2.2.2.2.2.2.2.2.2.2.2.2.2.2.2.2.2.2.2.2.2)))
    else none
    else none
   else none
   else none
  else none
  else none
 else
  some (.inr (x0.2.1,x0.2.2.1,x0.2.2.2.1,x0.2.2.2.2.1,x0.2.2.2.2.2.1,x0.2.2.2.2.2.2.1,x0.2.2.2.2.2.2.2.1,x0.2.2.2.2.2.2.2.2.1,x0.2.2.2.2.2.2.2.2.2.1,x0.2.2.2.2.2.2.2.2.2.2.1,x0.2.2.2.2.2.2.2.2.2.2.2.1,x0.2.2.2.2.2.2.2.2.2.2.2.2.1,x0.2.2.2.2.2.2.2.2.2.2.2.2.2.1,x0.2.2.2.2.2.2.2.2.2.2.2.2.2.2.1,x0.2.2.2.2.2.2.2.2.2.2.2.2.2.2.2.1,x0.2.2.2.2.2.2.2.2.2.2.2.2.2.2.2.2.1,x0.2.2.2.2.2.2.2.2.2.2.2.2.2.2.2.2.2.1,x0.2.2.2.2.2.2.2.2.2.2.2.2.2.2.2.2.2.2.1,x0.2.2.2.2.2.2.2.2.2.2.2.2.2.2.2.2.2.2.2.1,x0.2.2.2.2.2.2.2.2.2.2.2.2.2.2.2.2.2.2.2.2.1,x0.2.2.2.2.2.2.2.2.2.2.2.2.2.2.2.2.2.2.2.2.2.1,x0.2.2.2.2.2.2.2.2.2.2.2.2.2.2.2.2.2.2.2.2.2.2.1,x0.2.2.2.2.2.2.2.2.2.2.2.2.2.2.2.2.2.2.2.2.2.2.2.1,x0.2.2.2.2.2.2.2.2.2.2.2.2.2.2.2.2.2.2.2.2.2.2.2.2.1,x0.2.2.2.2.2.2.2.2.2.2.2.2.2.2.2.2.2.2.2.2.2.2.2.2.2.1,x0.2.2.2.2.2.2.2.2.2.2.2.2.2.2.2.2.2.2.2.2.2.2.2.2.2.2.1,x0.2.2.2.2.2.2.2.2.2.2.2.2.2.2.2.2.2.2.2.2.2.2.2.2.2.2.2.1,x0.2.2.2.2.2.2.2.2.2.2.2.2.2.2.2.2.2.2.2.2.2.2.2.2.2.2.2.2.1,x0.2.2.2.2.2.2.2.2.2.2.2.2.2.2.2.2.2.2.2.2.2.2.2.2.2.2.2.2.2.1,x0.2.2.2.2.2.2.2.2.2.2.2.2.2.2.2.2.2.2.2.2.2.2.2.2.2.2.2.2.2.2.1,x0.2.2.2.2.2.2.2.2.2.2.2.2.2.2.2.2.2.2.2.2.2.2.2.2.2.2.2.2.2.2.2.1,x0.2.2.2.2.2.2.2.2.2.2.2.2.2.2.2.2.2.2.2.2.2.2.2.2.2.2.2.2.2.2.2.2))
def jd0 (u5:Int × Int × Int × Int × Int × Int × Int × Int × Int × Int × Int × Int × Int × Int × Int × Int × Int × Int × Int × Int × Int × Int × Int × Int × Int × Int × Int × Int × Int × Int × Int × Int):Option (Int × Int × Int × Int × Int × Int × Int × Int × Int × Int × Int × Int × Int × Int × Int × Int × Int × Int × Int × Int × Int × Int × Int × Int × Int × Int × Int × Int × Int × Int × Int × Int) :=
 some (u5.1,u5.2.1,u5.2.2.1,u5.2.2.2.1,u5.2.2.2.2.1,u5.2.2.2.2.2.1,u5.2.2.2.2.2.2.1,u5.2.2.2.2.2.2.2.1,u5.2.2.2.2.2.2.2.2.1,u5.2.2.2.2.2.2.2.2.2.1,u5.2.2.2.2.2.2.2.2.2.2.1,u5.2.2.2.2.2.2.2.2.2.2.2.1,u5.2.2.2.2.2.2.2.2.2.2.2.2.1,u5.2.2.2.2.2.2.2.2.2.2.2.2.2.1,u5.2.2.2.2.2.2.2.2.2.2.2.2.2.2.1,u5.2.2.2.2.2.2.2.2.2.2.2.2.2.2.2.1,u5.2.2.2.2.2.2.2.2.2.2.2.2.2.2.2.2.1,u5.2.2.2.2.2.2.2.2.2.2.2.2.2.2.2.2.2.1,u5.2.2.2.2.2.2.2.2.2.2.2.2.2.2.2.2.2.2.1,u5.2.2.2.2.2.2.2.2.2.2.2.2.2.2.2.2.2.2.2.1,u5.2.2.2.2.2.2.2.2.2.2.2.2.2.2.2.2.2.2.2.2.1,u5.2.2.2.2.2.2.2.2.2.2.2.2.2.2.2.2.2.2.2.2.2.1,u5.2.2.2.2.2.2.2.2.2.2.2.2.2.2.2.2.2.2.2.2.2.2.1,u5.2.2.2.2.2.2.2.2.2.2.2.2.2.2.2.2.2.2.2.2.2.2.2.1,u5.2.2.2.2.2.2.2.2.2.2.2.2.2.2.2.2.2.2.2.2.2.2.2.2.1,u5.2.2.2.2.2.2.2.2.2.2.2.2.2.2.2.2.2.2.2.2.2.2.2.2.2.1,u5.2.2.2.2.2.2.2.2.2.2.2.2.2.2.2.2.2.2.2.2.2.2.2.2.2.2.1,u5.2.2.2.2.2.2.2.2.2.2.2.2.2.2.2.2.2.2.2.2.2.2.2.2.2.2.2.1,u5.2.2.2.2.2.2.2.2.2.2.2.2.2.2.2.2.2.2.2.2.2.2.2.2.2.2.2.2.1,u5.2.2.2.2.2.2.2.2.2.2.2.2.2.2.2.2.2.2.2.2.2.2.2.2.2.2.2.2.2.1,u5.2.2.2.2.2.2.2.2.2.2.2.2.2.2.2.2.2.2.2.2.2.2.2.2.2.2.2.2.2.2.1,u5.2.2.2.2.2.2.2.2.2.2.2.2.2.2.2.2.2.2.2.2.2.2.2.2.2.2.2.2.2.2.2)
def jag (u17:ByteArray) (u18:List (List NC)) (u19:List Int) (u16:Int) (u20:List (List Nat)) (u21:List (List (List Int))) (u22:List (List Nat)) (u23:List Int) (u24:List (List Nat)) (u25:List (List (List Int))) (u26:List Int) (u13:ByteArray) (u7:Int) (u12:List Int) (u11:List Int) (u10:List Int) (u9:Int) (u14:List (List Int)) (u15:Int) (u41:Int) (u42:Int):Option (Int × Int × Int × Int × Int × Int × Int × Int × Int × Int × Int × Int × Int × Int × Int × Int × Int × Int × Int × Int × Int × Int × Int × Int × Int × Int × Int × Int × Int × Int × Int × Int) :=
 Option.bind (jak (jdZ u17 u18 u19 u16 u20 u21 u22 u23 u24 u25 u26 u12 u11 u41 u42) big (((0:Int),0,0,0,0,0,0,0,0,0,0,0,0,0,0,0,0,0,0,0,0,0,0,0,0,0,0,0,0,0,0,0,0))) (jd0)
def jeD:List Lf→Option GT
 |[.d (.s u17),.x (.st [.s,.i .i64,.ints .i64,.ints .i64,.ints .i64,.i .i64,.recs 5,.i .i64] u18),.r (.ints .i64 u19),.d (.i .i64 u16),.x (.ff .f32 u20),.x (.rr 4 u21),.r (.frs .f32 32 u22),.r (.ints .i64 u23),.r (.frs .f32 32 u24),.x (.rr 4 u25),.r (.ints .i64 u26),.d (.s u13),.d (.i .i64 u7),.r (.ints .i64 u12),.r (.ints .i64 u11),.r (.ints .i64 u10),.d (.i .i64 u9),.r (.recs 5 u14),.d (.i .i64 u15),.d (.i .i64 u41),.d (.i .i64 u42)]=>some (.leaf (ok (jag u17 u18 u19 u16 u20 u21 u22 u23 u24 u25 u26 u13 u7 u12 u11 u10 u9 u14 u15 u41 u42)) [.s [.d (.i .i64 ((val (jag u17 u18 u19 u16 u20 u21 u22 u23 u24 u25 u26 u13 u7 u12 u11 u10 u9 u14 u15 u41 u42)).1)),.d (.i .i64 ((val (jag u17 u18 u19 u16 u20 u21 u22 u23 u24 u25 u26 u13 u7 u12 u11 u10 u9 u14 u15 u41 u42)).2.1)),.d (.i .i64 ((val (jag u17 u18 u19 u16 u20 u21 u22 u23 u24 u25 u26 u13 u7 u12 u11 u10 u9 u14 u15 u41 u42)).2.2.1)),.d (.i .i64 ((val (jag u17 u18 u19 u16 u20 u21 u22 u23 u24 u25 u26 u13 u7 u12 u11 u10 u9 u14 u15 u41 u42)).2.2.2.1)),.d (.i .i64 ((val (jag u17 u18 u19 u16 u20 u21 u22 u23 u24 u25 u26 u13 u7 u12 u11 u10 u9 u14 u15 u41 u42)).2.2.2.2.1)),.d (.i .i64 ((val (jag u17 u18 u19 u16 u20 u21 u22 u23 u24 u25 u26 u13 u7 u12 u11 u10 u9 u14 u15 u41 u42)).2.2.2.2.2.1)),.d (.i .i64 ((val (jag u17 u18 u19 u16 u20 u21 u22 u23 u24 u25 u26 u13 u7 u12 u11 u10 u9 u14 u15 u41 u42)).2.2.2.2.2.2.1)),.d (.i .i64 ((val (jag u17 u18 u19 u16 u20 u21 u22 u23 u24 u25 u26 u13 u7 u12 u11 u10 u9 u14 u15 u41 u42)).2.2.2.2.2.2.2.1)),.d (.i .i64 ((val (jag u17 u18 u19 u16 u20 u21 u22 u23 u24 u25 u26 u13 u7 u12 u11 u10 u9 u14 u15 u41 u42)).2.2.2.2.2.2.2.2.1)),.d (.i .i64 ((val (jag u17 u18 u19 u16 u20 u21 u22 u23 u24 u25 u26 u13 u7 u12 u11 u10 u9 u14 u15 u41 u42)).2.2.2.2.2.2.2.2.2.1)),.d (.i .i64 ((val (jag u17 u18 u19 u16 u20 u21 u22 u23 u24 u25 u26 u13 u7 u12 u11 u10 u9 u14 u15 u41 u42)).2.2.2.2.2.2.2.2.2.2.1)),.d (.i .i64 ((val (jag u17 u18 u19 u16 u20 u21 u22 u23 u24 u25 u26 u13 u7 u12 u11 u10 u9 u14 u15 u41 u42)).2.2.2.2.2.2.2.2.2.2.2.1)),.d (.i .i64 ((val (jag u17 u18 u19 u16 u20 u21 u22 u23 u24 u25 u26 u13 u7 u12 u11 u10 u9 u14 u15 u41 u42)).2.2.2.2.2.2.2.2.2.2.2.2.1)),.d (.i .i64 ((val (jag u17 u18 u19 u16 u20 u21 u22 u23 u24 u25 u26 u13 u7 u12 u11 u10 u9 u14 u15 u41 u42)).2.2.2.2.2.2.2.2.2.2.2.2.2.1)),.d (.i .i64 ((val (jag u17 u18 u19 u16 u20 u21 u22 u23 u24 u25 u26 u13 u7 u12 u11 u10 u9 u14 u15 u41 u42)).2.2.2.2.2.2.2.2.2.2.2.2.2.2.1)),.d (.i .i64 ((val (jag u17 u18 u19 u16 u20 u21 u22 u23 u24 u25 u26 u13 u7 u12 u11 u10 u9 u14 u15 u41 u42)).2.2.2.2.2.2.2.2.2.2.2.2.2.2.2.1)),.d (.i .i64 ((val (jag u17 u18 u19 u16 u20 u21 u22 u23 u24 u25 u26 u13 u7 u12 u11 u10 u9 u14 u15 u41 u42)).2.2.2.2.2.2.2.2.2.2.2.2.2.2.2.2.1)),.d (.i .i64 ((val (jag u17 u18 u19 u16 u20 u21 u22 u23 u24 u25 u26 u13 u7 u12 u11 u10 u9 u14 u15 u41 u42)).2.2.2.2.2.2.2.2.2.2.2.2.2.2.2.2.2.1)),.d (.i .i64 ((val (jag u17 u18 u19 u16 u20 u21 u22 u23 u24 u25 u26 u13 u7 u12 u11 u10 u9 u14 u15 u41 u42)).2.2.2.2.2.2.2.2.2.2.2.2.2.2.2.2.2.2.1)),.d (.i .i64 ((val (jag u17 u18 u19 u16 u20 u21 u22 u23 u24 u25 u26 u13 u7 u12 u11 u10 u9 u14 u15 u41 u42)).2.2.2.2.2.2.2.2.2.2.2.2.2.2.2.2.2.2.2.1)),.d (.i .i64 ((val (jag u17 u18 u19 u16 u20 u21 u22 u23 u24 u25 u26 u13 u7 u12 u11 u10 u9 u14 u15 u41 u42)).2.2.2.2.2.2.2.2.2.2.2.2.2.2.2.2.2.2.2.2.1)),.d (.i .i64 ((val (jag u17 u18 u19 u16 u20 u21 u22 u23 u24 u25 u26 u13 u7 u12 u11 u10 u9 u14 u15 u41 u42)).2.2.2.2.2.2.2.2.2.2.2.2.2.2.2.2.2.2.2.2.2.1)),.d (.i .i64 ((val (jag u17 u18 u19 u16 u20 u21 u22 u23 u24 u25 u26 u13 u7 u12 u11 u10 u9 u14 u15 u41 u42)).2.2.2.2.2.2.2.2.2.2.2.2.2.2.2.2.2.2.2.2.2.2.1)),.d (.i .i64 ((val (jag u17 u18 u19 u16 u20 u21 u22 u23 u24 u25 u26 u13 u7 u12 u11 u10 u9 u14 u15 u41 u42)).2.2.2.2.2.2.2.2.2.2.2.2.2.2.2.2.2.2.2.2.2.2.2.1)),.d (.i .i64 ((val (jag u17 u18 u19 u16 u20 u21 u22 u23 u24 u25 u26 u13 u7 u12 u11 u10 u9 u14 u15 u41 u42)).2.2.2.2.2.2.2.2.2.2.2.2.2.2.2.2.2.2.2.2.2.2.2.2.1)),.d (.i .i64 ((val (jag u17 u18 u19 u16 u20 u21 u22 u23 u24 u25 u26 u13 u7 u12 u11 u10 u9 u14 u15 u41 u42)).2.2.2.2.2.2.2.2.2.2.2.2.2.2.2.2.2.2.2.2.2.2.2.2.2.1)),.d (.i .i64 ((val (jag u17 u18 u19 u16 u20 u21 u22 u23 u24 u25 u26 u13 u7 u12 u11 u10 u9 u14 u15 u41 u42)).2.2.2.2.2.2.2.2.2.2.2.2.2.2.2.2.2.2.2.2.2.2.2.2.2.2.1)),.d (.i .i64 ((val (jag u17 u18 u19 u16 u20 u21 u22 u23 u24 u25 u26 u13 u7 u12 u11 u10 u9 u14 u15 u41 u42)).2.2.2.2.2.2.2.2.2.2.2.2.2.2.2.2.2.2.2.2.2.2.2.2.2.2.2.1)),.d (.i .i64 ((val (jag u17 u18 u19 u16 u20 u21 u22 u23 u24 u25 u26 u13 u7 u12 u11 u10 u9 u14 u15 u41 u42)).2.2.2.2.2.2.2.2.2.2.2.2.2.2.2.2.2.2.2.2.2.2.2.2.2.2.2.2.1)),.d (.i .i64 ((val (jag u17 u18 u19 u16 u20 u21 u22 u23 u24 u25 u26 u13 u7 u12 u11 u10 u9 u14 u15 u41 u42)).2.2.2.2.2.2.2.2.2.2.2.2.2.2.2.2.2.2.2.2.2.2.2.2.2.2.2.2.2.1)),.d (.i .i64 ((val (jag u17 u18 u19 u16 u20 u21 u22 u23 u24 u25 u26 u13 u7 u12 u11 u10 u9 u14 u15 u41 u42)).2.2.2.2.2.2.2.2.2.2.2.2.2.2.2.2.2.2.2.2.2.2.2.2.2.2.2.2.2.2.1)),.d (.i .i64 ((val (jag u17 u18 u19 u16 u20 u21 u22 u23 u24 u25 u26 u13 u7 u12 u11 u10 u9 u14 u15 u41 u42)).2.2.2.2.2.2.2.2.2.2.2.2.2.2.2.2.2.2.2.2.2.2.2.2.2.2.2.2.2.2.2))]])
 |_=>none
abbrev jhg (u17:ByteArray) (u18:List (List NC)) (u19:List Int) (u16:Int) (u20:List (List Nat)) (u21:List (List (List Int))) (u22:List (List Nat)) (u23:List Int) (u24:List (List Nat)) (u25:List (List (List Int))) (u26:List Int) (u13:ByteArray) (u7:Int) (u12:List Int) (u11:List Int) (u10:List Int) (u9:Int) (u14:List (List Int)) (u15:Int) (u41:Int) (u42:Int) (r:Int × Int × Int × Int × Int × Int × Int × Int × Int × Int × Int × Int × Int × Int × Int × Int × Int × Int × Int × Int × Int × Int × Int × Int × Int × Int × Int × Int × Int × Int × Int × Int):Lp ((Int × Int × Int × Int × Int × Int × Int × Int × Int × Int × Int × Int × Int × Int × Int × Int × Int × Int × Int × Int × Int × Int × Int × Int × Int × Int × Int × Int × Int × Int × Int × Int × Int) × Nat) (Int × Int × Int × Int × Int × Int × Int × Int × Int × Int × Int × Int × Int × Int × Int × Int × Int × Int × Int × Int × Int × Int × Int × Int × Int × Int × Int × Int × Int × Int × Int × Int × Int) (Int × Int × Int × Int × Int × Int × Int × Int × Int × Int × Int × Int × Int × Int × Int × Int × Int × Int × Int × Int × Int × Int × Int × Int × Int × Int × Int × Int × Int × Int × Int × Int) (Int × Int × Int × Int × Int × Int × Int × Int × Int × Int × Int × Int × Int × Int × Int × Int × Int × Int × Int × Int × Int × Int × Int × Int × Int × Int × Int × Int × Int × Int × Int × Int) (Int × Int × Int × Int × Int × Int × Int × Int × Int × Int × Int × Int × Int × Int × Int × Int × Int × Int × Int × Int × Int × Int × Int × Int × Int × Int × Int × Int × Int × Int × Int × Int) :=
 ⟨fun z=>z.1,fun z=>z.2,fun z x n=>(x,n),fun z=>jdZ u17 u18 u19 u16 u20 u21 u22 u23 u24 u25 u26 u12 u11 u41 u42,fun z=>jd0,fun z=>top r,fun z=>0,[.c fun _=>0,.c fun _=>u41,.c fun _=>u42,.c fun _=>0,.c fun _=>0,.c fun _=>0,.c fun vv=>vv.1.1,.c fun _=>0,.c fun _=>u16,.c fun _=>u13,.c fun _=>u7,.c fun _=>u9,.c fun _=>u15,.c fun _=>(0:Int),.c fun _=>(0:Int),.c fun _=>(0:Int),.c fun _=>(0:Int),.c fun _=>(0:Int),.c fun _=>(0:Int),.c fun _=>(0:Int),.c fun _=>(0:Int),.c fun _=>(0:Int),.c fun _=>(0:Int),.c fun _=>(0:Int),.c fun _=>(0:Int),.c fun _=>(0:Int),.c fun _=>(0:Int),.c fun _=>(0:Int),.c fun _=>(0:Int),.c fun _=>(0:Int),.c fun _=>(0:Int),.c fun _=>(0:Int),.c fun _=>(0:Int),.c fun _=>(0:Int),.c fun _=>(0:Int),.c fun _=>(0:Int),.c fun _=>(0:Int),.c fun _=>(0:Int),.c fun _=>(0:Int),.c fun _=>(0:Int),.c fun _=>(0:Int),.c fun _=>(0:Int),.c fun _=>(0:Int),.c fun _=>(0:Int),.c fun _=>(0:Int),.c fun vv=>vv.1.2.1,.c fun vv=>vv.1.2.2.1,.c fun vv=>vv.1.2.2.2.1,.c fun vv=>vv.1.2.2.2.2.1,.c fun vv=>vv.1.2.2.2.2.2.1,.c fun vv=>vv.1.2.2.2.2.2.2.1,.c fun vv=>vv.1.2.2.2.2.2.2.2.1,.c fun vv=>vv.1.2.2.2.2.2.2.2.2.1,.c fun vv=>vv.1.2.2.2.2.2.2.2.2.2.1,.c fun vv=>vv.1.2.2.2.2.2.2.2.2.2.2.1,.c fun vv=>vv.1.2.2.2.2.2.2.2.2.2.2.2.1,.c fun vv=>vv.1.2.2.2.2.2.2.2.2.2.2.2.2.1,.c fun vv=>vv.1.2.2.2.2.2.2.2.2.2.2.2.2.2.1,.c fun vv=>vv.1.2.2.2.2.2.2.2.2.2.2.2.2.2.2.1,.c fun vv=>vv.1.2.2.2.2.2.2.2.2.2.2.2.2.2.2.2.1,.c fun vv=>vv.1.2.2.2.2.2.2.2.2.2.2.2.2.2.2.2.2.1,.c fun vv=>vv.1.2.2.2.2.2.2.2.2.2.2.2.2.2.2.2.2.2.1,.c fun vv=>vv.1.2.2.2.2.2.2.2.2.2.2.2.2.2.2.2.2.2.2.1,.c fun vv=>vv.1.2.2.2.2.2.2.2.2.2.2.2.2.2.2.2.2.2.2.2.1,.c fun vv=>vv.1.2.2.2.2.2.2.2.2.2.2.2.2.2.2.2.2.2.2.2.2.1,.c fun vv=>vv.1.2.2.2.2.2.2.2.2.2.2.2.2.2.2.2.2.2.2.2.2.2.1,.c fun vv=>vv.1.2.2.2.2.2.2.2.2.2.2.2.2.2.2.2.2.2.2.2.2.2.2.1,.c fun vv=>vv.1.2.2.2.2.2.2.2.2.2.2.2.2.2.2.2.2.2.2.2.2.2.2.2.1,.c fun vv=>vv.1.2.2.2.2.2.2.2.2.2.2.2.2.2.2.2.2.2.2.2.2.2.2.2.2.1,.c fun vv=>vv.1.2.2.2.2.2.2.2.2.2.2.2.2.2.2.2.2.2.2.2.2.2.2.2.2.2.1,.c fun vv=>vv.1.2.2.2.2.2.2.2.2.2.2.2.2.2.2.2.2.2.2.2.2.2.2.2.2.2.2.1,.c fun vv=>vv.1.2.2.2.2.2.2.2.2.2.2.2.2.2.2.2.2.2.2.2.2.2.2.2.2.2.2.2.1,.c fun vv=>vv.1.2.2.2.2.2.2.2.2.2.2.2.2.2.2.2.2.2.2.2.2.2.2.2.2.2.2.2.2.1,.c fun vv=>vv.1.2.2.2.2.2.2.2.2.2.2.2.2.2.2.2.2.2.2.2.2.2.2.2.2.2.2.2.2.2.1,.c fun vv=>vv.1.2.2.2.2.2.2.2.2.2.2.2.2.2.2.2.2.2.2.2.2.2.2.2.2.2.2.2.2.2.2.1,.c fun vv=>vv.1.2.2.2.2.2.2.2.2.2.2.2.2.2.2.2.2.2.2.2.2.2.2.2.2.2.2.2.2.2.2.2.1,.c fun vv=>vv.1.2.2.2.2.2.2.2.2.2.2.2.2.2.2.2.2.2.2.2.2.2.2.2.2.2.2.2.2.2.2.2.2,.c fun _=>u17,.c fun _=>u20,.c fun _=>u21,.c fun _=>u22,.c fun _=>u23,.c fun _=>u24,.c fun _=>u25,.c fun _=>u26,.c fun _=>u12,.c fun _=>u11,.c fun _=>u10,.c fun _=>u14,.c fun _=>u18,.c fun _=>u19]⟩
def jnM (u17:ByteArray) (u18:List (List NC)) (u19:List Int) (u16:Int) (u20:List (List Nat)) (u21:List (List (List Int))) (u22:List (List Nat)) (u23:List Int) (u24:List (List Nat)) (u25:List (List (List Int))) (u26:List Int) (u13:ByteArray) (u7:Int) (u12:List Int) (u11:List Int) (u10:List Int) (u9:Int) (u14:List (List Int)) (u15:Int) (u41:Int) (u42:Int) (r:Int × Int × Int × Int × Int × Int × Int × Int × Int × Int × Int × Int × Int × Int × Int × Int × Int × Int × Int × Int × Int × Int × Int × Int × Int × Int × Int × Int × Int × Int × Int × Int):Sk (top r) (Option.bind (jak (jdZ u17 u18 u19 u16 u20 u21 u22 u23 u24 u25 u26 u12 u11 u41 u42) big (((0:Int),0,0,0,0,0,0,0,0,0,0,0,0,0,0,0,0,0,0,0,0,0,0,0,0,0,0,0,0,0,0,0,0))) (jd0)) :=
 .loop (jhg u17 u18 u19 u16 u20 u21 u22 u23 u24 u25 u26 u13 u7 u12 u11 u10 u9 u14 u15 u41 u42 r) (fun kk=>(((0:Int),0,0,0,0,0,0,0,0,0,0,0,0,0,0,0,0,0,0,0,0,0,0,0,0,0,0,0,0,0,0,0,0),big)) fun z0 =>
 .br
 (.ob (.ob (.ob (.ob (.call (.ob (.ob (.next))))))))
 (.exit (.obT (.rc)))
def jpl (u17:ByteArray) (u18:List (List NC)) (u19:List Int) (u16:Int) (u20:List (List Nat)) (u21:List (List (List Int))) (u22:List (List Nat)) (u23:List Int) (u24:List (List Nat)) (u25:List (List (List Int))) (u26:List Int) (u13:ByteArray) (u7:Int) (u12:List Int) (u11:List Int) (u10:List Int) (u9:Int) (u14:List (List Int)) (u15:Int) (u41:Int) (u42:Int) (r:Int × Int × Int × Int × Int × Int × Int × Int × Int × Int × Int × Int × Int × Int × Int × Int × Int × Int × Int × Int × Int × Int × Int × Int × Int × Int × Int × Int × Int × Int × Int × Int):Sk (top r) (jag u17 u18 u19 u16 u20 u21 u22 u23 u24 u25 u26 u13 u7 u12 u11 u10 u9 u14 u15 u41 u42) :=
 jnM u17 u18 u19 u16 u20 u21 u22 u23 u24 u25 u26 u13 u7 u12 u11 u10 u9 u14 u15 u41 u42 r
theorem jnN (u17:ByteArray) (u18:List (List NC)) (u19:List Int) (u16:Int) (u20:List (List Nat)) (u21:List (List (List Int))) (u22:List (List Nat)) (u23:List Int) (u24:List (List Nat)) (u25:List (List (List Int))) (u26:List Int) (u13:ByteArray) (u7:Int) (u12:List Int) (u11:List Int) (u10:List Int) (u9:Int) (u14:List (List Int)) (u15:Int) (u41:Int) (u42:Int) (r:Int × Int × Int × Int × Int × Int × Int × Int × Int × Int × Int × Int × Int × Int × Int × Int × Int × Int × Int × Int × Int × Int × Int × Int × Int × Int × Int × Int × Int × Int × Int × Int) (h:Option.bind (jag u17 u18 u19 u16 u20 u21 u22 u23 u24 u25 u26 u13 u7 u12 u11 u10 u9 u14 u15 u41 u42) some=some r):jbg Tryz.f148 ((sp_149 sp0)) (fun gs id _=>match id with
 |0=>some ⟨(Int × Int × Int × Int × Int × Int × Int × Int × Int × Int × Int × Int × Int × Int × Int × Int × Int × Int × Int × Int × Int × Int × Int × Int × Int × Int × Int × Int × Int × Int × Int × Int × Int) × Nat,fun z=>⟨[(0,.w (.c (.p 10 0 1 0))),(2,.w (.c (.d (.i .i64 u41)))),(3,.w (.c (.d (.i .i64 u42)))),(5,.w (.c (.p 15 0 1 0))),(8,.w (.c (.p 16 0 1 0))),(9,.w (.c (.p 17 0 1 0))),(11,.w (.c (.d (.i .i64 z.1.1))))],[(10,.ebox [.p 2 0 1 0,.d (.i .i64 u16),.o 3,.o 4,.o 5,.o 6,.o 7,.o 8,.o 9]),(15,.box 118 [.d (.s u13),.d (.i .i64 u7),.o 11,.o 12,.o 13,.d (.i .i64 u9),.o 14,.d (.i .i64 u15)]),(16,.box 206 [.d (.i .i64 0),.d (.i .i64 0),.d (.i .i64 0),.d (.i .i64 0),.d (.i .i64 0),.d (.i .i64 0),.d (.i .i64 0),.d (.i .i64 0),.d (.i .i64 0),.d (.i .i64 0),.d (.i .i64 0),.d (.i .i64 0),.d (.i .i64 0),.d (.i .i64 0),.d (.i .i64 0),.d (.i .i64 0),.d (.i .i64 0),.d (.i .i64 0),.d (.i .i64 0),.d (.i .i64 0),.d (.i .i64 0),.d (.i .i64 0),.d (.i .i64 0),.d (.i .i64 0),.d (.i .i64 0),.d (.i .i64 0),.d (.i .i64 0),.d (.i .i64 0),.d (.i .i64 0),.d (.i .i64 0),.d (.i .i64 0),.d (.i .i64 0)]),(17,.box 206 [.d (.i .i64 z.1.2.1),.d (.i .i64 z.1.2.2.1),.d (.i .i64 z.1.2.2.2.1),.d (.i .i64 z.1.2.2.2.2.1),.d (.i .i64 z.1.2.2.2.2.2.1),.d (.i .i64 z.1.2.2.2.2.2.2.1),.d (.i .i64 z.1.2.2.2.2.2.2.2.1),.d (.i .i64 z.1.2.2.2.2.2.2.2.2.1),.d (.i .i64 z.1.2.2.2.2.2.2.2.2.2.1),.d (.i .i64 z.1.2.2.2.2.2.2.2.2.2.2.1),.d (.i .i64 z.1.2.2.2.2.2.2.2.2.2.2.2.1),.d (.i .i64 z.1.2.2.2.2.2.2.2.2.2.2.2.2.1),.d (.i .i64 z.1.2.2.2.2.2.2.2.2.2.2.2.2.2.1),.d (.i .i64 z.1.2.2.2.2.2.2.2.2.2.2.2.2.2.2.1),.d (.i .i64 z.1.2.2.2.2.2.2.2.2.2.2.2.2.2.2.2.1),.d (.i .i64 z.1.2.2.2.2.2.2.2.2.2.2.2.2.2.2.2.2.1),.d (.i .i64 z.1.2.2.2.2.2.2.2.2.2.2.2.2.2.2.2.2.2.1),.d (.i .i64 z.1.2.2.2.2.2.2.2.2.2.2.2.2.2.2.2.2.2.2.1),.d (.i .i64 z.1.2.2.2.2.2.2.2.2.2.2.2.2.2.2.2.2.2.2.2.1),.d (.i .i64 z.1.2.2.2.2.2.2.2.2.2.2.2.2.2.2.2.2.2.2.2.2.1),.d (.i .i64 z.1.2.2.2.2.2.2.2.2.2.2.2.2.2.2.2.2.2.2.2.2.2.1),.d (.i .i64 z.1.2.2.2.2.2.2.2.2.2.2.2.2.2.2.2.2.2.2.2.2.2.2.1),.d (.i .i64 z.1.2.2.2.2.2.2.2.2.2.2.2.2.2.2.2.2.2.2.2.2.2.2.2.1),.d (.i .i64 z.1.2.2.2.2.2.2.2.2.2.2.2.2.2.2.2.2.2.2.2.2.2.2.2.2.1),.d (.i .i64 z.1.2.2.2.2.2.2.2.2.2.2.2.2.2.2.2.2.2.2.2.2.2.2.2.2.2.1),.d (.i .i64 z.1.2.2.2.2.2.2.2.2.2.2.2.2.2.2.2.2.2.2.2.2.2.2.2.2.2.2.1),.d (.i .i64 z.1.2.2.2.2.2.2.2.2.2.2.2.2.2.2.2.2.2.2.2.2.2.2.2.2.2.2.2.1),.d (.i .i64 z.1.2.2.2.2.2.2.2.2.2.2.2.2.2.2.2.2.2.2.2.2.2.2.2.2.2.2.2.2.1),.d (.i .i64 z.1.2.2.2.2.2.2.2.2.2.2.2.2.2.2.2.2.2.2.2.2.2.2.2.2.2.2.2.2.2.1),.d (.i .i64 z.1.2.2.2.2.2.2.2.2.2.2.2.2.2.2.2.2.2.2.2.2.2.2.2.2.2.2.2.2.2.2.1),.d (.i .i64 z.1.2.2.2.2.2.2.2.2.2.2.2.2.2.2.2.2.2.2.2.2.2.2.2.2.2.2.2.2.2.2.2.1),.d (.i .i64 z.1.2.2.2.2.2.2.2.2.2.2.2.2.2.2.2.2.2.2.2.2.2.2.2.2.2.2.2.2.2.2.2.2)]),(2,.ebox [.d (.s u17),.o 0,.o 1]),(3,.xext (XC.ff .f32 u20)),(4,.xext (XC.rr (4:Nat) u21)),(5,.ext (.frs .f32 32 u22)),(6,.ext (.ints .i64 u23)),(7,.ext (.frs .f32 32 u24)),(8,.xext (XC.rr (4:Nat) u25)),(9,.ext (.ints .i64 u26)),(11,.ext (.ints .i64 u12)),(12,.ext (.ints .i64 u11)),(13,.ext (.ints .i64 u10)),(14,.ext (.recs 5 u14)),(0,.xext (XC.st [NK.s,NK.i .i64,NK.ints .i64,NK.ints .i64,NK.ints .i64,NK.i .i64,NK.recs (5:Nat),NK.i .i64] u18)),(1,.ext (.ints .i64 u19))],18⟩,fun z=>(jhg u17 u18 u19 u16 u20 u21 u22 u23 u24 u25 u26 u13 u7 u12 u11 u10 u9 u14 u15 u41 u42 r).inv z,fun z=>z.2⟩
 |_=>none) (ja8 jeC [.d (.s u17),.x (.st [.s,.i .i64,.ints .i64,.ints .i64,.ints .i64,.i .i64,.recs 5,.i .i64] u18),.r (.ints .i64 u19),.d (.i .i64 u16),.x (.ff .f32 u20),.x (.rr 4 u21),.r (.frs .f32 32 u22),.r (.ints .i64 u23),.r (.frs .f32 32 u24),.x (.rr 4 u25),.r (.ints .i64 u26),.d (.s u13),.d (.i .i64 u7),.r (.ints .i64 u12),.r (.ints .i64 u11),.r (.ints .i64 u10),.d (.i .i64 u9),.r (.recs 5 u14),.d (.i .i64 u15),.d (.i .i64 u41),.d (.i .i64 u42)]) [.s [.d (.i .i64 r.1),.d (.i .i64 r.2.1),.d (.i .i64 r.2.2.1),.d (.i .i64 r.2.2.2.1),.d (.i .i64 r.2.2.2.2.1),.d (.i .i64 r.2.2.2.2.2.1),.d (.i .i64 r.2.2.2.2.2.2.1),.d (.i .i64 r.2.2.2.2.2.2.2.1),.d (.i .i64 r.2.2.2.2.2.2.2.2.1),.d (.i .i64 r.2.2.2.2.2.2.2.2.2.1),.d (.i .i64 r.2.2.2.2.2.2.2.2.2.2.1),.d (.i .i64 r.2.2.2.2.2.2.2.2.2.2.2.1),.d (.i .i64 r.2.2.2.2.2.2.2.2.2.2.2.2.1),.d (.i .i64 r.2.2.2.2.2.2.2.2.2.2.2.2.2.1),.d (.i .i64 r.2.2.2.2.2.2.2.2.2.2.2.2.2.2.1),.d (.i .i64 r.2.2.2.2.2.2.2.2.2.2.2.2.2.2.2.1),.d (.i .i64 r.2.2.2.2.2.2.2.2.2.2.2.2.2.2.2.2.1),.d (.i .i64 r.2.2.2.2.2.2.2.2.2.2.2.2.2.2.2.2.2.1),.d (.i .i64 r.2.2.2.2.2.2.2.2.2.2.2.2.2.2.2.2.2.2.1),.d (.i .i64 r.2.2.2.2.2.2.2.2.2.2.2.2.2.2.2.2.2.2.2.1),.d (.i .i64 r.2.2.2.2.2.2.2.2.2.2.2.2.2.2.2.2.2.2.2.2.1),.d (.i .i64 r.2.2.2.2.2.2.2.2.2.2.2.2.2.2.2.2.2.2.2.2.2.1),.d (.i .i64 r.2.2.2.2.2.2.2.2.2.2.2.2.2.2.2.2.2.2.2.2.2.2.1),.d (.i .i64 r.2.2.2.2.2.2.2.2.2.2.2.2.2.2.2.2.2.2.2.2.2.2.2.1),.d (.i .i64 r.2.2.2.2.2.2.2.2.2.2.2.2.2.2.2.2.2.2.2.2.2.2.2.2.1),.d (.i .i64 r.2.2.2.2.2.2.2.2.2.2.2.2.2.2.2.2.2.2.2.2.2.2.2.2.2.1),.d (.i .i64 r.2.2.2.2.2.2.2.2.2.2.2.2.2.2.2.2.2.2.2.2.2.2.2.2.2.2.1),.d (.i .i64 r.2.2.2.2.2.2.2.2.2.2.2.2.2.2.2.2.2.2.2.2.2.2.2.2.2.2.2.1),.d (.i .i64 r.2.2.2.2.2.2.2.2.2.2.2.2.2.2.2.2.2.2.2.2.2.2.2.2.2.2.2.2.1),.d (.i .i64 r.2.2.2.2.2.2.2.2.2.2.2.2.2.2.2.2.2.2.2.2.2.2.2.2.2.2.2.2.2.1),.d (.i .i64 r.2.2.2.2.2.2.2.2.2.2.2.2.2.2.2.2.2.2.2.2.2.2.2.2.2.2.2.2.2.2.1),.d (.i .i64 r.2.2.2.2.2.2.2.2.2.2.2.2.2.2.2.2.2.2.2.2.2.2.2.2.2.2.2.2.2.2.2)]] :=
 Sk.vc (jpl u17 u18 u19 u16 u20 u21 u22 u23 u24 u25 u26 u13 u7 u12 u11 u10 u9 u14 u15 u41 u42 r) (by kernel_rfl) h
theorem jnO:jaf Tryz.prog 148 true (jal jeC jeD):=by
 refine jaA (sp:=(sp_149 sp0)) (fn:=Tryz.f148) (body:=bodyOf Tryz.f148) mixed (sp_149_ok jau) Tryz.func148 (by kernel_rfl) (by kernel_rfl) fun ls t h ho b hb=>?_;unfold jeD at h;split at h
 ·rename_i u17 u18 u19 u16 u20 u21 u22 u23 u24 u25 u26 u13 u7 u12 u11 u10 u9 u14 u15 u41 u42;cases h;obtain rfl:=jaM hb;exact⟨Nat.le_of_ble_eq_true (by kernel_rfl),_,_,jnN u17 u18 u19 u16 u20 u21 u22 u23 u24 u25 u26 u13 u7 u12 u11 u10 u9 u14 u15 u41 u42 _ (jaq ho)⟩
 ·cases h
end Go.Sh
end

section
namespace Go.Sh
open Go Go.Proofs Go.RowKit Go.Sx
open Go.IntKind (wrap)
def jeE:List SV:=[.c (.p [.p [.d,.x (.st [.s,.i .i64,.ints .i64,.ints .i64,.ints .i64,.i .i64,.recs 5,.i .i64] []),.r (.ints .i64 [])],.d,.x (.ff .f32 []),.x (.rr 4 []),.r (.frs .f32 32 []),.r (.ints .i64 []),.r (.frs .f32 32 []),.x (.rr 4 []),.r (.ints .i64 [])])]
def jhh (u17:ByteArray) (u18:List (List NC)) (u19:List Int) (u16:Int) (u20:List (List Nat)) (u21:List (List (List Int))) (u22:List (List Nat)) (u23:List Int) (u24:List (List Nat)) (u25:List (List (List Int))) (u26:List Int) (x0:Int × List (List Nat)) (x1:(Int × List Nat)):Option ((Int × List Nat) ⊕ (List Nat)) :=
 if x1.1<32 then
  Option.bind (jqf u17 u18 u19 u16 u20 u21 u22 u23 u24 u25 u26 x0.1 x1.1) fun r0 =>
  if(List.length x1.2+List.length [FloatKind.nearest .f32 r0])*4≤140737488355328∧List.length x1.2+List.length [FloatKind.nearest .f32 r0]≤9223372036854775807 then
  some (.inl ((wrap .i64 (x1.1+1),x1.2++[FloatKind.nearest .f32 r0])))
  else none
 else
  some (.inr x1.2)
def jhi (x0:Int × List (List Nat)) (u35:List Nat):Option ((Int × List (List Nat)) ⊕ (List (List Nat))) :=
 if(List.length x0.2+List.length (List.map (fun r=>NC.toFlts (List.headD r (NC.d (D.v undef)))) [[NC.r (Cont.floats .f32 u35)]]))*24≤140737488355328∧List.length x0.2+List.length (List.map (fun r=>NC.toFlts (List.headD r (NC.d (D.v undef)))) [[NC.r (Cont.floats .f32 u35)]])≤9223372036854775807 then
  some (.inl ((wrap .i64 (x0.1+1),x0.2++List.map (fun r=>NC.toFlts (List.headD r (NC.d (D.v undef)))) [[NC.r (Cont.floats .f32 u35)]])))
 else none
def jd1 (u17:ByteArray) (u18:List (List NC)) (u19:List Int) (u16:Int) (u20:List (List Nat)) (u21:List (List (List Int))) (u22:List (List Nat)) (u23:List Int) (u24:List (List Nat)) (u25:List (List (List Int))) (u26:List Int) (x0:(Int × List (List Nat))):Option ((Int × List (List Nat)) ⊕ (List (List Nat))) :=
 if x0.1<(↑u18.length:Int)then
  Option.bind (jak (jhh u17 u18 u19 u16 u20 u21 u22 u23 u24 u25 u26 x0) big (((-96:Int),[]))) (jhi x0)
 else
  some (.inr x0.2)
def jd2 (u16:Int) (u5:List (List Nat)):Option (Int × List (List Nat)) :=
 some ((wrap .i64 (u16+1),u5))
def jck (u17:ByteArray) (u18:List (List NC)) (u19:List Int) (u16:Int) (u20:List (List Nat)) (u21:List (List (List Int))) (u22:List (List Nat)) (u23:List Int) (u24:List (List Nat)) (u25:List (List (List Int))) (u26:List Int):Option (Int × List (List Nat)) :=
 Option.bind (jak (jd1 u17 u18 u19 u16 u20 u21 u22 u23 u24 u25 u26) big (((0:Int),[]))) (jd2 u16)
def jeF:List Lf→Option GT
 |[.d (.s u17),.x (.st [.s,.i .i64,.ints .i64,.ints .i64,.ints .i64,.i .i64,.recs 5,.i .i64] u18),.r (.ints .i64 u19),.d (.i .i64 u16),.x (.ff .f32 u20),.x (.rr 4 u21),.r (.frs .f32 32 u22),.r (.ints .i64 u23),.r (.frs .f32 32 u24),.x (.rr 4 u25),.r (.ints .i64 u26)]=>some (.leaf (ok (jck u17 u18 u19 u16 u20 u21 u22 u23 u24 u25 u26)) [.s [.d (.i .i64 ((val (jck u17 u18 u19 u16 u20 u21 u22 u23 u24 u25 u26)).1)),.x 157 (.ff .f32 ((val (jck u17 u18 u19 u16 u20 u21 u22 u23 u24 u25 u26)).2)),.g 8]])
 |_=>none
abbrev jd3 (u17:ByteArray) (u18:List (List NC)) (u19:List Int) (u16:Int) (u20:List (List Nat)) (u21:List (List (List Int))) (u22:List (List Nat)) (u23:List Int) (u24:List (List Nat)) (u25:List (List (List Int))) (u26:List Int) (r:Int × List (List Nat)):Lp ((Int × List (List Nat)) × Nat) ((Int × List (List Nat))) ((List (List Nat))) ((Int × List (List Nat))) (Int × List (List Nat)) :=
 ⟨fun z=>z.1,fun z=>z.2,fun z x n=>(x,n),fun z=>jd1 u17 u18 u19 u16 u20 u21 u22 u23 u24 u25 u26,fun z=>jd2 u16,fun z=>top r,fun z=>0,[.c fun _=>0,.c fun _=>0,.c fun _=>0,.c fun _=>(↑u18.length:Int),.c fun vv=>vv.1.1,.c fun _=>0,.c fun _=>u16,.c fun _=>(0:Int),.c fun _=>Value.slice none (0:Nat) (0:Nat),.c fun _=>Value.slice none (0:Nat) (0:Nat),.c fun _=>wrap .i64 (u16+1),.c fun _=>u17,.c fun _=>u20,.c fun _=>u21,.c fun _=>u22,.c fun _=>u23,.c fun _=>u24,.c fun _=>u25,.c fun _=>u26,.c fun vv=>vv.1.2,.c fun _=>u18,.c fun _=>u19]⟩
abbrev jhj (u17:ByteArray) (u18:List (List NC)) (u19:List Int) (u16:Int) (u20:List (List Nat)) (u21:List (List (List Int))) (u22:List (List Nat)) (u23:List Int) (u24:List (List Nat)) (u25:List (List (List Int))) (u26:List Int) (r:Int × List (List Nat)) (m1:Nat):Lp ((Int × List (List Nat)) × Nat × (Int × List Nat) × Nat) (Int × List Nat) (List Nat) (((Int × List (List Nat)) ⊕ (List (List Nat)))) (Int × List (List Nat)) :=
 ⟨fun z=>z.2.2.1,fun z=>z.2.2.2,fun z x n=>(z.1,z.2.1,x,n),fun z=>jhh u17 u18 u19 u16 u20 u21 u22 u23 u24 u25 u26 z.1,fun z=>jhi z.1,fun z=>(jd3 u17 u18 u19 u16 u20 u21 u22 u23 u24 u25 u26 r).cx (z.1,m1),fun z=>z.2.1,[.c fun _=>0,.c fun _=>0,.c fun _=>0,.c fun vv=>vv.1.1,.c fun vv=>vv.2.2.1.1,.c fun _=>(↑u18.length:Int),.c fun vv=>vv.1.1,.c fun _=>0,.c fun _=>u16,.c fun _=>(0:Int),.c fun _=>Value.slice none (0:Nat) (0:Nat),.c fun _=>Value.slice none (0:Nat) (0:Nat),.c fun _=>wrap .i64 (u16+1),.c fun vv=>vv.2.2.1.2,.c fun _=>u17,.c fun _=>u20,.c fun _=>u21,.c fun _=>u22,.c fun _=>u23,.c fun _=>u24,.c fun _=>u25,.c fun _=>u26,.c fun vv=>vv.1.2,.c fun _=>u18,.c fun _=>u19]⟩
def jnP (u17:ByteArray) (u18:List (List NC)) (u19:List Int) (u16:Int) (u20:List (List Nat)) (u21:List (List (List Int))) (u22:List (List Nat)) (u23:List Int) (u24:List (List Nat)) (u25:List (List (List Int))) (u26:List Int) (r:Int × List (List Nat)):Sk (top r) (Option.bind (jak (jd1 u17 u18 u19 u16 u20 u21 u22 u23 u24 u25 u26) big (((0:Int),[]))) (jd2 u16)) :=
 .loopQ (jd3 u17 u18 u19 u16 u20 u21 u22 u23 u24 u25 u26 r) [.c fun _=>0,.c fun _=>0,.c fun _=>0,.c fun _=>(↑u18.length:Int),.c fun vv=>vv.1.1,.c fun _=>0,.c fun _=>u16,.c fun _=>(0:Int),.c fun _=>Value.slice none (0:Nat) (0:Nat),.c fun _=>Value.slice none (0:Nat) (0:Nat),.c fun _=>wrap .i64 (u16+1),.c fun _=>u17,.c fun _=>u20,.c fun _=>u21,.c fun _=>u22,.c fun _=>u23,.c fun _=>u24,.c fun _=>u25,.c fun _=>u26,.p fun vv=>List.length vv.1.2=(0:Nat),.c fun _=>u18,.c fun _=>u19] (fun kk=>(((0:Int),[]),big)) (fun z0 =>
 .br
 (.loopQ (jhj u17 u18 u19 u16 u20 u21 u22 u23 u24 u25 u26 r z0.2) [.c fun _=>0,.c fun _=>0,.c fun _=>0,.c fun vv=>vv.1.1,.c fun vv=>vv.2.2.1.1,.c fun _=>(↑u18.length:Int),.c fun vv=>vv.1.1,.c fun _=>0,.c fun _=>u16,.c fun _=>(0:Int),.c fun _=>Value.slice none (0:Nat) (0:Nat),.c fun _=>Value.slice none (0:Nat) (0:Nat),.c fun _=>wrap .i64 (u16+1),.p fun vv=>List.length vv.2.2.1.2=(0:Nat),.c fun _=>u17,.c fun _=>u20,.c fun _=>u21,.c fun _=>u22,.c fun _=>u23,.c fun _=>u24,.c fun _=>u25,.c fun _=>u26,.c fun vv=>vv.1.2,.c fun _=>u18,.c fun _=>u19] (fun kk=>(z0.1,kk,((-96:Int),[]),big)) (fun z1 =>
 .br
 (.call (.obT (.ob (.next))))
 (.exit (.ob (.next)))) (fun _=>⟨rfl,trivial⟩))
 (.exit (.obT (.rc)))) (fun _=>⟨rfl,trivial⟩)
def jpm (u17:ByteArray) (u18:List (List NC)) (u19:List Int) (u16:Int) (u20:List (List Nat)) (u21:List (List (List Int))) (u22:List (List Nat)) (u23:List Int) (u24:List (List Nat)) (u25:List (List (List Int))) (u26:List Int) (r:Int × List (List Nat)):Sk (top r) (jck u17 u18 u19 u16 u20 u21 u22 u23 u24 u25 u26) :=
 .obT (.obT (.obT (.obT (jnP u17 u18 u19 u16 u20 u21 u22 u23 u24 u25 u26 r))))
theorem jnQ (u17:ByteArray) (u18:List (List NC)) (u19:List Int) (u16:Int) (u20:List (List Nat)) (u21:List (List (List Int))) (u22:List (List Nat)) (u23:List Int) (u24:List (List Nat)) (u25:List (List (List Int))) (u26:List Int) (r:Int × List (List Nat)) (h:Option.bind (jck u17 u18 u19 u16 u20 u21 u22 u23 u24 u25 u26) some=some r):jbg Tryz.f106 ((sp_149 sp0)) (fun gs id _=>match id with
 |0=>some ⟨(Int × List (List Nat)) × Nat,fun z=>⟨[(0,.w (.c (.p 10 0 1 0))),(2,.w (.c (.p 11 0 1 0))),(3,.w (.c (.p 12 0 1 0))),(26,.w (.c (.d (.i .i64 ((↑u18.length:Int)))))),(27,.w (.c (.d (.i .i64 z.1.1))))],[(10,.ebox [.p 2 0 1 0,.d (.i .i64 u16),.o 3,.o 4,.o 5,.o 6,.o 7,.o 8,.o 9]),(11,.box 78 [.d (.i .i64 0),.d (.v (Value.slice none (0:Nat) (0:Nat))),.d (.v (Value.slice none (0:Nat) (0:Nat)))]),(12,.box 78 [.d (.i .i64 (wrap .i64 (u16+1))),.o 13,.o 8]),(2,.ebox [.d (.s u17),.o 0,.o 1]),(3,.xext (XC.ff .f32 u20)),(4,.xext (XC.rr (4:Nat) u21)),(5,.ext (.frs .f32 32 u22)),(6,.ext (.ints .i64 u23)),(7,.ext (.frs .f32 32 u24)),(8,.xext (XC.rr (4:Nat) u25)),(9,.ext (.ints .i64 u26)),(13,.xrow 157 (XC.ff .f32 z.1.2)),(0,.xext (XC.st [NK.s,NK.i .i64,NK.ints .i64,NK.ints .i64,NK.ints .i64,NK.i .i64,NK.recs (5:Nat),NK.i .i64] u18)),(1,.ext (.ints .i64 u19))],14⟩,fun z=>(jd3 u17 u18 u19 u16 u20 u21 u22 u23 u24 u25 u26 r).inv z,fun z=>z.2⟩
 |2=>some ⟨(Int × List (List Nat)) × Nat × (Int × List Nat) × Nat,fun z=>⟨[(0,.w (.c (.p 10 0 1 0))),(2,.w (.c (.p 11 0 1 0))),(3,.w (.c (.p 12 0 1 0))),(4,.w (.c (.d (.i .i64 (z.1.1))))),(5,.w (.c (.o 13))),(6,.w (.c (.d (.i .i64 z.2.2.1.1)))),(26,.w (.c (.d (.i .i64 ((↑u18.length:Int)))))),(27,.w (.c (.d (.i .i64 (z.1.1)))))],[(10,.ebox [.p 2 0 1 0,.d (.i .i64 u16),.o 3,.o 4,.o 5,.o 6,.o 7,.o 8,.o 9]),(11,.box 78 [.d (.i .i64 0),.d (.v (Value.slice none (0:Nat) (0:Nat))),.d (.v (Value.slice none (0:Nat) (0:Nat)))]),(12,.box 78 [.d (.i .i64 (wrap .i64 (u16+1))),.o 14,.o 8]),(13,.row 108 (.floats .f32 z.2.2.1.2)),(2,.ebox [.d (.s u17),.o 0,.o 1]),(3,.xext (XC.ff .f32 u20)),(4,.xext (XC.rr (4:Nat) u21)),(5,.ext (.frs .f32 32 u22)),(6,.ext (.ints .i64 u23)),(7,.ext (.frs .f32 32 u24)),(8,.xext (XC.rr (4:Nat) u25)),(9,.ext (.ints .i64 u26)),(14,.xrow 157 (XC.ff .f32 z.1.2)),(0,.xext (XC.st [NK.s,NK.i .i64,NK.ints .i64,NK.ints .i64,NK.ints .i64,NK.i .i64,NK.recs (5:Nat),NK.i .i64] u18)),(1,.ext (.ints .i64 u19))],15⟩,fun z=>(jhj u17 u18 u19 u16 u20 u21 u22 u23 u24 u25 u26 r (gs.getD 0 0)).inv z,fun z=>z.2.2.2⟩
 |_=>none) (ja8 jeE [.d (.s u17),.x (.st [.s,.i .i64,.ints .i64,.ints .i64,.ints .i64,.i .i64,.recs 5,.i .i64] u18),.r (.ints .i64 u19),.d (.i .i64 u16),.x (.ff .f32 u20),.x (.rr 4 u21),.r (.frs .f32 32 u22),.r (.ints .i64 u23),.r (.frs .f32 32 u24),.x (.rr 4 u25),.r (.ints .i64 u26)]) [.s [.d (.i .i64 r.1),.x 157 (.ff .f32 r.2),.g 8]] :=
 Sk.vc (jpm u17 u18 u19 u16 u20 u21 u22 u23 u24 u25 u26 r) (by kernel_rfl) h
theorem jnR:jaf Tryz.prog 106 true (jal jeE jeF):=by
 refine jaA (sp:=(sp_149 sp0)) (fn:=Tryz.f106) (body:=bodyOf Tryz.f106) mixed (sp_149_ok jau) Tryz.func106 (by kernel_rfl) (by kernel_rfl) fun ls t h ho b hb=>?_;unfold jeF at h;split at h
 ·rename_i u17 u18 u19 u16 u20 u21 u22 u23 u24 u25 u26;cases h;obtain rfl:=jaM hb;exact⟨Nat.le_of_ble_eq_true (by kernel_rfl),_,_,jnQ u17 u18 u19 u16 u20 u21 u22 u23 u24 u25 u26 _ (jaq ho)⟩
 ·cases h
end Go.Sh
end

section
namespace Go.Sh
open Go Go.Proofs Go.RowKit Go.Sx
def jhk:List Lf→Option (List RR)
 |[.d (.i .i64 l0),.d (.i .i64 l1),.d (.i .i64 l2),.d (.i .i64 l3),.d (.i .i64 l4),.d (.i .i64 l5),.d (.i .i64 l6),.d (.i .i64 l7),.d (.i .i64 l8),.d (.i .i64 l9),.d (.i .i64 l10),.d (.i .i64 l11),.d (.i .i64 l12),.d (.i .i64 l13),.d (.i .i64 l14),.d (.i .i64 l15),.d (.i .i64 l16),.d (.i .i64 l17),.d (.i .i64 l18),.d (.i .i64 l19),.d (.i .i64 l20),.d (.i .i64 l21),.d (.i .i64 l22),.d (.i .i64 l23),.d (.i .i64 l24),.d (.i .i64 l25),.d (.i .i64 l26),.d (.i .i64 l27),.d (.i .i64 l28),.d (.i .i64 l29),.d (.i .i64 l30),.d (.i .i64 l31)]=>match jfH l0 l1 l2 l3 l4 l5 l6 l7 l8 l9 l10 l11 l12 l13 l14 l15 l16 l17 l18 l19 l20 l21 l22 l23 l24 l25 l26 l27 l28 l29 l30 l31 with
  |some v=>some [.b .f32 32 (v)]
  |none=>none
 |_=>none
theorem jpn:∀ls rs,jhk ls=some rs→∃t,jhS ls=some t∧t.sel.2=rs∧t.sel.1:=by
 intro ls rs h;unfold jhk at h;split at h
 ·split at h
  ·rename_i v hv;cases h;exact⟨_,rfl,by simp only[GT.sel,hv];rfl,jgo hv⟩
  ·cases h
 ·cases h
def jd4:List Lf→Option (List RR)
 |[.d (.s r_graphEngineGraphName),.x (.st [.s,.i .i64,.ints .i64,.ints .i64,.ints .i64,.i .i64,.recs 5,.i .i64] r_graphEngineGraphUnits),.r (.ints .i64 r_graphorder),.d (.i .i64 r_beforeBlocks),.x (.ff .f32 r_beforePast),.x (.rr 4 r_beforeFilters),.r (.frs .f32 32 r_in),.r (.ints .i64 r_who),.r (.frs .f32 32 r_given),.x (.rr 4 r_after),.r (.ints .i64 r_cuts),.d (.s uName),.d (.i .i64 uKind),.r (.ints .i64 uFrom),.r (.ints .i64 uAlign),.r (.ints .i64 uGains),.d (.i .i64 uDelay),.r (.recs 5 uCascade),.d (.i .i64 uStand),.d (.i .i64 from_),.d (.i .i64 later)]=>match jag r_graphEngineGraphName r_graphEngineGraphUnits r_graphorder r_beforeBlocks r_beforePast r_beforeFilters r_in r_who r_given r_after r_cuts uName uKind uFrom uAlign uGains uDelay uCascade uStand from_ later with
  |some v=>some [.s [.d (.i .i64 (v.1)),.d (.i .i64 (v.2.1)),.d (.i .i64 (v.2.2.1)),.d (.i .i64 (v.2.2.2.1)),.d (.i .i64 (v.2.2.2.2.1)),.d (.i .i64 (v.2.2.2.2.2.1)),.d (.i .i64 (v.2.2.2.2.2.2.1)),.d (.i .i64 (v.2.2.2.2.2.2.2.1)),.d (.i .i64 (v.2.2.2.2.2.2.2.2.1)),.d (.i .i64 (v.2.2.2.2.2.2.2.2.2.1)),.d (.i .i64 (v.2.2.2.2.2.2.2.2.2.2.1)),.d (.i .i64 (v.2.2.2.2.2.2.2.2.2.2.2.1)),.d (.i .i64 (v.2.2.2.2.2.2.2.2.2.2.2.2.1)),.d (.i .i64 (v.2.2.2.2.2.2.2.2.2.2.2.2.2.1)),.d (.i .i64 (v.2.2.2.2.2.2.2.2.2.2.2.2.2.2.1)),.d (.i .i64 (v.2.2.2.2.2.2.2.2.2.2.2.2.2.2.2.1)),.d (.i .i64 (v.2.2.2.2.2.2.2.2.2.2.2.2.2.2.2.2.1)),.d (.i .i64 (v.2.2.2.2.2.2.2.2.2.2.2.2.2.2.2.2.2.1)),.d (.i .i64 (v.2.2.2.2.2.2.2.2.2.2.2.2.2.2.2.2.2.2.1)),.d (.i .i64 (v.2.2.2.2.2.2.2.2.2.2.2.2.2.2.2.2.2.2.2.1)),.d (.i .i64 (v.2.2.2.2.2.2.2.2.2.2.2.2.2.2.2.2.2.2.2.2.1)),.d (.i .i64 (v.2.2.2.2.2.2.2.2.2.2.2.2.2.2.2.2.2.2.2.2.2.1)),.d (.i .i64 (v.2.2.2.2.2.2.2.2.2.2.2.2.2.2.2.2.2.2.2.2.2.2.1)),.d (.i .i64 (v.2.2.2.2.2.2.2.2.2.2.2.2.2.2.2.2.2.2.2.2.2.2.2.1)),.d (.i .i64 (v.2.2.2.2.2.2.2.2.2.2.2.2.2.2.2.2.2.2.2.2.2.2.2.2.1)),.d (.i .i64 (v.2.2.2.2.2.2.2.2.2.2.2.2.2.2.2.2.2.2.2.2.2.2.2.2.2.1)),.d (.i .i64 (v.2.2.2.2.2.2.2.2.2.2.2.2.2.2.2.2.2.2.2.2.2.2.2.2.2.2.1)),.d (.i .i64 (v.2.2.2.2.2.2.2.2.2.2.2.2.2.2.2.2.2.2.2.2.2.2.2.2.2.2.2.1)),.d (.i .i64 (v.2.2.2.2.2.2.2.2.2.2.2.2.2.2.2.2.2.2.2.2.2.2.2.2.2.2.2.2.1)),.d (.i .i64 (v.2.2.2.2.2.2.2.2.2.2.2.2.2.2.2.2.2.2.2.2.2.2.2.2.2.2.2.2.2.1)),.d (.i .i64 (v.2.2.2.2.2.2.2.2.2.2.2.2.2.2.2.2.2.2.2.2.2.2.2.2.2.2.2.2.2.2.1)),.d (.i .i64 (v.2.2.2.2.2.2.2.2.2.2.2.2.2.2.2.2.2.2.2.2.2.2.2.2.2.2.2.2.2.2.2))]]
  |none=>none
 |_=>none
theorem jkf:∀ls rs,jd4 ls=some rs→∃t,jeD ls=some t∧t.sel.2=rs∧t.sel.1:=by
 intro ls rs h;unfold jd4 at h;split at h
 ·split at h
  ·rename_i v hv;cases h;exact⟨_,rfl,by simp only[GT.sel,hv];rfl,jgo hv⟩
  ·cases h
 ·cases h
def jjQ:List Lf→Option (List RR)
 |[.d (.s gName),.x (.st [.s,.i .i64,.ints .i64,.ints .i64,.ints .i64,.i .i64,.recs 5,.i .i64] gUnits),.r (.ints .i64 order),.d (.i .i64 i),.r (.bools placed)]=>match jcG gUnits i placed with
  |some v=>some [.c (.d (.b v))]
  |none=>none
 |_=>none
theorem jrz:∀ls rs,jjQ ls=some rs→∃t,jhB ls=some t∧t.sel.2=rs∧t.sel.1:=by
 intro ls rs h;unfold jjQ at h;split at h
 ·split at h
  ·rename_i v hv;cases h;exact⟨_,rfl,by simp only[GT.sel,hv];rfl,jgo hv⟩
  ·cases h
 ·cases h
def jd5:List Lf→Option (List RR)
 |[.d (.s r_graphEngineGraphName),.x (.st [.s,.i .i64,.ints .i64,.ints .i64,.ints .i64,.i .i64,.recs 5,.i .i64] r_graphEngineGraphUnits),.r (.ints .i64 r_graphorder),.d (.i .i64 r_beforeBlocks),.x (.ff .f32 r_beforePast),.x (.rr 4 r_beforeFilters),.r (.frs .f32 32 r_in),.r (.ints .i64 r_who),.r (.frs .f32 32 r_given),.x (.rr 4 r_after),.r (.ints .i64 r_cuts)]=>match jck r_graphEngineGraphName r_graphEngineGraphUnits r_graphorder r_beforeBlocks r_beforePast r_beforeFilters r_in r_who r_given r_after r_cuts with
  |some v=>some [.s [.d (.i .i64 (v.1)),.x 157 (.ff .f32 (v.2)),.g 8]]
  |none=>none
 |_=>none
theorem jkg:∀ls rs,jd5 ls=some rs→∃t,jeF ls=some t∧t.sel.2=rs∧t.sel.1:=by
 intro ls rs h;unfold jd5 at h;split at h
 ·split at h
  ·rename_i v hv;cases h;exact⟨_,rfl,by simp only[GT.sel,hv];rfl,jgo hv⟩
  ·cases h
 ·cases h
def jf7:List Lf→Option (List RR)
 |[.r (.ints .i64 l)]=>match jdw l with
  |some v=>some [.c (.row 3 (.ints .i64 v))]
  |none=>none
 |_=>none
theorem jnS:∀ls rs,jf7 ls=some rs→∃t,jhb ls=some t∧t.sel.2=rs∧t.sel.1:=by
 intro ls rs h;unfold jf7 at h;split at h
 ·split at h
  ·rename_i v hv;cases h;exact⟨_,rfl,by simp only[GT.sel,hv];rfl,jgo hv⟩
  ·cases h
 ·cases h
def jf8:List Lf→Option (List RR)
 |[.r (.recs 5 l)]=>match jdx l with
  |some v=>some [.c (.row 148 (.recs 5 v))]
  |none=>none
 |_=>none
theorem jnT:∀ls rs,jf8 ls=some rs→∃t,jhc ls=some t∧t.sel.2=rs∧t.sel.1:=by
 intro ls rs h;unfold jf8 at h;split at h
 ·split at h
  ·rename_i v hv;cases h;exact⟨_,rfl,by simp only[GT.sel,hv];rfl,jgo hv⟩
  ·cases h
 ·cases h
def jf9:List Lf→Option (List RR)
 |[.r (.recs 4 l)]=>match jdy l with
  |some v=>some [.c (.row 174 (.recs 4 v))]
  |none=>none
 |_=>none
theorem jnU:∀ls rs,jf9 ls=some rs→∃t,jhd ls=some t∧t.sel.2=rs∧t.sel.1:=by
 intro ls rs h;unfold jf9 at h;split at h
 ·split at h
  ·rename_i v hv;cases h;exact⟨_,rfl,by simp only[GT.sel,hv];rfl,jgo hv⟩
  ·cases h
 ·cases h
def jCB:Nat→Bool
 |22|42|75|76|98|138=>true
 |_=>false
abbrev jbn:Globs:={ tab:=fun _=>none,nestL:=jCB }
def xsR:List XC:=[.st [.s,.i .i64,.ints .i64,.ints .i64,.ints .i64,.i .i64,.recs 5,.i .i64] [],.rr 4 [],.ff .f32 []]
noncomputable def ovE:jaa:=fun f=>match f with
 |146=>some (true,jfd [] jhR jhk)
 |148=>some (true,jfd xsR jeC jd4)
 |106=>some (true,jfd xsR jeE jd5)
 |136=>some (true,jfd [] jlF jf7)
 |137=>some (true,jfd [] jlG jf8)
 |144=>some (true,jfd [] jlH jf9)
 |85=>some (true,jfd xsR jll jjQ)
 |_=>none
def roE:Nat→Bool
 |76|77|78|84|160|165|176|177|180|164|175|172|149|122|123|124|125|126|127|128|129|134|140|156|157|158|159|89|24|133|93|94|99|145|146|147|148|104|105|135|136|137|144=>true
 |_=>false
theorem jhl {f:Nat} {xs:List XC} {shs:List SV} {g0:List Lf→Option GT} {g:List Lf→Option (List RR)} (hs:jaf Tryz.prog f true (jal shs g0))
  (hg:∀ls rs,g ls=some rs→∃t,g0 ls=some t∧t.sel.2=rs∧t.sel.1):@jaf jbn Tryz.prog f true (jfd xs shs g) :=
 @jBt jbn _ _ _ _ _ _ (jqO globs jbn rfl rfl hs) hg
theorem jy3:@jac jbn Tryz.prog ovE:=fun f M S h=>by
 unfold ovE at h;split at h<;>cases h
 ·exact jhl jsC jpn
 ·exact jhl jnO jkf
 ·exact jhl jnR jkg
 ·exact jhl jru jnS
 ·exact jhl jrv jnT
 ·exact jhl jrw jnU
 ·exact jhl joV jrz
theorem jtw:jbQ ovE:=fun f M S args hp nx t h hS=>by
 unfold ovE at h;split at h<;>cases h<;>exact jyP hS
noncomputable def dpE:jaa:=@jnH jbn Tryz.prog ovE roE 200 20
theorem jCC:@jac jbn Tryz.prog dpE:=(@jqe jbn _ _ _ _ mixed jy3 jtw 20).1
theorem jAn:jbQ dpE:=(@jqe jbn _ _ _ _ mixed jy3 jtw 20).2
noncomputable def jhG (c:Code) (st:St):Option (Ex × St):=@cx jbn Tryz.prog dpE Tryz.f16.ntmps 200 c st
noncomputable def pcE (n:Nat):Code:=(jhF (Tryz.f16.body.getD .skip)).getD n .skip
abbrev aO (h:Nat):V:=.w (.c (.o h))
abbrev aN:C:=.d (.v (.slice none 0 0))
abbrev aI (n:Int):C:=.d (.i .i64 n)
abbrev aR (l:List Int):O:=.row 3 (.ints .i64 l)
abbrev aH0:Nat × O:=(56,aR [0,1,2,3])
abbrev aH1:Nat × O:=(8,(.lbox 118 8 4 [(.d (.s ⟨#[109,105,99]⟩)),(aI 0),aN,aN,aN,(aI 0),aN,(aI (-1)),(.d (.s ⟨#[100]⟩)),(aI 2),(.o 1),(.o 2),aN,(aI 3),aN,(aI (-1)),(.d (.s ⟨#[109,105,120]⟩)),(aI 1),(.o 3),(.o 4),(.o 5),(aI 0),aN,(aI (-1)),(.d (.s ⟨#[111,117,116]⟩)),(aI 4),(.o 6),(.o 7),aN,(aI 0),aN,(aI (-1))]))
abbrev aH2:Nat × O:=(5,aR [500,1000])
abbrev aH3:Nat × O:=(4,aR [0,0])
abbrev aH4:Nat × O:=(3,aR [0,1])
abbrev aH5:Nat × O:=(165,aR [0,2])
abbrev aH6:Nat × O:=(65,(.lbox 118 8 4 [(.d (.s ⟨#[109,105,99]⟩)),(aI 0),aN,aN,aN,(aI 0),aN,(aI (-1)),(.d (.s ⟨#[100]⟩)),(aI 2),(.o 58),(.o 59),aN,(aI 3),aN,(aI (-1)),(.d (.s ⟨#[109,105,120]⟩)),(aI 1),(.o 60),(.o 61),(.o 62),(aI 0),aN,(aI (-1)),(.d (.s ⟨#[111,117,116]⟩)),(aI 4),(.o 63),(.o 64),aN,(aI 0),aN,(aI (-1))]))
abbrev aH7:Nat × O:=(62,aR [500,1000])
abbrev aH8:Nat × O:=(61,aR [0,0])
abbrev aH9:Nat × O:=(60,aR [0,1])
abbrev jtx:Nat × O:=(259,(.box 24 [(.d (.s ⟨#[112]⟩)),(.o 240)]))
abbrev jty:Nat × O:=(254,aR [0])
abbrev jtz:Nat × O:=(250,aR [3,0])
abbrev jtA:Nat × O:=(246,aR [0])
abbrev jtB:Nat × O:=(240,(.lbox 118 8 4 [(.d (.s ⟨#[109,105,99]⟩)),(aI 0),(.o 241),(.o 242),(.o 243),(aI 0),(.o 244),(aI (-1)),(.d (.s ⟨#[100]⟩)),(aI 2),(.o 245),(.o 246),(.o 247),(aI 3),(.o 248),(aI (-1)),(.d (.s ⟨#[109,105,120]⟩)),(aI 1),(.o 249),(.o 250),(.o 251),(aI 0),(.o 252),(aI (-1)),(.d (.s ⟨#[111,117,116]⟩)),(aI 4),(.o 253),(.o 254),(.o 255),(aI 0),(.o 256),(aI (-1))]))
abbrev jtC:Nat × O:=(256,(.row 148 (.recs 5 [])))
abbrev jtD:Nat × O:=(253,aR [2])
abbrev jtE:Nat × O:=(252,(.row 148 (.recs 5 [])))
abbrev jtF:Nat × O:=(251,aR [500,1000])
abbrev jtG:Nat × O:=(249,aR [0,1])
abbrev jtH:Nat × O:=(248,(.row 148 (.recs 5 [])))
abbrev jtI:Nat × O:=(245,aR [0])
abbrev jtJ:Nat × O:=(244,(.row 148 (.recs 5 [])))
abbrev jtK:Nat × O:=(187,(.lbox 118 8 4 [(.d (.s ⟨#[109,105,99]⟩)),(aI 0),aN,aN,aN,(aI 0),aN,(aI (-1)),(.d (.s ⟨#[100]⟩)),(aI 2),(.o 180),(.o 181),aN,(aI 3),aN,(aI (-1)),(.d (.s ⟨#[109,105,120]⟩)),(aI 1),(.o 182),(.o 183),(.o 184),(aI 0),aN,(aI (-1)),(.d (.s ⟨#[111,117,116]⟩)),(aI 4),(.o 185),(.o 186),aN,(aI 0),aN,(aI (-1))]))
abbrev jtL:Nat × O:=(186,aR [0])
abbrev jtM:Nat × O:=(185,aR [2])
abbrev jtN:Nat × O:=(184,aR [500,1000])
abbrev jtO:Nat × O:=(183,aR [0,0])
abbrev jtP:Nat × O:=(182,aR [0,1])
abbrev jtQ:Nat × O:=(181,aR [0])
abbrev jtR:Nat × O:=(180,aR [0])
abbrev aH31:Nat × O:=(351,aR [0,3,3,3])
abbrev aH32:Nat × O:=(428,(.lbox 79 1 1 [(.o 497)]))
abbrev aH33:Nat × O:=(497,(.row 110 (.frs .f32 32 [[1112276992,0,0,1120534528,0,0,0,0,0,0,0,0,0,0,0,0,0,0,0,0,0,0,0,0,0,0,0,0,0,0,0,0]])))
abbrev aH34:Nat × O:=(364,(.lbox 79 1 1 [(.o 363)]))
abbrev aH35:Nat × O:=(363,(.row 110 (.frs .f32 32 [[1120534528,0,0,0,0,0,0,0,0,0,0,0,0,0,0,0,0,0,0,0,0,0,0,0,0,0,0,0,0,0,0,0]])))
abbrev aH36:Nat × O:=(360,(.lbox 118 8 4 [(.d (.s ⟨#[109,105,99]⟩)),(aI 0),aN,aN,aN,(aI 0),aN,(aI (-1)),(.d (.s ⟨#[100]⟩)),(aI 2),(.o 353),(.o 354),aN,(aI 3),aN,(aI (-1)),(.d (.s ⟨#[109,105,120]⟩)),(aI 1),(.o 355),(.o 356),(.o 357),(aI 0),aN,(aI (-1)),(.d (.s ⟨#[111,117,116]⟩)),(aI 4),(.o 358),(.o 359),aN,(aI 0),aN,(aI (-1))]))
abbrev aH37:Nat × O:=(359,aR [0])
abbrev aH38:Nat × O:=(358,aR [2])
abbrev aH39:Nat × O:=(357,aR [500,1000])
abbrev aH40:Nat × O:=(356,aR [0,0])
abbrev aH41:Nat × O:=(355,aR [0,1])
abbrev aH42:Nat × O:=(354,aR [0])
abbrev aH43:Nat × O:=(353,aR [0])
abbrev aH44:Nat × O:=(501,aR [0,3,3,3])
abbrev aH45:Nat × O:=(500,aR [0,2])
abbrev aH46:Nat × O:=(499,aR [0,1,2,3])
abbrev awT0:List (Nat × V):=[]
def awS0:St:=⟨awT0,[],0⟩
abbrev awT1:List (Nat × V):=(0,(vb false))::[]
def awS1:St:=⟨awT1,[],0⟩
abbrev awT2:List (Nat × V):=(2,(vi .i64 0))::(1,(aO 56))::(16,(vi .i64 0))::(15,(aO 56))::(12,(.t [(.c (.o 56)),(.c (aI 0))]))::(14,(.t [(.c (.o 56)),(.c (aI 0))]))::(13,(.w (.a [(.d (.s ⟨#[112]⟩)),(.o 8)])))::awT1
def awS2:St:=⟨awT2,[aH0,aH1,(7,aR [0]),(6,aR [2]),aH2,aH3,aH4,(2,aR [0]),(1,aR [0])],57⟩
abbrev awT3:List (Nat × V):=(4,(vi .i64 0))::(3,(aO 165))::(21,(vi .i64 0))::(20,(aO 165))::(17,(.t [(.c (.o 165)),(.c (aI 0))]))::(19,(.t [(.c (.o 165)),(.c (aI 0))]))::(18,(.w (.a [(.d (.s ⟨#[112]⟩)),(.o 65)])))::awT2
def awS3:St:=⟨awT3,[aH5,aH6,(64,aR [0]),(63,aR [2]),aH7,aH8,aH9,(59,aR [0]),(58,aR [0]),aH0,aH1,(7,aR [0]),(6,aR [2]),aH2,aH3,aH4,(2,aR [0]),(1,aR [0])],179⟩
abbrev awT4:List (Nat × V):=(6,(vi .i64 0))::(5,(.w (.c (.p 259 0 1 0))))::(26,(vi .i64 0))::(25,(.w (.a [(.d (.s ⟨#[112]⟩)),(.o 240)])))::(22,(.t [(.a [(.d (.s ⟨#[112]⟩)),(.o 240)]),(.c (aI 0))]))::(24,(.t [(.a [(.d (.s ⟨#[112]⟩)),(.o 240)]),(.c (aI 0))]))::(23,(.w (.a [(.d (.s ⟨#[112]⟩)),(.o 187)])))::awT3
def awS4:St:=⟨awT4,[jtx,jty,jtz,jtA,jtB,jtC,(255,aR []),jtD,jtE,jtF,jtG,jtH,(247,aR []),jtI,jtJ,(243,aR []),(242,aR []),(241,aR []),jtK,jtL,jtM,jtN,jtO,jtP,jtQ,jtR,aH5,aH6,(64,aR [0]),(63,aR [2]),aH7,aH8,aH9,(59,aR [0]),(58,aR [0]),aH0,aH1,(7,aR [0]),(6,aR [2]),aH2,aH3,aH4,(2,aR [0]),(1,aR [0])],260⟩
abbrev awT5:List (Nat × V):=(8,(vi .i64 0))::(7,(aO 351))::(31,(vi .i64 0))::(30,(aO 351))::(27,(.t [(.c (.o 351)),(.c (aI 0))]))::(29,(.t [(.c (.o 351)),(.c (aI 0))]))::(28,(.w (.a [(.d (.s ⟨#[112]⟩)),(.o 240)])))::awT4
def awS5:St:=⟨awT5,[aH31,jtx,jty,jtz,jtA,jtB,jtC,(255,aR []),jtD,jtE,jtF,jtG,jtH,(247,aR []),jtI,jtJ,(243,aR []),(242,aR []),(241,aR []),jtK,jtL,jtM,jtN,jtO,jtP,jtQ,jtR,aH5,aH6,(64,aR [0]),(63,aR [2]),aH7,aH8,aH9,(59,aR [0]),(58,aR [0]),aH0,aH1,(7,aR [0]),(6,aR [2]),aH2,aH3,aH4,(2,aR [0]),(1,aR [0])],352⟩
abbrev awT6:List (Nat × V):=(11,(vi .i64 0))::(10,(vi .i64 0))::(9,(aO 428))::(40,(vi .i64 0))::(39,(vi .i64 0))::(38,(aO 428))::(32,(.t [(.c (.o 428)),(.c (aI 0)),(.c (aI 0))]))::(37,(.t [(.c (.o 428)),(.c (aI 0)),(.c (aI 0))]))::(36,(aO 364))::(35,(aO 363))::(34,(.w (.b .f32 32 [1120534528,0,0,0,0,0,0,0,0,0,0,0,0,0,0,0,0,0,0,0,0,0,0,0,0,0,0,0,0,0,0,0])))::(33,(.w (.a [(.d (.s ⟨#[112]⟩)),(.o 360)])))::awT5
def awS6:St:=⟨awT6,[aH32,aH33,aH34,aH35,aH36,aH37,aH38,aH39,aH40,aH41,aH42,aH43,aH31,jtx,jty,jtz,jtA,jtB,jtC,(255,aR []),jtD,jtE,jtF,jtG,jtH,(247,aR []),jtI,jtJ,(243,aR []),(242,aR []),(241,aR []),jtK,jtL,jtM,jtN,jtO,jtP,jtQ,jtR,aH5,aH6,(64,aR [0]),(63,aR [2]),aH7,aH8,aH9,(59,aR [0]),(58,aR [0]),aH0,aH1,(7,aR [0]),(6,aR [2]),aH2,aH3,aH4,(2,aR [0]),(1,aR [0])],499⟩
abbrev awT7:List (Nat × V):=(0,(vb true))::(107,(vb true))::(106,(vb true))::(105,(.w (.c (.d (.f .f32 1120534528)))))::(104,(.w (.c (.p 497 0 32 3))))::(103,(.w (.c (.p 497 0 32 0))))::(102,(aO 497))::(101,(.w (.c (.p 428 0 1 0))))::(100,(aO 428))::(99,(vb true))::(98,(vb true))::(97,(vb true))::(96,(.w (.c (.d (.f .f32 1112276992)))))::(95,(.w (.c (.p 497 0 32 0))))::(94,(.w (.c (.p 497 0 32 0))))::(93,(aO 497))::(92,(.w (.c (.p 428 0 1 0))))::(91,(aO 428))::(90,(vb true))::(89,(vb true))::(88,(vb true))::(87,(vi .i64 1))::(86,(aO 497))::(85,(.w (.c (.p 428 0 1 0))))::(84,(aO 428))::(83,(vb true))::(82,(vb true))::(81,(vb true))::(80,(vi .i64 1))::(79,(aO 428))::(78,(vb true))::(77,(vb true))::(76,(vb true))::(75,(vi .i64 0))::(74,(vb true))::(73,(vb true))::(72,(vb true))::(71,(vi .i64 0))::(70,(vb true))::(69,(vb true))::(68,(vb true))::(67,(aO 501))::(66,(aO 351))::(65,(vb true))::(64,(vb true))::(63,(vb true))::(62,(vi .i64 0))::(61,(vb true))::(60,(vb true))::(59,(vb true))::(58,(vi .i64 0))::(57,(vb true))::(56,(vb true))::(55,(vb true))::(54,(aO 500))::(53,(aO 165))::(52,(vb true))::(51,(vb true))::(50,(vb true))::(49,(vi .i64 0))::(48,(vb true))::(47,(vb true))::(46,(vb true))::(45,(aO 499))::(44,(aO 56))::(43,(vb true))::(42,(vb true))::(41,(vi .i64 0))::awT6
def awS7:St:=⟨awT7,[aH44,aH45,aH46,aH32,aH33,aH34,aH35,aH36,aH37,aH38,aH39,aH40,aH41,aH42,aH43,aH31,jtx,jty,jtz,jtA,jtB,jtC,(255,aR []),jtD,jtE,jtF,jtG,jtH,(247,aR []),jtI,jtJ,(243,aR []),(242,aR []),(241,aR []),jtK,jtL,jtM,jtN,jtO,jtP,jtQ,jtR,aH5,aH6,(64,aR [0]),(63,aR [2]),aH7,aH8,aH9,(59,aR [0]),(58,aR [0]),aH0,aH1,(7,aR [0]),(6,aR [2]),aH2,aH3,aH4,(2,aR [0]),(1,aR [0])],502⟩
abbrev awT8:List (Nat × V):=awT7
def awS8:St:=⟨awT8,[aH44,aH45,aH46,aH32,aH33,aH34,aH35,aH36,aH37,aH38,aH39,aH40,aH41,aH42,aH43,aH31,jtx,jty,jtz,jtA,jtB,jtC,(255,aR []),jtD,jtE,jtF,jtG,jtH,(247,aR []),jtI,jtJ,(243,aR []),(242,aR []),(241,aR []),jtK,jtL,jtM,jtN,jtO,jtP,jtQ,jtR,aH5,aH6,(64,aR [0]),(63,aR [2]),aH7,aH8,aH9,(59,aR [0]),(58,aR [0]),aH0,aH1,(7,aR [0]),(6,aR [2]),aH2,aH3,aH4,(2,aR [0]),(1,aR [0])],502⟩
set_option maxRecDepth 1000000 in
theorem aw_0:jhG (pcE 0) awS0=some (.normal,awS1):=by kernel_rfl
set_option maxRecDepth 1000000 in
theorem aw_1:jhG (pcE 1) awS1=some (.normal,awS2):=by kernel_rfl
set_option maxRecDepth 1000000 in
theorem aw_2:jhG (pcE 2) awS2=some (.normal,awS3):=by kernel_rfl
set_option maxRecDepth 1000000 in
theorem aw_3:jhG (pcE 3) awS3=some (.normal,awS4):=by kernel_rfl
set_option maxRecDepth 1000000 in
theorem aw_4:jhG (pcE 4) awS4=some (.normal,awS5):=by kernel_rfl
set_option maxRecDepth 1000000 in
theorem aw_5:jhG (pcE 5) awS5=some (.normal,awS6):=by kernel_rfl
set_option maxRecDepth 1000000 in
theorem aw_6:jhG (pcE 6) awS6=some (.normal,awS7):=by kernel_rfl
set_option maxRecDepth 1000000 in
theorem aw_7:jhG (pcE 7) awS7=some (.ret,awS8):=by kernel_rfl
def jmY:List SV:=[]
def jlI:Option Bool:=some true
def jfr:List Lf→Option GT
 |[]=>some (.leaf (ok (jlI)) [.c (.d (.b (val (jlI))))])
 |_=>none
abbrev sp_16:jaa→jaa:=jaH 16 true (jal jmY jfr)
set_option maxRecDepth 1000000 in
theorem jBB:jhF (Tryz.f16.body.getD .skip)=[pcE 0,pcE 1,pcE 2,pcE 3,pcE 4,pcE 5,pcE 6,pcE 7]:=by kernel_rfl
theorem jCU:@cxL jbn Tryz.prog dpE Tryz.f16.ntmps 200 (jhF (Tryz.f16.body.getD .skip)) ⟨[],[],0⟩=some (.ret,awS8):=by
 rw[jBB];exact @jdY jbn _ _ _ _ _ _ _ _ _ aw_0 (@jdY jbn _ _ _ _ _ _ _ _ _ aw_1 (@jdY jbn _ _ _ _ _ _ _ _ _ aw_2 (@jdY jbn _ _ _ _ _ _ _ _ _ aw_3 (@jdY jbn _ _ _ _ _ _ _ _ _ aw_4 (@jdY jbn _ _ _ _ _ _ _ _ _ aw_5 (@jdY jbn _ _ _ _ _ _ _ _ _ aw_6 ((@jvH jbn _ _ _ _ _ _).trans aw_7)))))))
set_option maxRecDepth 1000000 in
theorem jtS:jaf Tryz.prog 16 true (jal jmY jfr) :=
 jqO jbn globs rfl rfl (@jyQ jbn Tryz.prog dpE 16 200 Tryz.f16 (Tryz.f16.body.getD .skip) (.b true) .ret awS8 jfr mixed jCC jAn Tryz.func16 (by kernel_rfl) (by kernel_rfl) jCU (fun j h=>by cases h) (by kernel_rfl) fun ls t h=>by
  unfold jfr at h;split at h
  ·cases h;exact⟨rfl,_,rfl⟩
  ·cases h)
theorem sp_16_ok {sp:jaa} (h:jac Tryz.prog sp):jac Tryz.prog (sp_16 sp):=jas jtS h
def jfP:List SV:=[.a [.d,.x (.st [.s,.i .i64,.ints .i64,.ints .i64,.ints .i64,.i .i64,.recs 5,.i .i64] [])],.c (.r (.ints .i64 []))]
def jbm (u4:ByteArray) (u1:List (List NC)) (l:List Int):Option Bool :=
 Option.bind (jeb u4 u1) fun r0 =>
 if(!r0)=true then
  some true
 else
  if(↑l.length:Int)>26 then
  some true
  else
  Option.bind (y80 u4 u1) fun r1 =>
  Option.bind (y42 l) fun r2 =>
  Option.bind (y29 r1.1 r1.2 r2) fun r3 =>
  Option.bind (y80 u4 u1) fun r4 =>
  Option.bind (jbb r1.1 r1.2) fun r5 =>
  Option.bind (y58 u4 u1) fun r6 =>
  if(r6 != 0)=true then
   if(r3==r6)=true then
   if(r5.2==r6)=true then
    some ((↑r5.1.length:Int)==0)
   else
    some false
   else
   some false
  else
   Option.bind (y41 u4 u1 l) fun r7 =>
   if(r3==r7)=true then
   if(r5.2==0)=true then
    Option.bind (y83 u4 u1) fun r8 =>
    Option.bind (jfc r5.1 r8) fun r9 =>
    some r9
   else
    some false
   else
   some false
def jfQ:List Lf→Option GT
 |[.d (.s u4),.x (.st [.s,.i .i64,.ints .i64,.ints .i64,.ints .i64,.i .i64,.recs 5,.i .i64] u1),.r (.ints .i64 l)]=>some (.leaf (ok (jbm u4 u1 l)) [.c (.d (.b ((val (jbm u4 u1 l)))))])
 |_=>none
def jlJ (u4:ByteArray) (u1:List (List NC)) (l:List Int) (r:Bool):Sk (top r) (jbm u4 u1 l) :=
 .obC (ok jlI) (by decide) (.call (.brB
 (.obT (.rc))
 (.br
 (.obT (.rc))
 (.call (.call (.call (.call (.call (.call (.brB
 (.brB
 (.brB
 (.obT (.rc))
 (.obT (.rc)))
 (.obT (.rc)))
 (.call (.brB
 (.brB
 (.call (.call (.obT (.rc))))
 (.obT (.rc)))
 (.obT (.rc))))))))))))))
theorem jkh (u4:ByteArray) (u1:List (List NC)) (l:List Int) (r:Bool) (h:Option.bind (jbm u4 u1 l) some=some r):jbg Tryz.f4 ((sp_16 (sp_17 (sp_26 (sp_25 (sp_19 (sp_27 (sp_22 (sp_28 (sp_30 (sp_29 sp0))))))))))) (fun _ _ _=>none) (ja8 jfP [.d (.s u4),.x (.st [.s,.i .i64,.ints .i64,.ints .i64,.ints .i64,.i .i64,.recs 5,.i .i64] u1),.r (.ints .i64 l)]) [.c (.d (.b r))] :=
 Sk.vc (jlJ u4 u1 l r) (by kernel_rfl) h
theorem jki:jaf Tryz.prog 4 true (jal jfP jfQ):=by
 refine jaA (sp:=(sp_16 (sp_17 (sp_26 (sp_25 (sp_19 (sp_27 (sp_22 (sp_28 (sp_30 (sp_29 sp0))))))))))) (fn:=Tryz.f4) (body:=bodyOf Tryz.f4) mixed (sp_16_ok (sp_17_ok (sp_26_ok (sp_25_ok (sp_19_ok (sp_27_ok (sp_22_ok (sp_28_ok (sp_30_ok (sp_29_ok jau)))))))))) Tryz.func4 (by kernel_rfl) (by kernel_rfl) fun ls t h ho b hb=>?_;unfold jfQ at h;split at h
 ·rename_i u4 u1 l;cases h;obtain rfl:=jaM hb;exact⟨Nat.le_of_ble_eq_true (by kernel_rfl),_,_,jkh u4 u1 l _ (jaq ho)⟩
 ·cases h
open Go.Sx09 (needL)
variable {g:List (List NC)} {l:List Int}
theorem jy4 (g:List (List NC)) (l:List Int):∀k,stg (cpU g) l k=stg g l k
 |0=>by unfold stg;rw[jbz]
 |k+1=>by
  have hn:∀i m,nbL (cpU g) i m=nbL g i m:=fun i m=>by
   unfold nbL;have:jbo (cpU g) i=jbo g i:=by funext u;unfold jbo;rw[(cpL i).1,(cpI i).2.2]
   rw[this]
  rw[jfb,jfb,jy4 g l k,hn,jbz]
theorem jvJ (h:Rg g l):jch g l=jc4 g l:=by
 unfold jch jc4;rw[h.len];exact jvy h _ (Nat.le_refl _)
theorem jAB (h:Rg g l):jeB g l=true:=by
 have hn:=h.n;have hl:=h.len;obtain⟨f1,f2,f3,_⟩:=jgr h;unfold jeB;rw[jvJ h];simp only[Bool.and_eq_true,decide_eq_true_eq];refine⟨⟨⟨⟨by omega,by omega⟩,List.all_eq_true.2 fun x hx=>?_⟩,List.all_eq_true.2 fun x hx=>?_⟩,List.all_eq_true.2 fun i hi=>?_⟩
 ·obtain⟨j,hj,rfl⟩:=List.mem_iff_getElem.1 hx;obtain⟨i,hi,e,_⟩:=h.at (j:=j) (by omega);rw[jhD 0 hj]at e;rw[e];exact jgz.2 ⟨by omega,by omega⟩
 ·obtain⟨j,hj,rfl⟩:=List.mem_iff_getElem.1 hx;have h2:=f2 j (by omega);have h3:=f3 j (by omega);rw[jhD 0 hj]at h2 h3;exact jgz.2 ⟨h2,by omega⟩
 ·have hi:=List.mem_range.1 hi;have hf:=h.fw.fr i hi;simp only[Bool.and_eq_true,decide_eq_true_eq];refine⟨by omega,List.all_eq_true.2 fun x hx=>jgz.2 ?_⟩;obtain⟨k,hk,_,rfl⟩:=jl3.1 ((jnA h hi x).1 hx);omega
theorem jxh (h:Rg g l) {nm:ByteArray} (hs:nm.size<1000) (h0:(cg nm g).2=0):jbb nm g=some (jbP (jc4 g l) g.length,0):=by
 have hf:=jnv h.fw hs h0;rw[h.ord]at hf;have hS:=js6 h.fw hs h0 h.ord;unfold jbb jda jbU jbL;rw[hf,hS,if_neg (by simp),Option.map_some,jad,jAB h,if_pos rfl,jvJ h,(jgr h).1]
theorem jAC (a:List (List Int)) (ha:a.length<9223372036854775807) (hb:∀i,i<a.length→(a.getD i []).length<9223372036854775807):jfc a a=some true:=by
 unfold jfc;rw[if_neg (by simp)];rw[jcv a [] (fun _=>false) (.inl ()) (.inr ()) ha (fun i hi hp=>by cases hp) (fun i hi hp=>?_) ?_]
 ·have:a.any (fun _=>false)=false:=by simp
  rw[this];rfl
 ·unfold jgs;simp only[Int.toNat_natCast];rw[if_neg (by omega)]
 ·unfold jgs;simp only[Int.toNat_natCast];rw[if_pos (by omega),if_pos (by omega),if_pos hi,if_pos (by omega),if_pos hi,jx8 _ (hb i hi),jad,if_neg (by simp),jaL (by omega)]
theorem jmZ {e:Int} (he:0<e) {nm:ByteArray} {o:List Int} (h:jbh nm g=some e):y29 nm g o=some e∧jbb nm g=some ([],e):=by
 unfold y29 jbb jda jbU;rw[h];refine⟨?_,?_⟩
 ·show Option.bind (Option.bind (some e) _) _=_
  simp only[jad];rw[if_pos he,jad,jvt he]
 ·show Option.bind (Option.bind (some e) _) _=_
  simp only[jad];rw[if_pos he,jad,jvt he]
theorem jmn (nm:ByteArray) (g:List (List NC)) (l:List Int):jbm nm g l=some true:=by
 unfold jbm;rcases jyd nm g with h|⟨h,hw,hs⟩
 ·rw[h];rfl
 ·have hc:=jAP hw;have hn:=hw.n;rw[h,jad,if_neg (by simp)]
  by_cases h26:(l.length:Int)>26
  ·rw[if_pos h26]
  ·rw[if_neg h26,jBj hw,jdK l (by omega)];simp only[jad];rw[juQ hw hs]
   by_cases h0:(cg nm g).2=0
   ·have hne:¬((cg nm g).2≠0):=fun hn=>hn h0;rw[if_neg hne];cases hl:jdz (jbF g) g.length []with
    |none =>
     have ho:jbh nm (cpU g)=some 19:=by rw[jnv hc hs (by rw[joS];exact h0),jqF,jbz,hl]
     obtain⟨h1,h2⟩:=jmZ (o:=l) (by omega) ho;rw[h1,h2];rfl
    |some od =>
     have hr:=rg_of hw h0 hl;have h0c:(cg nm (cpU g)).2=0:=by rw[joS];exact h0
     obtain⟨e,h1,h2⟩:=jtt hr nm hs h0 l (by omega);have hF:jc4 (cpU g) od=jc4 g od:=by unfold jc4;rw[jbz,jy4]
     rw[h1,jxh hr.cp hs h0c,hF,jbz];simp only[jad];have hm:=jo4 (jc4 g od) g.length g.length (jgr hr).2.2.1;rw[if_neg (by simp),h2,jad,if_pos (by simp),if_pos (by rfl),jxd hr nm,jad,jAC _ (by rw[jg4];omega) (fun i hi=>?_),jad];rw[jg4]at hi;have:(jbP (jc4 g od) g.length).getD i []=grp (jc4 g od) g.length i:=by simp[jbP,List.getD,hi]
     rw[this];have:=jyZ (jc4 g od) g.length i;omega
   ·have hp:0<(cg nm g).2:=by have:=jyo nm g;omega
    have ho:jbh nm (cpU g)=some (cg nm g).2:=by rw[jyp hc hs (by rw[joS];exact h0),joS]
    obtain⟨h1,h2⟩:=jmZ (o:=l) hp ho;rw[h1,h2];simp only[jad];rw[if_pos h0,if_pos (bne_iff_ne.2 h0),if_pos (by simp),if_pos (by simp)];rfl
end Go.Sh
end

section
namespace Go.Sx
open Go.RowKit Go.ChangeShapes Go.WideShapes
inductive K where
 |i (k:IntKind)|b|f (k:FloatKind)|s
def K.fits:K→D→Prop
 | .i k,.i k' n=>k'=k∧(Lit.int k n).wf=true
 | .b,.b _=>True
 | .f k,.f k' n=>k'=k∧(Lit.float k n).wf=true
 | .s,.s x=>x.size≤maxLen
 |_,_=>False
def jbj:List K→List D→Prop
 |[],[]=>True
 |k::ks,d::ds=>k.fits d∧jbj ks ds
 |_,_=>False
theorem jfe:∀{ks:List K} {ds:List D} {ks':List K} {ds':List D},jbj ks ds→jbj ks' ds'→jbj (ks++ks') (ds++ds')
 |[],[],_,_,_,h=>h
 |_::_,_::_,_,_,h,h'=>⟨h.1,jfe h.2 h'⟩
 |[],_::_,_,_,h,_=>h.elim
 |_::_,[],_,_,h,_=>h.elim
theorem jff:∀{ks:List K} {ds:List D},jbj ks ds→ds.length=ks.length
 |[],[],_=>rfl
 |_::_,_::_,h=>by simp[jff h.2]
 |[],_::_,h=>h.elim
 |_::_,[],h=>h.elim
def jgA (g:TypeId→Option (List K)) (P:Program):Nat→List Field→Option (List K)
 |_,[]=>some []
 |n,f::fs=>match g f.type with
  |none=>none
  |some ks=>if f.offset=n∧P.cellsOf f.type=ks.length then(jgA g P (n+ks.length) fs).map (ks ++ ·)else none
def jeG (P:Program):Nat→TypeId→Option (List K)
 |0,_=>none
 |d+1,t=>match P.underlying t with
  |some .bool=>some [.b]
  |some (.int k)=>some [.i k]
  |some (.float k)=>some [.f k]
  |some .string=>some [.s]
  |some (.struct fs)=>match jgA (jeG P d) P 0 fs.toList with
   |some ks=>if P.cellsOf t=ks.length then some ks else none
   |none=>none
  |some (.array n e)=>match jeG P d e with
   |some ks=>if P.cellsOf t=n*ks.length∧P.cellsOf e=ks.length then some (List.replicate n ks).flatten else none
   |none=>none
  |_=>none
section
variable {H:Type} {enc:TypeId × Value→H} {P:Program} {w:World} {base:Nat} {spare:Nat→Bool} {held:Bool}
theorem jm0 {ks:List K} {e:TypeId} {m:Nat} (ih:∀cs x,DataW.trod enc P w base spare held m e cs=some x→∃ds:List D,cs=ds.map D.val∧jbj ks ds) :
  ∀(n:Nat) (cs:List Value),cs.length=n*ks.length→(∀i,i<n→∃x,DataW.trod enc P w base spare held m e ((cs.drop (i*ks.length)).take ks.length)=some x)→∃ds:List D,cs=ds.map D.val∧jbj (List.replicate n ks).flatten ds
 |0,cs,hl,_=>⟨[],by simpa using hl,trivial⟩
 |n+1,cs,hl,h=>by
  obtain⟨x,hx⟩:=h 0 (by omega);obtain⟨ds0,h0,h1⟩:=ih _ x hx
  obtain⟨ds1,h2,h3⟩:=jm0 ih n (cs.drop ks.length) (by rw[List.length_drop,hl,Nat.add_mul];omega) (fun i hi=>by
   obtain⟨y,hy⟩:=h (i+1) (by omega);refine⟨y,?_⟩;rw[List.drop_drop];rw[show ks.length+i*ks.length=(i+1)*ks.length by rw[Nat.add_mul];omega];exact hy)
  refine⟨ds0++ds1,?_,jfe h1 h3⟩;rw[List.map_append,←h0,←h2];simp
theorem jlK {g:TypeId→Option (List K)} {m:Nat} (ih:∀t ks cs x,g t=some ks→DataW.trod enc P w base spare held m t cs=some x→∃ds:List D,cs=ds.map D.val∧jbj ks ds) :
  ∀(fs:List Field) (n:Nat) (ks:List K) (cs:List Value),jgA g P n fs=some ks→cs.length=n+ks.length→(∀f∈fs,∃x,DataW.trod enc P w base spare held m f.type ((cs.drop f.offset).take (P.cellsOf f.type))=some x) →
   ∃ds:List D,cs.drop n=ds.map D.val∧jbj ks ds
 |[],n,ks,cs,hk,hl,_=>by
  simp only[jgA,Option.some.injEq]at hk;subst hk;refine⟨[],?_,trivial⟩;simp at hl;simp[hl]
 |f::fs,n,ks,cs,hk,hl,h=>by
  simp only[jgA]at hk;split at hk
  ·cases hk
  ·rename_i kf hg;split at hk
   ·rename_i hc;cases hr:jgA g P (n+kf.length) fs with
    |none=>simp[hr]at hk
    |some kr =>
     simp only[hr,Option.map_some,Option.some.injEq]at hk;subst hk;obtain⟨x,hx⟩:=h f List.mem_cons_self;rw[hc.1,hc.2]at hx;obtain⟨ds0,h0,h1⟩:=ih f.type kf _ x hg hx;obtain⟨ds1,h2,h3⟩:=jlK ih fs (n+kf.length) kr cs hr (by rw[hl,List.length_append];omega) (fun f' hf'=>h f' (List.mem_cons_of_mem _ hf'));refine⟨ds0++ds1,?_,jfe h1 h3⟩;rw[List.map_append,←h0,←h2,←List.drop_drop];exact(List.take_append_drop _ _).symm
   ·cases hk
theorem jgv:∀(d:Nat) (t:TypeId) (ks:List K) (fuel:Nat) (cs:List Value) (x:DataW H × List MemPlace),jeG P d t=some ks→DataW.trod enc P w base spare held fuel t cs=some x →
  ∃ds:List D,cs=ds.map D.val∧jbj ks ds
 |0,_,_,_,_,_,h,_=>by cases h
 |d+1,t,ks,fuel,cs,x,hk,hx=>by
  unfold jeG at hk;split at hk
  ·rename_i ht;cases hk;obtain⟨b,rfl,_⟩:=DataW.trod_bool ht hx;exact⟨[.b b],rfl,trivial,trivial⟩
  ·rename_i k ht;cases hk;obtain⟨n,rfl,_,hw⟩:=DataW.trod_int ht hx;exact⟨[.i k n],rfl,⟨rfl,hw⟩,trivial⟩
  ·rename_i k ht;cases hk;cases fuel with
   |zero=>simp[DataW.trod]at hx
   |succ n =>
    rcases cs with _|⟨v,_|⟨v',r⟩⟩
    ·simp[DataW.trod,ht]at hx
    ·cases v with
     |float k2 n2 =>
      simp only[DataW.trod,ht]at hx;split at hx
      ·rename_i hh;exact⟨[.f k2 n2],rfl,⟨hh.1,hh.2⟩,trivial⟩
      ·cases hx
     |_=>simp[DataW.trod,ht]at hx
    ·simp[DataW.trod,ht]at hx
  ·rename_i ht;cases hk;obtain⟨z,rfl,_,hw⟩:=DataW.trod_string ht hx;exact⟨[.s z],rfl,hw,trivial⟩
  ·rename_i fs ht;split at hk
   ·rename_i ks' hks;split at hk
    ·rename_i hc;cases hk;obtain⟨xs,n,rfl,_,hl,hxl,hf⟩:=DataW.trod_struct ht hx
     have:=jlK (enc:=enc) (w:=w) (base:=base) (spare:=spare) (held:=held) (g:=jeG P d) (m:=n) (fun t ks cs x h1 h2=>jgv d t ks n cs x h1 h2) fs.toList 0 ks cs hks (by rw[hl,hc];omega) (fun f hfm=>by
      obtain⟨i,hi,hfi⟩:=List.mem_iff_getElem.1 hfm;have hi':i<fs.size:=by simpa using hi
      have h1:=hf i f (by rw[Array.getElem?_eq_getElem hi'];simpa using hfi);exact⟨xs[i]'(by omega),by rw[h1,List.getElem?_eq_getElem]⟩)
     simpa using this
    ·cases hk
   ·cases hk
  ·rename_i n e ht;split at hk
   ·rename_i ks' hks;split at hk
    ·rename_i hc;cases hk;obtain⟨xs,m,rfl,_,hl,hxl,hf⟩:=DataW.trod_array ht hx
     exact jm0 (fun cs x h=>jgv d e ks' m cs x hks h) n cs (by rw[hl,hc.1]) (fun i hi=>by
      have h1:=hf i hi;rw[hc.2]at h1;exact⟨xs[i]'(by omega),by rw[h1,List.getElem?_eq_getElem]⟩)
    ·cases hk
   ·cases hk
  ·cases hk
theorem jqR {t e:TypeId} {ks:List K} {d fuel:Nat} {cs:List Value} {x:DataW H × List MemPlace} (ht:P.underlying t=some (.slice e)) (hk:jeG P d e=some ks) (hc:P.cellsOf e=ks.length) (h0:0<ks.length)
  (hx:DataW.trod enc P w base spare held fuel t cs=some x) :
  ∃(v:Value) (rows:List (List D)),cs=[v]∧(∀r∈rows,jbj ks r)∧jaD w v (.lits ks.length rows)∧(x.1=.nil∧rows=[]∨∃el sp,x.1=.slice el sp∧el.length=rows.length):=by
 rcases DataW.trod_slice ht hx with ⟨rfl,rfl⟩|⟨a,len,cap,elems,rest,n,rfl,rfl,rfl,hb,hl,hm,hel,hi,_,_⟩
 ·exact⟨_,[],rfl,(fun _ h=>by cases h),⟨none,0,rfl,⟨by simp[Cont.n],fun _=>rfl⟩,fun h=>absurd h (by simp[Cont.n])⟩,.inl ⟨rfl,rfl⟩⟩
 ·-- each element's cells
  have hget:∀i,i<len→∃ds:List D,jbj ks ds∧∀j,j<ks.length→w.cell? ((a.add (i*ks.length)).add j)=(ds[j]?).map D.val:=fun i hil=>by
   have h1:=hi i hil;rw[hc]at h1;have h2:elems[i]?=some (elems[i]'(by omega)):=List.getElem?_eq_getElem (by omega);rw[h2]at h1;obtain⟨cs',hcs,htr⟩:=Option.bind_eq_some_iff.1 h1;obtain⟨ds,hds,hfit⟩:=jgv d e ks n cs' _ hk htr;obtain⟨_,hcl,hat⟩:=World.cells?_some hcs;refine⟨ds,hfit,fun j hj=>?_⟩;rw[hat j hj,hds,List.getElem?_map]
  let R:Nat→List D:=fun i=>if h:i<len then Classical.choose (hget i h)else[]
  have hR:∀i (h:i<len),jbj ks (R i)∧∀j,j<ks.length→w.cell? ((a.add (i*ks.length)).add j)=((R i)[j]?).map D.val:=fun i h=>by
   show jbj ks (if h:i<len then _ else _)∧_
   simp only[R,dif_pos h];exact Classical.choose_spec (hget i h)
  refine⟨_,(List.range len).map R,rfl,fun r hr=>?_,?_,.inr ⟨_,_,rfl,by simp[hel]⟩⟩
  ·obtain⟨i,hi',rfl⟩:=List.mem_map.1 hr;exact(hR i (by simpa using hi')).1
  ·refine⟨some a,cap,by simp[Cont.n],⟨by simpa [Cont.n]using hl,fun h=>by cases h⟩,fun hn=>?_⟩;have hn:0<len:=by simpa [Cont.n]using hn
   have hsp:a.spot=none:=by
    have h1:=(hR 0 hn).2 0 h0;have hfl:=jff (hR 0 hn).1;rw[List.getElem?_eq_getElem (by omega)]at h1;simp[Addr.add]at h1;cases hs:a.spot with
    |none=>rfl
    |some s =>
     exfalso;unfold World.cell? at h1;simp only[hs]at h1;split at h1
     ·simp at h1
     ·cases h1
   obtain⟨b,off,sp⟩:=a;simp only at hsp;subst hsp;refine⟨b,off,rfl,fun j y hj=>?_⟩;have hne:0<ks.length:=h0;have hjl:j<(Cont.lits ks.length ((List.range len).map R)).flat.length:=(List.getElem?_eq_some_iff.1 hj).1;rw[Cont.flat_length]at hjl;simp only[Cont.n,Cont.e,List.length_map,List.length_range]at hjl;have hq:j/ks.length<len:=Nat.div_lt_of_lt_mul (by rw[Nat.mul_comm];exact hjl);have hr:j%ks.length<ks.length:=Nat.mod_lt _ hne;have hg:=Cont.flat_get (.lits ks.length ((List.range len).map R)) (i:=j/ks.length) (j:=j%ks.length) (by simpa [Cont.n]using hq) hr;have ej:j/ks.length*ks.length+j%ks.length=j:=by rw[Nat.mul_comm];exact Nat.div_add_mod j _
   simp only[Cont.e]at hg;rw[ej,hj]at hg;have hcell:=(hR (j/ks.length) hq).2 (j%ks.length) hr;have hfl:=jff (hR (j/ks.length) hq).1;rw[jaJ,jaJ,Nat.add_assoc,ej,List.getElem?_eq_getElem (by omega)]at hcell;rw[hcell];simp only[Option.some.injEq]at hg;simp[hg,Cont.cell,List.getD,hq,List.getElem?_eq_getElem (show j%ks.length<(R (j/ks.length)).length by omega)]
theorem jjR {v:Value} {c c':Cont} (h:jaD w v c) (hn:c'.n=c.n) (hf:c'.flat=c.flat):jaD w v c':=by
 obtain⟨a,cap,hv,hc,hcell⟩:=h
 exact⟨a,cap,by rw[hn];exact hv,by rw[hn];exact hc,fun h=>by
  obtain⟨b,off,e,hx⟩:=hcell (by rw[←hn];exact h);exact⟨b,off,e,by rw[hf];exact hx⟩⟩
theorem jvK:∀{n:Nat} {r:List D},jbj (List.replicate n (.i .i64)) r→∃l:List Int,r=l.map (D.i .i64)∧l.length=n∧∀x∈l,inI x
 |0,[],_=>⟨[],rfl,rfl,fun _ h=>by cases h⟩
 |n+1,.i k x::r,h=>by
  obtain⟨l,h1,h2,h3⟩:=jvK (n:=n) h.2;obtain⟨rfl,hw⟩:=h.1;refine⟨x::l,by rw[h1];rfl,by simp[h2],fun y hy=>?_⟩;rcases List.mem_cons.1 hy with rfl|hy
  ·unfold inI;simpa [Lit.wf,IntKind.min,IntKind.max,IntKind.signed,IntKind.bits]using hw
  ·exact h3 y hy
 |0,_::_,h=>h.elim
 |_+1,[],h=>h.elim
 |_+1,.b _::_,h=>h.1.elim
 |_+1,.f _ _::_,h=>h.1.elim
 |_+1,.s _::_,h=>h.1.elim
 |_+1,.v _::_,h=>h.1.elim
theorem jqS {n:Nat} {rows:List (List D)} (h:∀r∈rows,jbj (List.replicate n (.i .i64)) r):∃l:List (List Int),rows=l.map (fun r=>r.map (D.i .i64))∧l.length=rows.length∧∀r∈l,r.length=n∧∀x∈r,inI x:=by
 induction rows with
 |nil=>exact⟨[],rfl,rfl,fun _ h=>by cases h⟩
 |cons r rows ih =>
  obtain⟨l,h1,h2,h3⟩:=ih fun r hr=>h r (List.mem_cons_of_mem _ hr);obtain⟨x,h4,h5,h6⟩:=jvK (h r List.mem_cons_self);refine⟨x::l,by rw[h1,h4];rfl,by simp[h2],fun y hy=>?_⟩;rcases List.mem_cons.1 hy with rfl|hy
  ·exact⟨h5,h6⟩
  ·exact h3 y hy
theorem jqT {n:Nat} {l:List (List Int)} (h:∀r∈l,r.length=n):(Cont.recs n l).flat=(Cont.lits n (l.map fun r=>r.map (D.i .i64))).flat:=by
 simp only[Cont.flat]
 induction l with
 |nil=>rfl
 |cons r l ih =>
  rw[List.flatMap_cons,List.map_cons,List.flatMap_cons,ih fun r hr=>h r (List.mem_cons_of_mem _ hr)]
  congr 1
  have hr:=h r List.mem_cons_self;subst hr;rw[jkr];exact(litD_self' (r.map (D.i .i64)) (by simp)).symm
 where
 litD_self' {n:Nat} (r:List D) (h:r.length=n):jhI n r=r:=by subst h;exact jks r
theorem jy5 {t e:TypeId} {d n fuel:Nat} {cs:List Value} {x:DataW H × List MemPlace} (ht:P.underlying t=some (.slice e)) (hk:jeG P d e=some (List.replicate n (.i .i64))) (hc:P.cellsOf e=n) (h0:0<n)
  (hx:DataW.trod enc P w base spare held fuel t cs=some x) :
  ∃(v:Value) (l:List (List Int)),cs=[v]∧jaD w v (.recs n l)∧(∀r∈l,r.length=n∧∀x∈r,inI x)∧(x.1=.nil∧l=[]∨∃el sp,x.1=.slice el sp∧el.length=l.length):=by
 obtain⟨v,rows,h1,h2,h3,h4⟩:=jqR ht hk (by simpa using hc) (by simpa using h0) hx;obtain⟨l,h5,h6,h7⟩:=jqS h2;subst h5;refine⟨v,l,h1,jjR h3 (by simp[Cont.n]) ?_,h7,?_⟩
 ·rw[List.length_replicate];exact jqT fun r hr=>(h7 r hr).1
 ·rcases h4 with h4|⟨el,sp,h4,h8⟩
  ·exact .inl ⟨h4.1,by simpa using h4.2⟩
  ·exact .inr ⟨el,sp,h4,by simpa using h8⟩
theorem jy6 {t e:TypeId} {d fuel:Nat} {cs:List Value} {x:DataW H × List MemPlace} (ht:P.underlying t=some (.slice e)) (hk:jeG P d e=some [.i .i64]) (hc:P.cellsOf e=1)
  (hx:DataW.trod enc P w base spare held fuel t cs=some x) :
  ∃(v:Value) (l:List Int),cs=[v]∧jaD w v (.ints .i64 l)∧(∀x∈l,inI x)∧(x.1=.nil∧l=[]∨∃el sp,x.1=.slice el sp∧el.length=l.length):=by
 obtain⟨v,l,h1,h2,h3,h4⟩:=jy5 (n:=1) ht hk hc (by omega) hx;refine⟨v,l.map (fun r=>r.getD 0 0),h1,jjR h2 (by simp[Cont.n]) ?_,fun x hx=>?_,?_⟩
 ·simp only[Cont.flat];clear h2 h4
  induction l with
  |nil=>rfl
  |cons r l ih =>
   rw[List.map_cons,List.flatMap_cons,List.flatMap_cons,ih fun r hr=>h3 r (List.mem_cons_of_mem _ hr)];rfl
 ·obtain⟨r,hr,rfl⟩:=List.mem_map.1 hx;have:=h3 r hr
  match r,this with
  |[y],this=>exact this.2 y (by simp)
 ·rcases h4 with h4|⟨el,sp,h4,h8⟩
  ·exact .inl ⟨h4.1,by simpa using h4.2⟩
  ·exact .inr ⟨el,sp,h4,by simpa using h8⟩
end
inductive ArgIs (w:World):Value→A→Prop where
 |d (x:D):ArgIs w x.val (.d x)
 |s (l:List D):ArgIs w (.agg (l.map D.val).toArray) (.s l)
 |r (v:Value) (c:Cont) (he:0<c.e) (h:jaD w v c):ArgIs w v (.r c)
section
variable [Globs] {P:Program} {w:World}
end
section
variable {H:Type} {enc:TypeId × Value→H} {P:Program}
theorem jtT {sp:Nat→Bool} (hl:laidOutB P=true) {W W':World} (hb:Below W.heap.size W W'):∀(ts:List TypeId) (vs:List Value) (ds:List (DataW H)) (ps:List MemPlace),(∀t∈ts,P.readableRec t=true∧t<P.types.size) →
  DataW.TrodAll enc P W 0 (fun _=>true) true ts vs ds ps→(∀p∈ps,p.block<W.heap.size)→(∀p∈ps,sp p.block=true)→DataW.TrodAll enc P W' 0 sp true ts vs ds ps
 |[],[],[],_,_,h,_,_=>h
 |t::ts,v::vs,d::ds,ps,ht,h,hlt,hs=>by
  obtain⟨p,q,h1,h2,rfl⟩:=h;have htt:=ht t List.mem_cons_self
  exact⟨p,q,WideElems.Trod_stays hl htt.1 htt.2 h1 (fun x hx=>hb.same (hlt x (List.mem_append_left _ hx))) (fun x hx=>hs x (List.mem_append_left _ hx)),
   jtT hl hb ts vs ds q (fun t ht'=>ht t (List.mem_cons_of_mem _ ht')) h2 (fun x hx=>hlt x (List.mem_append_right _ hx)) (fun x hx=>hs x (List.mem_append_right _ hx)),rfl⟩
 |[],_::_,_,_,_,h,_,_=>h.elim
 |_::_,[],_,_,_,h,_,_=>h.elim
 |[],[],_::_,_,_,h,_,_=>h.elim
 |_::_,_::_,[],_,_,h,_,_=>h.elim
theorem jAD {f:Func} {s:ChangeSpec} {apart fresh handsOn again:Bool} {W W':World} {args:Array Value} {ds gs:List (DataW H)} {before:List MemPlace} {tb:TypeId} (hvars:s.vars=[]) (hrt:f.resultTypes=#[tb]) (htb:P.underlying tb=some .bool)
  (hres:(s.fn H (ds++gs)).results=[.lit (.bool true)]) (hargs:(s.fn H (ds++gs)).args=ds) (hsv:(s.fn H (ds++gs)).vars=[]) (hl:laidOutB P=true) (hread:∀t∈f.params.toList,P.readableRec t=true∧t<P.types.size)
  (hW:DataW.Whole enc P f.params.toList s.vars apart W args.toList ds gs before) (hb:Below W.heap.size W W'):s.post enc P f apart fresh handsOn again W args (.bool true) W':=by
 have hlt:∀p∈before,p.block<W.heap.size:=fun p hp=>hW.lt p hp;have hW':=hW;obtain⟨p,q,h1,h2,rfl,hfz,hnd⟩:=hW';rw[hvars]at h2
 have hq:q=[]:=by
  cases gs with
  |nil=>exact h2
  |cons _ _=>exact h2.elim
 subst hq;rw[List.append_nil]at hlt hfz hnd;have hA:∀sp:Nat→Bool,(∀x∈p,sp x.block=true)→DataW.TrodAll enc P W' 0 sp true f.params.toList args.toList ds p:=fun sp hs=>jtT hl hb _ _ _ _ hread h1 hlt hs;have hR:∀(b:Nat) (sp:Nat→Bool) (hd:Bool),DataW.TrodAll enc P W' b sp hd [tb] [.bool true] [.lit (.bool true)] []:=fun b sp hd=>⟨[],[],⟨1,by simp[DataW.trod,htb,Value.cells]⟩,rfl,rfl⟩
 have hrl:(Value.bool true).resultList f.resultTypes.size=[.bool true]:=by rw[hrt];rfl
 have hrt':f.resultTypes.toList=[tb]:=by rw[hrt]
 refine⟨ds,gs,p++[],[],p,[],hW,?_,?_,?_,World.keptBut_mono (fun x hx=>⟨hx,.inr (.inl (by simpa using hx))⟩) (hb.frame (·∈ p++[])),fun _=>⟨fun j t r hj hr=>?_,?_⟩⟩
 ·rw[hrl,hrt',hres];exact hR _ _ _
 ·rw[hargs];exact hA _ (fun x hx=>by simpa using hlt x hx)
 ·rw[hvars,hsv];rfl
 ·rw[hrt]at hj;rw[hrl]at hr;cases j with
  |zero =>
   simp at hj hr;subst hj;subst hr;exact okWide_bool_mk htb _
  |succ j=>simp at hj
 ·refine⟨[.lit (.bool true)]++ds,[],p,⟨p,[],?_,by rw[hvars];rfl,by simp,?_,?_⟩,fun x hx _=>by simpa using hx⟩
  ·rw[hrl,hrt'];exact⟨[],p,⟨1,by simp[DataW.trod,htb,Value.cells]⟩,hA _ (fun _ _=>rfl),rfl⟩
  ·intro b off hp;rw[hb.frozen (hlt _ hp)];exact hfz b off hp
  ·exact hnd
end
section
variable {H:Type} {enc:TypeId × Value→H} {P:Program} {w:World} {base:Nat} {spare:Nat→Bool} {held:Bool} {r:Reach} {b0:Nat}
theorem jAE {t e:TypeId} {v v':Value} (ht:P.underlying t=some (.slice e)) (hval:Value.okWide P w r b0 t v) (h:v.cells.toList=[v']):v=v':=by
 obtain⟨a,len,cap,rfl⟩:=okWide_slice ht hval;simpa [Value.cells]using h
theorem jAF {t e:TypeId} {d:Nat} {v:Value} {x:DataW H} {p:List MemPlace} (ht:P.underlying t=some (.slice e)) (hk:jeG P d e=some [.i .i64]) (hc:P.cellsOf e=1)
  (hval:Value.okWide P w r b0 t v) (h:DataW.Trod enc P w base spare held t v x p) :
  ∃l:List Int,ArgIs w v (.r (.ints .i64 l))∧(∀x∈l,inI x)∧(x=.nil∧l=[]∨∃el sp,x=.slice el sp∧el.length=l.length):=by
 obtain⟨fuel,hx⟩:=h;obtain⟨v',l,h1,h2,h3,h4⟩:=jy6 ht hk hc hx;have:=jAE ht hval h1;subst this;exact⟨l,.r _ _ (Nat.succ_pos 0) h2,h3,h4⟩
theorem jCV {α:Type} {ts:List TypeId} {ds:List (DataW H)} (h:(DataW.weightsEach P ts ds).all (·≤ reachBytes)=true) {j:Nat} {t e:TypeId} {x:DataW H} {l:List α} (ht:ts[j]?=some t) (hd:ds[j]?=some x) (hu:P.underlying t=some (.slice e)) (hb:0<P.bytesOf e)
  (hx:x=.nil∧l=[]∨∃el sp,x=.slice el sp∧el.length=l.length):l.length*P.bytesOf e≤140737488355328:=by
 rcases hx with ⟨_,rfl⟩|⟨el,sp,rfl,he⟩
 ·simp
 ·have h1:=sized_slice h ht hd hu;have h2:=reachBytes_lt;have h3:l.length*P.bytesOf e≤(el.length+sp.length)*P.bytesOf e:=Nat.mul_le_mul_right _ (by omega);omega
end
end Go.Sx
end

section
namespace Go.Sx
open Go.RowKit Go.ChangeShapes Go.WideShapes
inductive K2 where
 |d (k:K)
 |s (ks:List K)
inductive T1 where
 |d (x:D)
 |r (c:Cont)
 |xl (X:XC)
inductive Cell2 (w:World):K2→Value→T1→Prop where
 |d (k:K) (x:D) (h:k.fits x):Cell2 w (.d k) x.val (.d x)
 |s (ks:List K) (v:Value) (rows:List (List D)) (h0:0<ks.length) (h:∀r∈rows,jbj ks r) (hr:jaD w v (.lits ks.length rows)):Cell2 w (.s ks) v (.r (.lits ks.length rows))
inductive Cells2 (w:World):List K2→List Value→List T1→Prop where
 |nil:Cells2 w [] [] []
 |cons {k:K2} {v:Value} {t:T1} {ks:List K2} {vs:List Value} {ts:List T1} (h:Cell2 w k v t) (r:Cells2 w ks vs ts):Cells2 w (k::ks) (v::vs) (t::ts)
theorem Cells2.append {w:World} {ks ks':List K2} {vs vs':List Value} {ts ts':List T1} (h:Cells2 w ks vs ts) (h':Cells2 w ks' vs' ts'):Cells2 w (ks++ks') (vs++vs') (ts++ts'):=by
 induction h with
 |nil=>exact h'
 |cons h r ih=>exact .cons h ih
def jfg (g:TypeId→Option (List K2)) (P:Program):Nat→List Field→Option (List K2)
 |_,[]=>some []
 |n,f::fs=>match g f.type with
  |none=>none
  |some ks=>if f.offset=n∧P.cellsOf f.type=ks.length then(jfg g P (n+ks.length) fs).map (ks ++ ·)else none
def jfR (P:Program):Nat→TypeId→Option (List K2)
 |0,_=>none
 |d+1,t=>match jeG P d t with
  |some ks=>some (ks.map .d)
  |none=>match P.underlying t with
   |some (.slice e)=>match jeG P d e with
    |some (k::ks)=>if P.cellsOf e=ks.length+1 then some [.s (k::ks)]else none
    |_=>none
   |some (.struct fs)=>match jfg (jfR P d) P 0 fs.toList with
    |some ks=>if P.cellsOf t=ks.length then some ks else none
    |none=>none
   |some (.array n e)=>match jfR P d e with
    |some ks=>if P.cellsOf t=n*ks.length∧P.cellsOf e=ks.length then some (List.replicate n ks).flatten else none
    |none=>none
   |_=>none
section
variable {H:Type} {enc:TypeId × Value→H} {P:Program} {w:World} {base:Nat} {spare:Nat→Bool} {held:Bool}
theorem jAG {ks:List K} {ds:List D} (h:jbj ks ds):Cells2 w (ks.map .d) (ds.map D.val) (ds.map .d):=by
 induction ks generalizing ds with
 |nil=>cases ds with
  |nil=>exact .nil
  |cons _ _=>exact h.elim
 |cons k ks ih=>cases ds with
  |nil=>exact h.elim
  |cons d ds=>exact .cons (.d k d h.1) (ih h.2)
theorem jj1 {g:TypeId→Option (List K2)} {m:Nat} (ih:∀t ks cs x,g t=some ks→DataW.trod enc P w base spare held m t cs=some x→∃ts,Cells2 w ks cs ts) :
  ∀(fs:List Field) (n:Nat) (ks:List K2) (cs:List Value),jfg g P n fs=some ks→cs.length=n+ks.length→(∀f∈fs,∃x,DataW.trod enc P w base spare held m f.type ((cs.drop f.offset).take (P.cellsOf f.type))=some x) →
   ∃ts,Cells2 w ks (cs.drop n) ts
 |[],n,ks,cs,hk,hl,_=>by
  simp only[jfg,Option.some.injEq]at hk;subst hk;refine⟨[],?_⟩;simp at hl;rw[List.drop_eq_nil_of_le (by omega)];exact .nil
 |f::fs,n,ks,cs,hk,hl,h=>by
  simp only[jfg]at hk;split at hk
  ·cases hk
  ·rename_i kf hg;split at hk
   ·rename_i hc;cases hr:jfg g P (n+kf.length) fs with
    |none=>simp[hr]at hk
    |some kr =>
     simp only[hr,Option.map_some,Option.some.injEq]at hk;subst hk;obtain⟨x,hx⟩:=h f List.mem_cons_self;rw[hc.1,hc.2]at hx;obtain⟨ts0,h0⟩:=ih f.type kf _ x hg hx;obtain⟨ts1,h1⟩:=jj1 ih fs (n+kf.length) kr cs hr (by rw[hl,List.length_append];omega) (fun f' hf'=>h f' (List.mem_cons_of_mem _ hf'));refine⟨ts0++ts1,?_⟩;have e:cs.drop n=(cs.drop n).take kf.length++cs.drop (n+kf.length):=by rw[←List.drop_drop];exact(List.take_append_drop _ _).symm
     rw[e];exact h0.append h1
   ·cases hk
theorem jlL {ks:List K2} {e:TypeId} {m:Nat} (ih:∀cs x,DataW.trod enc P w base spare held m e cs=some x→∃ts,Cells2 w ks cs ts) :
  ∀(n:Nat) (cs:List Value),cs.length=n*ks.length→(∀i,i<n→∃x,DataW.trod enc P w base spare held m e ((cs.drop (i*ks.length)).take ks.length)=some x)→∃ts,Cells2 w (List.replicate n ks).flatten cs ts
 |0,cs,hl,_=>by
  have:cs=[]:=by simpa using hl
  subst this;exact⟨[],.nil⟩
 |n+1,cs,hl,h=>by
  obtain⟨x,hx⟩:=h 0 (by omega);obtain⟨t0,h0⟩:=ih _ x hx
  obtain⟨t1,h1⟩:=jlL ih n (cs.drop ks.length) (by rw[List.length_drop,hl,Nat.add_mul];omega) (fun i hi=>by
   obtain⟨y,hy⟩:=h (i+1) (by omega);refine⟨y,?_⟩;rw[List.drop_drop];rw[show ks.length+i*ks.length=(i+1)*ks.length by rw[Nat.add_mul];omega];exact hy)
  refine⟨t0++t1,?_⟩;have:=h0.append h1;simpa [List.replicate_succ]using this
theorem jfs:∀(d:Nat) (t:TypeId) (ks:List K2) (fuel:Nat) (cs:List Value) (x:DataW H × List MemPlace),jfR P d t=some ks→DataW.trod enc P w base spare held fuel t cs=some x→∃ts,Cells2 w ks cs ts
 |0,_,_,_,_,_,h,_=>by cases h
 |d+1,t,ks,fuel,cs,x,hk,hx=>by
  unfold jfR at hk;split at hk
  ·rename_i ks' hks;cases hk;obtain⟨ds,rfl,h2⟩:=jgv d t ks' fuel cs x hks hx;exact⟨_,jAG h2⟩
  ·split at hk
   ·rename_i e ht;split at hk
    ·rename_i k ks' hks;split at hk
     ·rename_i hc;cases hk;obtain⟨v,rows,rfl,h2,h3,_⟩:=jqR ht hks (by simpa using hc) (by simp) hx;exact⟨_,.cons (.s _ v rows (by simp) h2 h3) .nil⟩
     ·cases hk
    ·cases hk
   ·rename_i fs ht;split at hk
    ·rename_i ks' hks;split at hk
     ·rename_i hc;cases hk;obtain⟨xs,n,rfl,_,hl,hxl,hf⟩:=DataW.trod_struct ht hx
      have:=jj1 (enc:=enc) (w:=w) (base:=base) (spare:=spare) (held:=held) (g:=jfR P d) (m:=n) (fun t ks cs x h1 h2=>jfs d t ks n cs x h1 h2) fs.toList 0 ks cs hks (by rw[hl,hc];omega) (fun f hfm=>by
       obtain⟨i,hi,hfi⟩:=List.mem_iff_getElem.1 hfm;have hi':i<fs.size:=by simpa using hi
       have h1:=hf i f (by rw[Array.getElem?_eq_getElem hi'];simpa using hfi);exact⟨xs[i]'(by omega),by rw[h1,List.getElem?_eq_getElem]⟩)
      simpa using this
     ·cases hk
    ·cases hk
   ·rename_i n e ht;split at hk
    ·rename_i ks' hks;split at hk
     ·rename_i hc;cases hk;obtain⟨xs,m,rfl,_,hl,hxl,hf⟩:=DataW.trod_array ht hx
      exact jlL (fun cs x h=>jfs d e ks' m cs x hks h) n cs (by rw[hl,hc.1]) (fun i hi=>by
       have h1:=hf i hi;rw[hc.2]at h1;exact⟨xs[i]'(by omega),by rw[h1,List.getElem?_eq_getElem]⟩)
     ·cases hk
    ·cases hk
   ·cases hk
end
inductive T1Is (w:World):Value→T1→Prop where
 |d (x:D):T1Is w x.val (.d x)
 |r (v:Value) (c:Cont) (he:0<c.e) (h:jaD w v c):T1Is w v (.r c)
 |xl (v:Value) (X:XC) (h:IsX (fun k=>k<w.heap.size) w v X):T1Is w v (.xl X)
theorem jnV {w:World} {v:Value} {t:T1} (h:Cell2 w (.d (.i .i64)) v t):∃n:Int,T1Is w v (.d (.i .i64 n))∧inI n:=by
 cases h with
 |d k x h =>
  cases x with
  |i k n =>
   obtain⟨rfl,hw⟩:=h;exact⟨n,.d _,by unfold inI;simpa [Lit.wf,IntKind.min,IntKind.max,IntKind.signed,IntKind.bits]using hw⟩
  |_=>exact h.elim
theorem jtU {w:World} {v:Value} {t:T1} (h:Cell2 w (.d .s) v t):∃n:ByteArray,T1Is w v (.d (.s n))∧n.size≤maxLen:=by
 cases h with
 |d k x h =>
  cases x with
  |s n=>exact⟨n,.d _,h⟩
  |_=>exact h.elim
theorem jqU {w:World} {n:Nat} {v:Value} {t:T1} (h:Cell2 w (.s (List.replicate n (.i .i64))) v t):∃l:List (List Int),T1Is w v (.r (.recs n l))∧∀r∈l,r.length=n∧∀x∈r,inI x:=by
 cases h with
 |s ks v rows h0 h2 h3 =>
  obtain⟨l,h5,h6,h7⟩:=jqS h2;subst h5;rw[List.length_replicate]at h0 h3;exact⟨l,.r v _ h0 (jjR h3 (by simp[Cont.n]) (jqT fun r hr=>(h7 r hr).1)),h7⟩
theorem jlM {w:World} {v:Value} {t:T1} (h:Cell2 w (.s [.i .i64]) v t):∃l:List Int,T1Is w v (.r (.ints .i64 l))∧∀x∈l,inI x:=by
 obtain⟨l,h2,h3⟩:=jqU (n:=1) h;cases h2 with
 |r _ _ _ h2 =>
  refine⟨l.map (fun r=>r.getD 0 0),.r v _ (Nat.succ_pos 0) (jjR h2 (by simp[Cont.n]) ?_),fun x hx=>?_⟩
  ·simp only[Cont.flat];rename_i he;clear h2 he
   induction l with
   |nil=>rfl
   |cons r l ih =>
    rw[List.map_cons,List.flatMap_cons,List.flatMap_cons,ih (fun r hr=>h3 r (List.mem_cons_of_mem _ hr))];rfl
  ·obtain⟨r,hr,rfl⟩:=List.mem_map.1 hx;have:=h3 r hr
   match r,this with
   |[y],this=>exact this.2 y (by simp)
theorem t1_of {w:World} {v:Value} {c:Cont} (h:ArgIs w v (.r c)):T1Is w v (.r c):=by
 cases h with
 |r _ _ he h=>exact .r _ _ he h
section
variable [Globs]
inductive T2 where
 |c (t:T1)
 |a (l:List T1)
inductive T1sAre (w:World):List Value→List T1→Prop where
 |nil:T1sAre w [] []
 |cons {v:Value} {t:T1} {vs:List Value} {ts:List T1} (h:T1Is w v t) (r:T1sAre w vs ts):T1sAre w (v::vs) (t::ts)
inductive T2Is (w:World):Value→T2→Prop where
 |c {v:Value} {t:T1} (h:T1Is w v t):T2Is w v (.c t)
 |a {vs:List Value} {ts:List T1} (h:T1sAre w vs ts):T2Is w (.agg vs.toArray) (.a ts)
inductive T2sAre (w:World):List Value→List T2→Prop where
 |nil:T2sAre w [] []
 |cons {v:Value} {t:T2} {vs:List Value} {ts:List T2} (h:T2Is w v t) (r:T2sAre w vs ts):T2sAre w (v::vs) (t::ts)
structure TB where
 cs:List C
 hp:Hp
 n:Nat
def T1.bld (n:Nat):T1→TB
 | .d x=>⟨[.d x],[],n⟩
 | .r c=>⟨[.o n],[(n,.ext c)],n+1⟩
 | .xl X=>⟨[.o n],[(n,.xext X)],n+1⟩
def jpo:Nat→List T1→TB
 |n,[]=>⟨[],[],n⟩
 |n,t::l=>let a:=t.bld n;let b:=jpo a.n l; ⟨a.cs++b.cs,b.hp++a.hp,b.n⟩
structure TV where
 vs:List V
 hp:Hp
 n:Nat
def T2.bld (n:Nat):T2→TV
 | .c t=>let a:=t.bld n; ⟨[.w (.c (jgn a.cs))],a.hp,a.n⟩
 | .a l=>let a:=jpo n l; ⟨[.w (.a a.cs)],a.hp,a.n⟩
def jcA:Nat→List T2→TV
 |n,[]=>⟨[],[],n⟩
 |n,t::l=>let a:=t.bld n;let b:=jcA a.n l; ⟨a.vs++b.vs,b.hp++a.hp,b.n⟩
def Hk (w:World) (v:Value):O→Prop
 | .ext c=>jaD w v c∧0<c.e
 | .xext X=>IsX (fun k=>k<w.heap.size) w v X
 |_=>False
structure TOK (w:World) (n:Nat) (ρ ρ':Env) (vals:List Value) (cs:List C) (hp:Hp) (n':Nat):Prop where
 agree:jae n ρ ρ'
 le:n≤n'
 val:cs.map (C.val ρ')=vals
 lt:∀c∈cs,C.lt n' c
 heap:∀k o,find hp k=some o→n≤k∧k<n'∧Hk w (ρ' k) o
theorem T1.bld_ok {w:World} {v:Value} {t:T1} (h:T1Is w v t) (n:Nat) (ρ:Env):∃ρ',TOK w n ρ ρ' [v] (t.bld n).cs (t.bld n).hp (t.bld n).n:=by
 cases h with
 |d x=>exact⟨ρ,jae.refl _ _,Nat.le_refl _,rfl,(fun c hc=>by simp only[T1.bld,List.mem_singleton]at hc;subst hc;trivial),fun _ _ h=>by cases h⟩
 |r v c he h =>
  refine⟨upd ρ n v,jah _ _ _,Nat.le_succ _,by simp[T1.bld,C.val],(fun c hc=>by simp only[T1.bld,List.mem_singleton]at hc;subst hc;exact Nat.lt_succ_self n),fun k o hf=>?_⟩;simp only[T1.bld,find]at hf;split at hf
  ·rename_i e;subst e;cases hf;exact⟨Nat.le_refl _,Nat.lt_succ_self _,by rw[upd_same];exact⟨h,he⟩⟩
  ·cases hf
 |xl v X h =>
  refine⟨upd ρ n v,jah _ _ _,Nat.le_succ _,by simp[T1.bld,C.val],(fun c hc=>by simp only[T1.bld,List.mem_singleton]at hc;subst hc;exact Nat.lt_succ_self n),fun k o hf=>?_⟩;simp only[T1.bld,find]at hf;split at hf
  ·rename_i e;subst e;cases hf;exact⟨Nat.le_refl _,Nat.lt_succ_self _,by rw[upd_same];exact h⟩
  ·cases hf
theorem TOK.append {w:World} {n n1 n2:Nat} {ρ ρ1 ρ2:Env} {a b:List Value} {ca cb:List C} {ha hb:Hp} (h1:TOK w n ρ ρ1 a ca ha n1) (h2:TOK w n1 ρ1 ρ2 b cb hb n2):TOK w n ρ ρ2 (a++b) (ca++cb) (hb++ha) n2:=by
 refine⟨h1.agree.trans h2.agree h1.le,Nat.le_trans h1.le h2.le,?_,?_,?_⟩
 ·rw[List.map_append,h2.val,←h1.val]
  congr 1
  exact List.map_congr_left fun c hc=>C.val_agree h2.agree (h1.lt c hc)
 ·intro c hc;rcases List.mem_append.1 hc with hc|hc
  ·exact C.lt_mono h2.le (h1.lt c hc)
  ·exact h2.lt c hc
 ·intro k o hf;rw[jat]at hf;cases hg:find hb k with
  |some o2 =>
   rw[hg]at hf;cases hf;obtain⟨q1,q2,q3⟩:=h2.heap k o hg;exact⟨Nat.le_trans h1.le q1,q2,q3⟩
  |none =>
   rw[hg]at hf;obtain⟨q1,q2,q3⟩:=h1.heap k o hf;exact⟨q1,Nat.lt_of_lt_of_le q2 h2.le,by rw[h2.agree k q2];exact q3⟩
theorem jAH {w:World} {vs:List Value} {ts:List T1} (h:T1sAre w vs ts):∀(n:Nat) (ρ:Env),∃ρ',TOK w n ρ ρ' vs (jpo n ts).cs (jpo n ts).hp (jpo n ts).n:=by
 induction h with
 |nil=>exact fun n ρ=>⟨ρ,jae.refl _ _,Nat.le_refl _,rfl,(fun _ h=>by cases h),fun _ _ h=>by cases h⟩
 |cons h r ih =>
  intro n ρ;obtain⟨ρ1,k1⟩:=T1.bld_ok h n ρ;obtain⟨ρ2,k2⟩:=ih _ ρ1;exact⟨ρ2,k1.append k2⟩
structure TVOK (w:World) (n:Nat) (ρ ρ':Env) (vals:List Value) (vs:List V) (hp:Hp) (n':Nat):Prop where
 agree:jae n ρ ρ'
 le:n≤n'
 val:vs.map (V.val ρ')=vals
 lt:∀c∈vs,V.lt n' c
 heap:∀k o,find hp k=some o→n≤k∧k<n'∧Hk w (ρ' k) o
theorem T2.bld_ok {w:World} {v:Value} {t:T2} (h:T2Is w v t) (n:Nat) (ρ:Env):∃ρ',TVOK w n ρ ρ' [v] (t.bld n).vs (t.bld n).hp (t.bld n).n:=by
 cases h with
 | @c v t h =>
  obtain⟨ρ',k⟩:=T1.bld_ok h n ρ;have hone:∃c,(t.bld n).cs=[c]:=by cases t<;>exact⟨_,rfl⟩
  obtain⟨c,hc⟩:=hone;have hval:=k.val;have hlt:=k.lt;rw[hc]at hval hlt;refine⟨ρ',k.agree,k.le,?_,?_,k.heap⟩
  ·simp only[T2.bld,hc,jgn,List.map_cons,List.map_nil,V.val,W.val];simpa using hval
  ·intro y hy;simp only[T2.bld,hc,jgn,List.mem_singleton]at hy;subst hy;exact hlt c List.mem_cons_self
 | @a vs ts h =>
  obtain⟨ρ',k⟩:=jAH h n ρ;refine⟨ρ',k.agree,k.le,?_,?_,k.heap⟩
  ·simp only[T2.bld,List.map_cons,List.map_nil,V.val,W.val,k.val]
  ·intro y hy;simp only[T2.bld,List.mem_singleton]at hy;subst hy;exact k.lt
theorem jAI {w:World} {vs:List Value} {ts:List T2} (h:T2sAre w vs ts):∀(n:Nat) (ρ:Env),∃ρ',TVOK w n ρ ρ' vs (jcA n ts).vs (jcA n ts).hp (jcA n ts).n:=by
 induction h with
 |nil=>exact fun n ρ=>⟨ρ,jae.refl _ _,Nat.le_refl _,rfl,(fun _ h=>by cases h),fun _ _ h=>by cases h⟩
 | @cons v t vs ts h r ih =>
  intro n ρ;obtain⟨ρ1,k1⟩:=T2.bld_ok h n ρ;obtain⟨ρ2,k2⟩:=ih (t.bld n).n ρ1;refine⟨ρ2,k1.agree.trans k2.agree k1.le,Nat.le_trans k1.le k2.le,?_,?_,?_⟩
  ·simp only[jcA,List.map_append,k2.val]
   have:(t.bld n).vs.map (V.val ρ2)=[v]:=by
    rw[←k1.val];exact List.map_congr_left fun c hc=>V.val_agree k2.agree (k1.lt c hc)
   rw[this];rfl
  ·intro c hc;rcases List.mem_append.1 hc with hc|hc
   ·exact V.lt_mono k2.le (k1.lt c hc)
   ·exact k2.lt c hc
  ·intro k o hf;have hf:find ((jcA (t.bld n).n ts).hp++(t.bld n).hp) k=some o:=hf;rw[jat]at hf;cases hg:find (jcA (t.bld n).n ts).hp k with
   |some o2 =>
    rw[hg]at hf;cases hf;obtain⟨q1,q2,q3⟩:=k2.heap k o hg;exact⟨Nat.le_trans k1.le q1,q2,q3⟩
   |none =>
    rw[hg]at hf;obtain⟨q1,q2,q3⟩:=k1.heap k o hf;exact⟨q1,Nat.lt_of_lt_of_le q2 k2.le,by rw[k2.agree k q2];exact q3⟩
theorem jxi {P:Program} {w:World} {f:Nat} {shs:List SV} {g:List Lf→Option GT} {vs:List Value} {ts:List T2} {ls:List Lf} {am:List C} {ob:Prop} {b:Bool} {fn:Func} (hok:jaf P f true (jal shs g)) (hargs:T2sAre w vs ts)
  (hto:jjq (jcA 0 ts).hp shs (jcA 0 ts).vs=some (ls,am)) (hg:g ls=some (.leaf ob [.c (.d (.b b))])) (ho:ob) (hb:b=true)
  (hfn:P.funcs[f]?=some fn) (hbody:fn.body=some (fn.body.getD .skip)) (hn:(fn.name == "runtime.NumGoroutine")=false) (hgl:jb8 (fun k=>k<w.heap.size) w) :
  Calls P f vs.toArray w fun e w'=>e=.returned (.bool true)∧Below w.heap.size w w':=by
 subst hb;obtain⟨ρ,k⟩:=jAI hargs 0 (fun _=>undef)
 have hh:HRel ρ (kd fun k=>k<w.heap.size) (jcA 0 ts).hp (jcA 0 ts).n w:=by
  refine⟨fun x o hf=>?_,fun x o x' o' q hf hf' _ hb=>?_,hgl⟩
  ·obtain⟨_,q2,q3⟩:=k.heap x o hf;cases o with
   |ext c=>exact⟨q2,trivial,q3.1,jaD.lt q3.1 q3.2⟩
   |xext X=>exact⟨q2,trivial,q3⟩
   |_=>exact q3.elim
  ·obtain⟨_,_,q3⟩:=k.heap x o hf;cases o with
   |ext c=>cases hb
   |xext X=>cases hb
   |_=>exact q3.elim
 have:=(hok.sound hfn hbody hn).sound ρ (kd fun k=>k<w.heap.size) w (jcA 0 ts).vs (jcA 0 ts).hp (jcA 0 ts).n ((GT.leaf ob [.c (.d (.b true))]).toRT am (jcA 0 ts).hp (jcA 0 ts).n) (by
  unfold jal;rw[hto];dsimp only;rw[hg]) ho k.lt hh (fun k hk=>jaW.1 hk)
 rw[k.val]at this;refine this.mono ?_;rintro e w' ⟨ρ',rfl,hl⟩;exact⟨rfl,hl.mono rfl⟩
end
end Go.Sx
end

section
namespace Go.Sx
open Go.RowKit Go.ChangeShapes Go.WideShapes
def jA1 (w:World) (ks:List K2) (v:Value):Prop :=
 ∃(n:Nat) (us:Nat→List Value) (ts:Nat→List T1) (a:Option Addr) (cap:Nat),(∀i,i<n→Cells2 w ks (us i) (ts i))∧v=.slice a n cap∧(n≤cap∧(a=none→cap=0)) ∧
  (0<n→∃b off,a=some ⟨b,off,none⟩∧b<w.heap.size∧∀i j,i<n→j<ks.length→w.cell? ⟨b,off+(i*ks.length+j),none⟩=(us i)[j]?)
inductive K3 where
 |k (k:K2)
 |x (ks:List K2)
inductive Cell3 (w:World):K3→Value→Prop where
 |k (k:K2) (v:Value) (t:T1) (h:Cell2 w k v t):Cell3 w (.k k) v
 |x (ks:List K2) (v:Value) (h0:0<ks.length) (h:jA1 w ks v):Cell3 w (.x ks) v
inductive Cells3 (w:World):List K3→List Value→Prop where
 |nil:Cells3 w [] []
 |cons {k:K3} {v:Value} {ks:List K3} {vs:List Value} (h:Cell3 w k v) (r:Cells3 w ks vs):Cells3 w (k::ks) (v::vs)
theorem Cells3.append {w:World} {ks ks':List K3} {vs vs':List Value} (h:Cells3 w ks vs) (h':Cells3 w ks' vs'):Cells3 w (ks++ks') (vs++vs'):=by
 induction h with
 |nil=>exact h'
 |cons h r ih=>exact .cons h ih
theorem jAJ {w:World} {ks:List K2} {vs:List Value} {ts:List T1} (h:Cells2 w ks vs ts):Cells3 w (ks.map .k) vs:=by
 induction h with
 |nil=>exact .nil
 |cons h r ih=>exact .cons (.k _ _ _ h) ih
def jfh (g:TypeId→Option (List K3)) (P:Program):Nat→List Field→Option (List K3)
 |_,[]=>some []
 |n,f::fs=>match g f.type with
  |none=>none
  |some ks=>if f.offset=n∧P.cellsOf f.type=ks.length then(jfh g P (n+ks.length) fs).map (ks ++ ·)else none
def jlN (P:Program):Nat→TypeId→Option (List K3)
 |0,_=>none
 |d+1,t=>match jfR P d t with
  |some ks=>some (ks.map .k)
  |none=>match P.underlying t with
   |some (.slice e)=>match jfR P d e with
    |some (k::ks)=>if P.cellsOf e=ks.length+1 then some [.x (k::ks)]else none
    |_=>none
   |some (.struct fs)=>match jfh (jlN P d) P 0 fs.toList with
    |some ks=>if P.cellsOf t=ks.length then some ks else none
    |none=>none
   |_=>none
theorem Cells2.len {w:World} {ks:List K2} {vs:List Value} {ts:List T1} (h:Cells2 w ks vs ts):vs.length=ks.length∧ts.length=ks.length:=by
 induction h with
 |nil=>exact⟨rfl,rfl⟩
 |cons h r ih=>exact⟨by simp[ih.1],by simp[ih.2]⟩
section
variable {H:Type} {enc:TypeId × Value→H} {P:Program} {w:World} {base:Nat} {spare:Nat→Bool} {held:Bool}
theorem jxj {t e:TypeId} {ks:List K2} {d fuel:Nat} {cs:List Value} {x:DataW H × List MemPlace} (ht:P.underlying t=some (.slice e)) (hk:jfR P d e=some ks) (hc:P.cellsOf e=ks.length) (h0:0<ks.length)
  (hx:DataW.trod enc P w base spare held fuel t cs=some x):∃v,cs=[v]∧jA1 w ks v:=by
 rcases DataW.trod_slice ht hx with ⟨rfl,rfl⟩|⟨a,len,cap,elems,rest,n,rfl,rfl,rfl,hb,hl,hm,hel,hi,_,_⟩
 ·exact⟨_,rfl,0,fun _=>[],fun _=>[],none,0,fun i hi=>by omega,rfl,⟨Nat.le_refl _,fun _=>rfl⟩,fun h=>by omega⟩
 ·have hget:∀i,i<len→∃p:List Value × List T1,Cells2 w ks p.1 p.2∧∀j,j<ks.length→w.cell? ((a.add (i*ks.length)).add j)=p.1[j]?:=fun i hil=>by
   have h1:=hi i hil;rw[hc]at h1;have h2:elems[i]?=some (elems[i]'(by omega)):=List.getElem?_eq_getElem (by omega);rw[h2]at h1;obtain⟨cs',hcs,htr⟩:=Option.bind_eq_some_iff.1 h1;obtain⟨ts,hts⟩:=jfs d e ks n cs' _ hk htr;obtain⟨_,hcl,hat⟩:=World.cells?_some hcs;exact⟨(cs',ts),hts,fun j hj=>hat j hj⟩
  let R:Nat→List Value × List T1:=fun i=>if h:i<len then Classical.choose (hget i h)else([],[])
  have hR:∀i (h:i<len),Cells2 w ks (R i).1 (R i).2∧∀j,j<ks.length→w.cell? ((a.add (i*ks.length)).add j)=(R i).1[j]?:=fun i h=>by
   have e:R i=Classical.choose (hget i h):=dif_pos h;rw[e];exact Classical.choose_spec (hget i h)
  refine⟨_,rfl,len,fun i=>(R i).1,fun i=>(R i).2,some a,cap,fun i h=>(hR i h).1,rfl,⟨hl,fun h=>by cases h⟩,fun hn=>?_⟩;have hlen:=(hR 0 hn).1.len.1
  have hcell0:w.cell? ((a.add (0*ks.length)).add 0)=some ((R 0).1[0]'(by omega)):=by
   rw[(hR 0 hn).2 0 h0,List.getElem?_eq_getElem]
  have hsp:a.spot=none:=by
   have h1:=hcell0;simp[Addr.add]at h1;cases hs:a.spot with
   |none=>rfl
   |some s =>
    exfalso;unfold World.cell? at h1;simp only[hs]at h1;split at h1
    ·simp at h1
    ·cases h1
  obtain⟨b,off,sp⟩:=a;simp only at hsp;subst hsp;refine⟨b,off,rfl,?_,fun i j hi hj=>?_⟩
  ·have h1:=hcell0;rw[jaJ,jaJ]at h1;exact World.block_lt_of_cell? w _ h1
  ·have:=(hR i hi).2 j hj;rw[jaJ,jaJ,Nat.add_assoc]at this;exact this
theorem jj2 {g:TypeId→Option (List K3)} {m:Nat} (ih:∀t ks cs x,g t=some ks→DataW.trod enc P w base spare held m t cs=some x→Cells3 w ks cs) :
  ∀(fs:List Field) (n:Nat) (ks:List K3) (cs:List Value),jfh g P n fs=some ks→cs.length=n+ks.length→(∀f∈fs,∃x,DataW.trod enc P w base spare held m f.type ((cs.drop f.offset).take (P.cellsOf f.type))=some x) →
   Cells3 w ks (cs.drop n)
 |[],n,ks,cs,hk,hl,_=>by
  simp only[jfh,Option.some.injEq]at hk;subst hk;simp at hl;rw[List.drop_eq_nil_of_le (by omega)];exact .nil
 |f::fs,n,ks,cs,hk,hl,h=>by
  simp only[jfh]at hk;split at hk
  ·cases hk
  ·rename_i kf hg;split at hk
   ·rename_i hc;cases hr:jfh g P (n+kf.length) fs with
    |none=>simp[hr]at hk
    |some kr =>
     simp only[hr,Option.map_some,Option.some.injEq]at hk;subst hk;obtain⟨x,hx⟩:=h f List.mem_cons_self;rw[hc.1,hc.2]at hx;have h0:=ih f.type kf _ x hg hx;have h1:=jj2 ih fs (n+kf.length) kr cs hr (by rw[hl,List.length_append];omega) (fun f' hf'=>h f' (List.mem_cons_of_mem _ hf'));have e:cs.drop n=(cs.drop n).take kf.length++cs.drop (n+kf.length):=by rw[←List.drop_drop];exact(List.take_append_drop _ _).symm
     rw[e];exact h0.append h1
   ·cases hk
theorem jm1:∀(d:Nat) (t:TypeId) (ks:List K3) (fuel:Nat) (cs:List Value) (x:DataW H × List MemPlace),jlN P d t=some ks→DataW.trod enc P w base spare held fuel t cs=some x→Cells3 w ks cs
 |0,_,_,_,_,_,h,_=>by cases h
 |d+1,t,ks,fuel,cs,x,hk,hx=>by
  unfold jlN at hk;split at hk
  ·rename_i ks' hks;cases hk;obtain⟨ts,h2⟩:=jfs d t ks' fuel cs x hks hx;exact jAJ h2
  ·split at hk
   ·rename_i e ht;split at hk
    ·rename_i k ks' hks;split at hk
     ·rename_i hc;cases hk;obtain⟨v,rfl,h2⟩:=jxj ht hks (by simpa using hc) (by simp) hx;exact .cons (.x _ v (by simp) h2) .nil
     ·cases hk
    ·cases hk
   ·rename_i fs ht;split at hk
    ·rename_i ks' hks;split at hk
     ·rename_i hc;cases hk;obtain⟨xs,n,rfl,_,hl,hxl,hf⟩:=DataW.trod_struct ht hx
      have:=jj2 (enc:=enc) (w:=w) (base:=base) (spare:=spare) (held:=held) (g:=jlN P d) (m:=n) (fun t ks cs x h1 h2=>jm1 d t ks n cs x h1 h2) fs.toList 0 ks cs hks (by rw[hl,hc];omega) (fun f hfm=>by
       obtain⟨i,hi,hfi⟩:=List.mem_iff_getElem.1 hfm;have hi':i<fs.size:=by simpa using hi
       have h1:=hf i f (by rw[Array.getElem?_eq_getElem hi'];simpa using hfi);exact⟨xs[i]'(by omega),by rw[h1,List.getElem?_eq_getElem]⟩)
      simpa using this
     ·cases hk
    ·cases hk
   ·cases hk
theorem jxk {r:Reach} {b0:Nat} {t:TypeId} {d:Nat} {ks:List K3} {v:Value} {x:DataW H} {p:List MemPlace} (ht:jbp P t=some true) (hk:jlN P d t=some ks)
  (hval:Value.okWide P w r b0 t v) (h:DataW.Trod enc P w base spare held t v x p):∃vs,v=.agg (List.toArray vs)∧Cells3 w ks vs:=by
 obtain⟨fuel,hx⟩:=h;have h1:=jm1 d t ks fuel _ _ hk hx
 have hv:∃cs,v=.agg cs:=by
  unfold Value.okWide at hval;cases hU:P.underlying t with
  |none=>simp[jbp,hU]at ht
  |some u =>
   rw[hU]at hval;cases u with
   |struct fs=>obtain⟨cs,h,_⟩:=hval;exact⟨cs,h⟩
   |array n e=>obtain⟨cs,h,_⟩:=hval;exact⟨cs,h⟩
   |_=>simp[jbp,hU]at ht
 obtain⟨cs,rfl⟩:=hv;exact⟨cs.toList,by simp,h1⟩
end
def T1.nc:T1→NC
 | .d x=>.d x
 | .r c=>.r c
 | .xl _=>.d (.v undef)
section
variable [Globs]
theorem jhH {w:World} {v:Value} {t:T1} (h:T1Is w v t) (hx:∀X,t≠.xl X):t.nc.at (fun k=>k<w.heap.size) w v:=by
 cases h with
 |d x=>exact rfl
 |r v c he h=>exact⟨h,jaD.lt h he⟩
 |xl v X h=>exact(hx X rfl).elim
abbrev jxl:List K2:=[.d .s,.d (.i .i64),.s [.i .i64],.s [.i .i64],.s [.i .i64],.d (.i .i64),.s (List.replicate 5 (.i .i64)),.d (.i .i64)]
abbrev jft:List NK:=[.s,.i .i64,.ints .i64,.ints .i64,.ints .i64,.i .i64,.recs 5,.i .i64]
theorem jnW {w:World} {vs:List Value} {ts:List T1} (h:Cells2 w jxl vs ts):∃r:List NC,jco jft r∧r.length=8∧vs.length=8∧∀j u,vs[j]?=some u→(r.getD j (.d (.v undef))).at (fun k=>k<w.heap.size) w u:=by
 rcases h with _|⟨k0,r0⟩
 rcases r0 with _|⟨k1,r1⟩
 rcases r1 with _|⟨k2,r2⟩
 rcases r2 with _|⟨k3,r3⟩
 rcases r3 with _|⟨k4,r4⟩
 rcases r4 with _|⟨k5,r5⟩
 rcases r5 with _|⟨k6,r6⟩
 rcases r6 with _|⟨k7,r7⟩
 cases r7;obtain⟨a0,e0,_⟩:=jtU k0;obtain⟨a1,e1,_⟩:=jnV k1;obtain⟨a2,e2,_⟩:=jlM k2;obtain⟨a3,e3,_⟩:=jlM k3;obtain⟨a4,e4,_⟩:=jlM k4;obtain⟨a5,e5,_⟩:=jnV k5;obtain⟨a6,e6,_⟩:=jqU k6;obtain⟨a7,e7,_⟩:=jnV k7;refine⟨[.d (.s a0),.d (.i .i64 a1),.r (.ints .i64 a2),.r (.ints .i64 a3),.r (.ints .i64 a4),.d (.i .i64 a5),.r (.recs 5 a6),.d (.i .i64 a7)],⟨rfl,fun j k x hk hx=>?_⟩,rfl,rfl,fun j u hu=>?_⟩
 ·match j,hk,hx with
  |0,hk,hx=>cases hk;cases hx;rfl
  |1,hk,hx=>cases hk;cases hx;rfl
  |2,hk,hx=>cases hk;cases hx;rfl
  |3,hk,hx=>cases hk;cases hx;rfl
  |4,hk,hx=>cases hk;cases hx;rfl
  |5,hk,hx=>cases hk;cases hx;rfl
  |6,hk,hx=>cases hk;cases hx;rfl
  |7,hk,hx=>cases hk;cases hx;rfl
  |j+8,hk,hx=>simp at hk
 ·match j,hu with
  |0,hu=>cases hu;exact jhH e0 (fun X h=>by cases h)
  |1,hu=>cases hu;exact jhH e1 (fun X h=>by cases h)
  |2,hu=>cases hu;exact jhH e2 (fun X h=>by cases h)
  |3,hu=>cases hu;exact jhH e3 (fun X h=>by cases h)
  |4,hu=>cases hu;exact jhH e4 (fun X h=>by cases h)
  |5,hu=>cases hu;exact jhH e5 (fun X h=>by cases h)
  |6,hu=>cases hu;exact jhH e6 (fun X h=>by cases h)
  |7,hu=>cases hu;exact jhH e7 (fun X h=>by cases h)
  |j+8,hu=>simp at hu
theorem jxm {w:World} {v:Value} (h:Cell3 w (.x jxl) v):∃l:List (List NC),T1Is w v (.xl (.st jft l)):=by
 cases h with
 |x ks v h0 h =>
  obtain⟨n,us,ts,a,cap,h1,rfl,h3,h4⟩:=h
  let R:Nat→List NC:=fun i=>if h:i<n then Classical.choose (jnW (h1 i h))else[]
  have hR:∀i (h:i<n),jco jft (R i)∧(R i).length=8∧(us i).length=8∧∀j u,(us i)[j]?=some u→((R i).getD j (.d (.v undef))).at (fun k=>k<w.heap.size) w u:=fun i h=>by
   have e:R i=Classical.choose (jnW (h1 i h)):=dif_pos h;rw[e];exact Classical.choose_spec (jnW (h1 i h))
  have hrows:∀r∈(List.range n).map R,jco jft r:=fun r hr=>by
   obtain⟨i,hi,rfl⟩:=List.mem_map.1 hr;exact(hR i (List.mem_range.1 hi)).1
  obtain⟨m1,m2,m3⟩:=(XC.st jft []).cell_mk hrows;have m1:(XC.st jft ((List.range n).map R)).n=((List.range n).map R).length:=m1;have m3:∀i j,i<((List.range n).map R).length→j<8→(XC.st jft ((List.range n).map R)).cell i j=(((List.range n).map R).getD i []).getD j (.d (.v undef)):=m3;have hn:(XC.st jft ((List.range n).map R)).n=n:=by rw[m1];simp
  refine⟨(List.range n).map R,.xl _ _ ⟨a,cap,by rw[hn],by rw[hn];exact h3,fun h=>?_⟩⟩;rw[hn]at h;obtain⟨b,off,rfl,hb,hc⟩:=h4 h;refine⟨b,off,rfl,hb,fun i j hi hj=>?_⟩;rw[hn]at hi;have hj:j<8:=hj;obtain⟨_,q2,q3,q4⟩:=hR i hi;have hu:(us i)[j]?=some ((us i)[j]'(by omega)):=List.getElem?_eq_getElem (by omega);refine⟨_,(hc i j hi hj).trans hu,?_⟩;rw[m3 i j (by simpa using hi) hj];have:((List.range n).map R).getD i []=R i:=by simp[List.getD,hi]
  rw[this];exact q4 j _ hu
end
end Go.Sx
end
