/- Part 3 of the proof of EngineFaultTextsCard: the executor, the mirrors of the functions, the plain facts. -/
import Derived.Test.YtigliehhpdpaoaaGreatDoorPB
set_option maxRecDepth 100000
set_option linter.unusedSectionVars false
set_option linter.unusedSimpArgs false
set_option linter.unusedVariables false
section
open Go.RowKit
namespace Go.Sx
structure St where
 tm:List (Nat × V)
 hp:Hp
 nx:Nat
def jay:List (Nat × V)→Nat→Option V
 |[],_=>none
 |(k,v)::r,t=>if k=t then some v else jay r t
def jbL [Globs] (st:St):Operand→Option V
 | .tmp t=>jay st.tm t
 | .const v=>some (.w (ofValue v))
 | .global g=>match Globs.tab g with
  |some c=>some (.w (.c (.g g 0 c.e 0)))
  |none=>some (.w (.c (.d (.v (.pointer (some ⟨g,0,none⟩))))))
 | .func f=>some (.w (.c (.fn f [])))
structure RelD [Globs] (ds:List Deferred) (ρ:Env) (B:Kd) (N n0:Nat) (st:St) (a:Act) (w:World):Prop where
 tm:∀t v,jay st.tm t=some v→v.lt st.nx∧a.tmps.getD t undef=v.val ρ
 size:a.tmps.size=N
 defers:a.defers=ds
 heap:∃B',Grow B B' false w w∧HRel ρ B' st.hp st.nx w
 le:Old B w
 n0:n0≤st.nx
abbrev Rel [Globs]:=RelD []
theorem RelD.reads [Globs] {ds:List Deferred} {ρ:Env} {B:Kd} {N n0:Nat} {st:St} {a:Act} {w:World} (h:RelD ds ρ B N n0 st a w):jaq ρ st.nx (jbL st) a:=by
 intro x u hx
 cases x with
 |tmp t=>exact h.tm t u hx
 |const v =>
  simp only[jbL,Option.some.injEq]at hx
  subst hx
  exact⟨jj8 _ v,(ji0 ρ v).symm⟩
 |global g =>
  simp only[jbL]at hx
  split at hx
  ·cases hx
   exact⟨trivial,by simp[V.val,W.val,C.val,Act.eval]⟩
  ·cases hx
   exact⟨trivial,rfl⟩
 |func f =>
  simp only[jbL,Option.some.injEq]at hx
  subst hx
  exact⟨(fun _ hh=>by cases hh),by simp[V.val,W.val,C.val,Act.eval]⟩
def Br (b:Bool) (x y:Prop):Prop:=Bool.rec (motive:=fun _=>Prop) y x b
structure Ob (p:Prop):Prop where
 h:p
theorem Br.intro {b:Bool} {x y:Prop} (h:b=true→x) (k:b=false→y):Br b x y:=by
 cases b
 ·exact k rfl
 ·exact h rfl
def St.put (st:St) (d:Option Nat) (r:Res):St :=
 match d with
 |some t=>⟨(t,r.v)::st.tm,r.hp,r.nx⟩
 |none=>⟨st.tm,r.hp,r.nx⟩
def jbK (N:Nat):Option Nat→Bool
 |some t=>Nat.blt t N
 |none=>true
def jaV (op:Op) (rd:Operand→Option V) (hp:Hp):Bool :=
 match op with
 | .move _ | .assign _ | .pick _ _ _ | .unOp _ _ _ | .extract _ _ | .field _ _ _ | .nilCheck _ | .fieldAddr _ _ _ | .build _ _ | .makeFunc _ _ _ | .box _ _ | .alloc _ | .buildSlice _ _ _=>true
 | .binOp op _ x _ _=>match op with
  | .quo | .rem | .shl | .shr=>false
  | .add=>match(rd x).bind V.str?,(rd x).bind V.flt? with
   |none,none=>true
   |_,_=>false
  | .mul=>match(rd x).bind V.flt? with
   |none=>true
   |some _=>false
  |_=>true
 | .load _ x=>match rd x with
  |some (.w (.c (.p h _ (_+1) _)))=>match find hp h with
   |some (.box _ _)=>true
   |_=>false
  |_=>false
 | .store _ x _=>match rd x with
  |some (.w (.c (.p h _ (_+1) _)))=>match find hp h with
   |some (.box _ _)=>true
   |_=>false
  |_=>false
 | .call c=>match c.callee with
  | .builtin .len=>true
  | .builtin .min=>true
  | .builtin .max=>true
  |_=>false
 |_=>false
def RT.run:RT→(Res→Prop)→Prop
 | .leaf r,k=>k r
 | .br b x y,k=>Br b (x.run k) (y.run k)
theorem RT.run_sel:∀{t:RT} {k:Res→Prop},t.run k→k t.sel
 | .leaf _,_,h=>h
 | .br b x y,k,h=>by
  cases b
  ·exact RT.run_sel (t:=y) h
  ·exact RT.run_sel (t:=x) h
def je6 [Globs] (P:Program) (sp:jab) (N:Nat) (o:Oper) (st:St) (k:St→Prop):Prop :=
 match jeF P sp o.op (jbL st) st.hp st.nx with
 |some t=>match jbK N o.dst with
  |true=>t.run fun r=>Ob r.ob∧k (st.put o.dst r)
  |false=>False
 |none =>
 match ja5 P sp o.op (jbL st) st.hp st.nx with
 |some r=>match jbK N o.dst with
  |true=>match jaV o.op (jbL st) st.hp with
   |true=>k (st.put o.dst r)
   |false=>Ob r.ob∧k (st.put o.dst r)
  |false=>False
 |none=>False
def jhR (N:Nat) (o:Oper) (st:St) (k:St→Prop):Prop :=
 match jbK N o.dst with
 |true=>k (st.put o.dst ⟨True,vu,st.hp,st.nx⟩)
 |false=>False
def jdS (all:List Oper) (j:Nat) (st:St):Option (Nat × V) :=
 match(all[j]?).bind (·.dst)with
 |some t=>(jay st.tm t).map fun v=>(t,v)
 |none=>none
def jgJ [Globs] (P:Program) (sp:jab) (N:Nat) (all:List Oper):List Oper→St→(St→Prop)→Prop
 |[],st,k=>k st
 |o::r,st,k =>
  match o.guard with
  |none=>je6 P sp N o st fun st'=>jgJ P sp N all r st' k
  |some (j,want) =>
   match jdS all j st with
   |some (t,.w (.c (.d (.b b)))) =>
    Br b
     (match want with
      |true=>je6 P sp N o ⟨(t,vb true)::st.tm,st.hp,st.nx⟩ fun st'=>jgJ P sp N all r st' k
      |false=>jhR N o ⟨(t,vb true)::st.tm,st.hp,st.nx⟩ fun st'=>jgJ P sp N all r st' k)
     (match want with
      |true=>jhR N o ⟨(t,vb false)::st.tm,st.hp,st.nx⟩ fun st'=>jgJ P sp N all r st' k
      |false=>je6 P sp N o ⟨(t,vb false)::st.tm,st.hp,st.nx⟩ fun st'=>jgJ P sp N all r st' k)
   |some (_,.w (.c (.d (.v (.tuple _)))))=>jhR N o st fun st'=>jgJ P sp N all r st' k
   |_=>False
inductive Ex where
 |normal
 |exit (n:Nat)
 |ret
def Ex.toExit:Ex→Exit
 | .normal=>.normal
 | .exit n=>.exit n
 | .ret=>.ret
abbrev Rn:=List (Nat × Option Nat)
def ja3:Rn→Nat→Option (Option Nat)
 |[],_=>none
 |(k,v)::r,h=>if k=h then some v else ja3 r h
def jmo (m:Rn) (h:Nat):Bool:=m.any fun x=>x.2==some h
def jgK (h' h:Nat) (m:Rn) (k:Rn→Prop):Prop :=
 match ja3 m h' with
 |some (some s)=>if s=h then k m else False
 |some none=>False
 |none=>match jmo m h with
  |true=>False
  |false=>k ((h',some h)::m)
def jmp:List Nat→List Nat→Rn→(Rn→Prop)→Prop
 |[],[],m,k=>k m
 |h' :: r',h::r,m,k=>jgK h' h m fun m=>jmp r' r m k
 |_,_,_,_=>False
def mD:D→D→Prop
 | .i k n,.i k' n'=>if k=k' then Ob (n'=n)else False
 | .b x,.b y=>Ob (y=x)
 | .f k n,.f k' n'=>if k=k' then Ob (n'=n)else False
 | .s x,.s y=>Ob (y=x)
 | .v x,.v y=>Ob (y=x)
 | .z k' x,.z k y=>match jbm k' k with
  |true=>Ob (y=x)
  |false=>False
 |_,_=>False
def mC (x' x:C) (m:Rn) (k:Rn→Prop):Prop :=
 match x',x with
 | .d d',.d d=>mD d' d∧k m
 | .p h' i' e' j',.p h i e j=>if e'=e∧j'=j then Ob (i=i')∧jgK h' h m k else False
 | .o h',.o h=>jgK h' h m k
 | .o h',.d (.v (.slice none 0 0))=>match ja3 m h' with
  |some none=>k m
  |some (some _)=>False
  |none=>k ((h',none)::m)
 | .fn f' hs',.fn f hs=>if f'=f then jmp hs' hs m k else False
 | .fb f' hs',.fb f hs=>if f'=f then jmp hs' hs m k else False
 | .g n' i' e' j',.g n i e j=>if n'=n∧e'=e∧j'=j then Ob (i=i')∧k m else False
 |_,_=>False
def mCs:List C→List C→Rn→(Rn→Prop)→Prop
 |[],[],m,k=>k m
 |x' :: r',x::r,m,k=>mC x' x m fun m=>mCs r' r m k
 |_,_,_,_=>False
def mW (x' x:W) (m:Rn) (k:Rn→Prop):Prop :=
 match x',x with
 | .c y',.c y=>mC y' y m k
 | .a l',.a l=>mCs l' l m k
 | .b k' e' r',.b k0 e r=>if k'=k0∧e'=e then Ob (r=r')∧k m else False
 |_,_=>False
def mWs:List W→List W→Rn→(Rn→Prop)→Prop
 |[],[],m,k=>k m
 |x' :: r',x::r,m,k=>mW x' x m fun m=>mWs r' r m k
 |_,_,_,_=>False
def mV (x' x:V) (m:Rn) (k:Rn→Prop):Prop :=
 match x',x with
 | .w y',.w y=>mW y' y m k
 | .t l',.t l=>mWs l' l m k
 |_,_=>False
def mT:List (Nat × V)→List (Nat × V)→Rn→(Rn→Prop)→Prop
 |[],_,m,k=>k m
 |(t,v')::r,tm,m,k=>match jay tm t with
  |some v=>mV v' v m fun m=>mT r tm m k
  |none=>False
def jc6:Cont→Cont→Prop
 | .ints k l,.ints k' l'=>if k=k' then Ob (l'=l)else False
 | .recs e l,.recs e' l'=>if e=e' then Ob (l'=l)else False
 | .floats k l,.floats k' l'=>if k=k' then Ob (l'=l)else False
 | .strs l,.strs l'=>Ob (l'=l)
 | .bools l,.bools l'=>Ob (l'=l)
 | .lits e l,.lits e' l'=>if e=e' then Ob (l'=l)else False
 | .frs k e l,.frs k' e' l'=>if k=k'∧e=e' then Ob (l'=l)else False
 |_,_=>False
def mX:XC→XC→Prop
 | .st sh l,.st sh' l'=>if sh=sh' then Ob (l'=l)else False
 | .ii k l,.ii k' l'=>if k=k' then Ob (l'=l)else False
 | .ff k l,.ff k' l'=>if k=k' then Ob (l'=l)else False
 | .bb k e l,.bb k' e' l'=>if k=k'∧e=e' then Ob (l'=l)else False
 | .rr e l,.rr e' l'=>if e=e' then Ob (l'=l)else False
 |_,_=>False
def mO (o' o:O) (m:Rn) (k:Rn→Prop):Prop :=
 match o',o with
 | .box ty cs',.box ty' cs=>if ty=ty' then mCs cs' cs m k else False
 | .row ty c',.row ty' c=>if ty=ty' then jc6 c' c∧k m else False
 | .ext c',.ext c=>jc6 c' c∧k m
 | .nan q',.nan q=>match jbm q' q with
  |true=>k m
  |false=>False
 | .ebox cs',.ebox cs=>mCs cs' cs m k
 | .arr ty q e r,.arr ty' q' e' r'=>if ty=ty'∧q=q'∧e=e' then Ob (r'=r)∧k m else False
 | .xext X',.xext X=>mX X' X∧k m
 | .map es',.map es=>Ob (es=es')∧k m
 | .rrow c',.rrow c=>jc6 c' c∧k m
 | .fext c',.fext c=>jc6 c' c∧k m
 | .xrow ty X',.xrow ty' X=>if ty=ty' then mX X' X∧k m else False
 | .mrow ty ts X' none,.mrow ty' ts' X none=>if ty=ty'∧ts=ts' then mX X' X∧k m else False
 | .sub r' i' e' j' ty' c',.sub r i e j ty c=>if e'=e∧j'=j∧ty'=ty then Ob (i=i')∧jc6 c' c∧jgK r' r m k else False
 | .view _ c' false,o=>match o.cont with
  |some c=>jc6 c' c∧k m
  |none=>False
 |_,_=>False
def mH:Hp→Hp→Rn→(Rn→Prop)→Prop
 |[],_,m,k=>k m
 |(h',o')::r,hp,m,k =>
  match ja3 m h' with
  |some (some h)=>match find hp h with
   |some o=>mO o' o m fun m=>mH r hp m k
   |none=>False
  |some none=>match o' with
   | .row _ c=>Ob (c.n=0)∧mH r hp m k
   | .xrow _ X=>Ob (X.n=0)∧mH r hp m k
   | .mrow _ _ X none=>Ob (X.n=0)∧mH r hp m k
   |_=>False
  |none=>match find hp h' with
   |some o=>jgK h' h' m fun m=>mO o' o m fun m=>mH r hp m k
   |none=>False
def D.ltb (_:Nat):D→Bool
 |_=>true
def C.ltb (n:Nat):C→Bool
 | .d _=>true
 | .p h _ _ _=>Nat.blt h n
 | .o h=>Nat.blt h n
 | .fn _ hs=>hs.all fun h=>Nat.blt h n
 | .fb _ hs=>hs.all fun h=>Nat.blt h n
 | .g _ _ _ _=>true
def W.ltb (n:Nat):W→Bool
 | .c x=>x.ltb n
 | .a l=>l.all (C.ltb n)
 | .b _ _ _=>true
def V.ltb (n:Nat):V→Bool
 | .w x=>x.ltb n
 | .t l=>l.all (W.ltb n)
def O.ltb (n:Nat):O→Bool
 | .box _ cs=>cs.all (C.ltb n)
 | .view r _ _=>Nat.blt r n
 | .sub r _ _ _ _ _=>Nat.blt r n
 | .ebox cs=>cs.all (C.ltb n)
 | .lbox _ _ _ cs=>cs.all (C.ltb n)
 | .lview r _ _ cs=>Nat.blt r n&&cs.all (C.ltb n)
 | .elist _ _ cs=>cs.all (C.ltb n)
 |_=>true
def St.wfb (st:St):Bool:=(st.tm.all fun x=>x.2.ltb st.nx)&&(st.hp.all fun x=>Nat.blt x.1 st.nx&&x.2.ltb st.nx)
def jqz (n0:Nat) (m:Rn):Bool:=m.all fun x=>!(Nat.blt x.1 n0)||x.2==some x.1
def Le (n0:Nat) (st st':St):Prop :=
 match st'.wfb&&Nat.ble n0 st'.nx with
 |true=>mT st'.tm st.tm [] fun m=>mH st'.hp st.hp m fun m=>match jqz n0 m with|true=>True|false=>False
 |false=>False
structure LI where
 X:Type
 st:X→St
 inv:X→Prop
 mu:X→Nat
abbrev jiE:=List Nat→Nat→St→Option LI
def jm5 (body:St→(Ex→St→Prop)→Prop):Nat→St→(Ex→St→Prop)→Prop
 |0,_,_=>False
 |n+1,st,k=>body st fun e st'=>match e with
  | .normal=>jm5 body n st' k
  |e=>k e st'
def sx [Globs] (P:Program) (sp:jab) (N n0 fuel:Nat) (loops:jiE) (drawn:Array Oper→St→(St→Prop)→Prop):Code→Nat→List Nat→St→(Ex→St→Prop)→Prop
 | .skip,_,_,st,k=>k .normal st
 | .label _,_,_,st,k=>k .normal st
 | .region _ ops draw,_,_,st,k =>
  match draw with
  |false=>jgJ P sp N ops.toList ops.toList st fun st'=>k .normal st'
  |true=>drawn ops st fun st'=>k .normal st'
 | .seq x y,cur,gs,st,k=>sx P sp N n0 fuel loops drawn x cur gs st fun e st'=>match e with
  | .normal=>sx P sp N n0 fuel loops drawn y cur gs st' k
  |e=>k e st'
 | .cond c x y,cur,gs,st,k =>
  match(jbL st c).bind V.bool? with
  |some b=>Br b (sx P sp N n0 fuel loops drawn x cur gs st k) (sx P sp N n0 fuel loops drawn y cur gs st k)
  |none=>False
 | .block id c,_,gs,st,k=>sx P sp N n0 fuel loops drawn c id gs st fun e st'=>match e with
  | .exit j=>if j=id then k .normal st' else k (.exit j) st'
  |e=>k e st'
 | .loop c,cur,gs,st,k =>
  match loops gs cur st with
  |some L=>(∃x,Ob (L.inv x)∧Le n0 st (L.st x))∧∀x,L.inv x→sx P sp N n0 fuel loops drawn c cur (L.mu x::gs) (L.st x) fun e st'=>match e with
   | .normal=>∃x',Ob (L.inv x')∧Ob (L.mu x'<L.mu x)∧Le n0 st' (L.st x')
   |e=>k e st'
  |none=>jm5 (fun st k=>sx P sp N n0 fuel loops drawn c cur gs st k) fuel st k
 | .exit id,_,_,st,k=>k (.exit id) st
 | .ret,_,_,st,k=>k .ret st
 |_,_,_,_,_=>False
end Go.Sx
end

section
open Go.RowKit
namespace Go.Sx
section
variable [Globs] {P:Program} {ρ:Env} {B:Kd} {N n0:Nat} {st:St} {w:World} {a:Act} {sp:jab} {ds:List Deferred}
theorem jm6 {d:Option Nat} (h:jbK N d=true):∀t,d=some t→t<N:=by
 intro t ht
 subst ht
 simpa [jbK,Nat.blt_eq]using h
theorem jlp {a:Act} {d:Option Nat} {v:Value} {t:Nat} (hd:∀x,d=some x→x<a.tmps.size) :
  (a.put d v).tmps.getD t undef=if d=some t then v else a.tmps.getD t undef:=by
 cases d with
 |none=>simp[Act.put]
 |some x =>
  have:=hd x rfl
  simp only[Act.put,Option.some.injEq]
  by_cases h:x=t
  ·subst h; simp[this]
  ·simp[h,Array.getElem?_setIfInBounds_ne h]
theorem jdT {a:Act} {d:Option Nat} {v:Value}:(a.put d v).tmps.size=a.tmps.size:=by
 cases d<;>simp[Act.put]
theorem jcS {a:Act} {d:Option Nat} {v:Value}:(a.put d v).defers=a.defers:=by
 cases d<;>simp[Act.put]
theorem RelD.put1 {o:Oper} {r:Res} {M:Bool} {ρ':Env} {w':World} {B1:Kd} (h:RelD ds ρ B N n0 st a w) (g:Grow B B1 false w w) (hd:jbK N o.dst=true) (hl:Left ρ B1 st.nx w r M ρ' w') :
  RelD ds ρ' B N n0 (st.put o.dst r) (a.put o.dst (r.v.val ρ')) w':=by
 have hdl:∀x,o.dst=some x→x<a.tmps.size:=fun x hx=>by rw[h.size]; exact jm6 hd x hx
 have hnx:(st.put o.dst r).nx=r.nx:=by cases o.dst<;>rfl
 have hhp:(st.put o.dst r).hp=r.hp:=by cases o.dst<;>rfl
 refine⟨fun t v hv=>?_,by rw[jdT]; exact h.size,by rw[jcS]; exact h.defers,by
  rw[hhp,hnx]
  obtain⟨B2,g2,h2⟩:=hl.heap
  exact⟨B2,((g.trans g2.weak (Nat.le_refl _) hl.below.size).weak),h2⟩,(hl.below.mono g.le.kp).old h.le,by rw[hnx]; exact Nat.le_trans h.n0 hl.le⟩
 rw[jlp hdl,hnx]
 have hold:∀v,jay st.tm t=some v→v.lt r.nx∧a.tmps.getD t undef=v.val ρ':=fun v hv=>by
  have:=h.tm t v hv
  exact⟨V.lt_mono hl.le this.1,by rw[this.2,V.val_agree hl.agree this.1]⟩
 cases hdst:o.dst with
 |none =>
  simp only[hdst,St.put]at hv
  simpa using hold v hv
 |some x =>
  simp only[hdst,St.put,jay]at hv
  split at hv
  ·rename_i e
   subst e
   cases hv
   simp[hl.lt]
  ·rename_i e
   simp only[Option.some.injEq,e,if_false]
   exact hold v hv
theorem RelD.skip {o:Oper} (h:RelD ds ρ B N n0 st a w) (hd:jbK N o.dst=true):RelD ds ρ B N n0 (st.put o.dst ⟨True,vu,st.hp,st.nx⟩) (a.put o.dst undef) w :=
 let ⟨_,g,hh⟩:=h.heap
 h.put1 (M:=true) (o:=o) (r:=⟨True,vu,st.hp,st.nx⟩) g hd ⟨jac.refl _ _,trivial,Nat.le_refl _,hh.gr,Bel.refl _ _,(fun _=>Below.refl _ _),fun _ k o b hn hf _=>absurd (hh.ok k o hf).1 (by omega)⟩
theorem RelD.know {t:Nat} {b:Bool} (h:RelD ds ρ B N n0 st a w) (hb:jay st.tm t=some (vb b)):RelD ds ρ B N n0 ⟨(t,vb b)::st.tm,st.hp,st.nx⟩ a w:=by
 refine⟨fun t' v hv=>?_,h.size,h.defers,h.heap,h.le,h.n0⟩
 simp only[jay]at hv
 split at hv
 ·rename_i e
  subst e
  cases hv
  exact h.tm t _ hb
 ·exact h.tm t' v hv
def Qx (ds:List Deferred) (ρ0:Env) (B:Kd) (N n0:Nat) (w0:World) (k:Ex→St→Prop):Exit→Act→World→Prop:=fun e a w =>
 ∃x ρ st,e=x.toExit∧k x st∧RelD ds ρ B N n0 st a w∧jac n0 ρ0 ρ∧Bel B w0 w
variable {ρ0:Env} {w0:World}
theorem joj {op:BinOp} {k k':IntKind} {m n:Int} {ob:Prop} {v:V} (ht:(match op with | .quo | .rem | .shl | .shr=>false|_=>true)=true) (h:jee op k m k' n=some (ob,v)):ob:=by
 unfold jee at h
 cases op<;>simp at ht h<;>obtain⟨_,h,_⟩:=h<;>first|exact h|exact h ▸ trivial
theorem ja7 {α:Type} {x:Option α} {f:α→Prop × V} {ob:Prop} {v:V} (h:x.map f=some (ob,v)) (hf:∀a,(f a).1=True):ob:=by
 cases x with
 |none=>cases h
 |some a =>
  simp only[Option.map_some,Option.some.injEq]at h
  have:=hf a
  rw[h]at this
  exact cast this.symm trivial
theorem jrF {op:Op} {rd:Operand→Option V} {hp:Hp} {ob:Prop} {v:V} (ht:jaV op rd hp=true) (h:jd3 P op rd hp=some (ob,v)):ob:=by
 unfold jd3 at h
 unfold jaV at ht
 cases op with
 |binOp op t x y yt =>
  dsimp only at h ht
  split at h
  ·rename_i u u' hx hy
   split at h
   ·rename_i a b hu hu'
    split at h
    ·simp[hx,hu]at ht
    ·cases h
   ·split at h
    ·unfold jkd at h
     cases op<;>simp at h<;>exact h.1
    ·split at h
     ·unfold jef at h
      cases op<;>simp at h<;>exact h.1
     ·cases h
  ·cases h
 |load t x =>
  dsimp only at h ht
  split at h
  ·rename_i hx
   simp[hx]at ht
  ·cases h
 |call c =>
  dsimp only at h ht
  split at h
  ·split at h
   ·split at h
    ·cases h; trivial
    ·split at h
     ·cases h; trivial
     ·cases h
   ·cases h
  ·rename_i hc _
   split at h
   ·split at h
    ·cases h; trivial
    ·cases h
   ·cases h
  ·split at h
   ·cases h; trivial
   ·cases h
  ·split at h
   ·cases h; trivial
   ·cases h
  ·cases h
 |nilCheck x =>
  dsimp only at h
  split at h
  ·cases h; trivial
  ·cases h
 |fieldAddr s x f =>
  dsimp only at h
  split at h
  ·split at h
   ·split at h
    ·cases h; trivial
    ·cases h
   ·cases h
  ·cases h
 |slice t x lo hi mx=>simp at ht
 |convert s d x=>simp at ht
 |index t x i=>simp at ht
 |indexAddr t x i=>simp at ht
 |sliceToArrayPointer t x=>simp at ht
 |_=>simp at h
theorem jrG {op:Op} {rd:Operand→Option V} {hp:Hp} {nx:Nat} {r:Res} (ht:jaV op rd hp=true) (h:jc3 P op rd hp nx=some r):r.ob:=by
 unfold jc3 at h
 unfold jaV at ht
 cases op with
 |box elem x =>
  dsimp only at h
  split at h
  ·cases h; trivial
  ·cases h
 |alloc elem =>
  dsimp only at h
  split at h
  ·cases h; trivial
  ·cases h
 |buildSlice t n ps =>
  dsimp only at h
  split at h
  ·split at h
   ·split at h
    ·cases h; trivial
    ·cases h
   ·cases h
  ·cases h
 |slice t x lo hi mx=>simp at ht
 |convert s d x=>simp at ht
 |load t x =>
  dsimp only at h ht
  split at h
  ·rename_i hx
   split at h
   ·rename_i hf
    simp only[hx]at ht
    split at ht
    ·rename_i heq
     cases heq
     obtain⟨ox,hf1,hf2⟩:=Option.bind_eq_some_iff.1 hf
     cases ox<;>simp[O.xk]at hf2<;>simp[hf1]at ht
    ·cases ht
   ·cases h
  ·cases h
 |store t x y =>
  dsimp only at h ht
  split at h
  ·rename_i hx hy
   split at h
   ·rename_i hf
    simp only[hx]at ht
    split at ht
    ·rename_i heq
     cases heq
     simp[hf]at ht
    ·cases ht
   ·rename_i hf
    simp only[hx]at ht
    split at ht
    ·rename_i heq
     cases heq
     simp[hf]at ht
    ·cases ht
   ·cases h
  ·rename_i hx hy
   split at h
   ·rename_i hf
    simp only[hx]at ht
    split at ht
    ·rename_i heq
     cases heq
     simp[hf]at ht
    ·cases ht
   ·rename_i hf
    simp only[hx]at ht
    split at ht
    ·rename_i heq
     cases heq
     simp[hf]at ht
    ·cases ht
   ·cases h
  ·rename_i hx hy
   split at h
   ·rename_i hf
    simp only[hx]at ht
    split at ht
    ·rename_i heq
     cases heq
     simp[hf]at ht
    ·cases ht
   ·cases h
  ·cases h
 |makeMap t r =>
  cases r with
  |none =>
   dsimp only at h
   split at h
   ·cases h; trivial
   ·cases h
  |some r=>simp at h
 |lookup t x i ok =>
  cases ok with
  |true =>
   dsimp only at h
   split at h
   ·split at h
    ·cases h; trivial
    ·cases h
   ·cases h
  |false=>simp at h
 |mapUpdate t m i y =>
  dsimp only at h
  split at h
  ·split at h
   ·cases h; trivial
   ·cases h
  ·cases h
 |_=>simp at h
theorem jrH {op:Op} {rd:Operand→Option V} {hp:Hp} {nx:Nat} {r:Res} (ht:jaV op rd hp=true) (h:jc4 P op rd hp nx=some r):r.ob:=by
 unfold jc4 at h
 unfold jaV at ht
 cases op with
 |buildSlice t n ps =>
  dsimp only at h
  split at h
  ·split at h
   ·split at h
    ·cases h; trivial
    ·cases h
   ·cases h
  ·cases h
 |makeSlice t l c=>simp at ht
 |store t x y =>
  dsimp only at h ht
  split at h
  ·rename_i k i e j u hx hy
   split at h
   ·rename_i ty X sz hf hs
    simp only[hx]at ht
    split at ht
    ·rename_i heq
     cases heq
     simp[hf]at ht
    ·cases ht
   ·cases h
  ·cases h
 |call c =>
  dsimp only at h ht
  split at h
  ·rename_i hc _ _
   simp[hc]at ht
  ·cases h
 |_=>simp at h
theorem jrI {op:Op} {rd:Operand→Option V} {hp:Hp} {nx:Nat} {r:Res} (ht:jaV op rd hp=true) (h:jc5 P op rd hp nx=some r):r.ob:=by
 unfold jc5 at h
 unfold jaV at ht
 cases op with
 |buildSlice t n ps =>
  dsimp only at h
  split at h
  ·split at h
   ·split at h
    ·split at h
     ·cases h; trivial
     ·cases h
    ·cases h
   ·cases h
  ·cases h
 |makeSlice t l c=>simp at ht
 |load t x =>
  dsimp only at h ht
  split at h
  ·rename_i k i e j hx
   split at h
   ·rename_i ty ts X hf
    simp only[hx]at ht
    split at ht
    ·rename_i heq
     cases heq
     simp[hf]at ht
    ·cases ht
   ·cases h
  ·cases h
 |store t x y =>
  dsimp only at h ht
  split at h
  ·rename_i k i e j u hx hy
   simp only[hx]at ht
   split at h
   ·rename_i ty ts X ho sz hf hs
    split at ht
    ·rename_i heq
     cases heq
     simp[hf]at ht
    ·cases ht
   ·rename_i r0 i0 e0 j0 t0 c sz hf hs
    split at ht
    ·rename_i heq
     cases heq
     simp[hf]at ht
    ·cases ht
   ·cases h
  ·cases h
 |call c =>
  dsimp only at h ht
  split at h
  ·rename_i hc _ _
   simp[hc]at ht
  ·cases h
 |_=>simp at h
theorem jrJ {op:Op} {rd:Operand→Option V} {hp:Hp} {nx:Nat} {r:Res} (ht:jaV op rd hp=true) (h:jds P op rd hp nx=some r):r.ob:=by
 unfold jds at h
 unfold jaV at ht
 cases op with
 |buildSlice t n ps =>
  dsimp only at h
  split at h
  ·split at h
   ·cases h; trivial
   ·cases h
  ·cases h
 |makeSlice t l c=>simp at ht
 |slice t x lo hi mx=>simp at ht
 |store t x y =>
  dsimp only at h ht
  split at h
  ·split at h
   ·split at h
    ·cases h; trivial
    ·cases h
   ·cases h
  ·cases h
 |call c =>
  dsimp only at h ht
  split at h
  ·rename_i hc _ _
   simp[hc]at ht
  ·cases h
 |_=>simp at h
theorem jgh {op:Op} {rd:Operand→Option V} {hp:Hp} {nx:Nat} {r:Res} (ht:jaV op rd hp=true) (h:ja5 P sp op rd hp nx=some r):r.ob:=by
 unfold ja5 at h
 cases hv:jaR P op rd hp with
 |some p =>
  obtain⟨ob,v⟩:=p
  simp only[hv,Option.some.injEq]at h
  subst h
  show ob
  unfold jaR at hv
  split at hv
  rotate_left
  ·exact jrF ht hv
  rename_i p hv0
  cases hv
  have hv:=hv0
  clear hv0
  unfold jaL at hv
  unfold jaV at ht
  cases op with
  |binOp op t x y yt =>
   dsimp only at hv ht
   split at hv
   ·split at hv
    ·refine joj ?_ hv
     cases op<;>first|rfl|exact ht
    ·split at hv
     ·split at hv
      ·unfold jix at hv
       cases op<;>simp at hv<;>exact hv.1
      ·cases hv
     ·split at hv
      ·unfold jka at hv
       cases op<;>simp at hv<;>exact hv.1
      ·split at hv
       ·rename_i hu _
        unfold jj9 at hv
        split at hv
        ·cases op<;>simp at hv<;>first|exact hv.1|(simp_all)
        ·cases hv
       ·split at hv
        ·split at hv
         ·exact ja7 hv (fun _=>rfl)
         ·exact ja7 hv (fun _=>rfl)
         ·cases hv
        ·cases hv
   ·cases hv
  |load t x =>
   dsimp only at hv ht
   split at hv
   ·rename_i k i e j hx
    cases e with
    |zero=>simp[hx]at ht
    |succ e =>
    simp only[hx]at ht
    split at hv
    ·rename_i o hf
     simp only[hf]at ht
     cases o with
     |box ty cs =>
      unfold jct at hv
      split at hv
      ·dsimp only[jdp]at hv
       split at hv
       ·split at hv
        ·cases hv; trivial
        ·cases hv
       ·cases hc:cs[i*(e+1)+j]? with
        |none=>simp[hc]at hv
        |some c=>simp[hc]at hv; exact hv.1
      ·cases hv
     |_=>simp at ht
    ·cases hv
   ·cases hv
  |call c =>
   dsimp only at hv ht
   split at hv
   ·split at hv
    ·exact ja7 hv (fun _=>rfl)
    ·split at hv
     ·cases hv; trivial
     ·cases hv
    ·exact ja7 hv (fun _=>rfl)
    ·cases hv; trivial
    ·cases hv
   ·split at hv
    ·exact ja7 hv (fun _=>rfl)
    ·cases hv
   ·split at hv
    ·exact ja7 hv (fun _=>rfl)
    ·cases hv
   ·cases hv
  |pick c x y =>
   dsimp only at hv
   split at hv
   ·exact ja7 hv (fun _=>rfl)
   ·exact ja7 hv (fun _=>rfl)
   ·cases hv
  |unOp op t x =>
   dsimp only at hv
   split at hv
   ·exact ja7 hv (fun _=>rfl)
   ·exact ja7 hv (fun _=>rfl)
   ·cases hv
  |move x=>exact ja7 hv (fun _=>rfl)
  |assign x=>exact ja7 hv (fun _=>rfl)
  |extract t i =>
   dsimp only at hv
   split at hv
   ·exact ja7 hv (fun _=>rfl)
   ·cases hv
  |field t x f =>
   dsimp only at hv
   split at hv
   ·split at hv
    ·exact ja7 hv (fun _=>rfl)
    ·cases hv
   ·cases hv
  |nilCheck x =>
   dsimp only at hv
   split at hv
   ·cases hv; trivial
   ·cases hv
  |fieldAddr s x f =>
   dsimp only at hv
   split at hv
   ·split at hv
    ·split at hv
     ·cases hv; trivial
     ·cases hv
    ·cases hv
   ·cases hv
  |build t parts =>
   dsimp only at hv
   split at hv
   ·exact ja7 hv (fun _=>rfl)
   ·cases hv
  |makeFunc f first cap =>
   cases f with
   |func f =>
    dsimp only at hv
    split at hv
    ·cases hv; trivial
    ·split at hv
     ·cases hv; trivial
     ·cases hv
    ·cases hv
   |_=>simp at hv
  |_=>simp at hv ht
 |none =>
  simp only[hv]at h
  split at h
  ·rename_i r0 hR
   unfold jcv at hR
   split at hR
   ·simp[jaV]at ht
   ·simp[jaV]at ht
   ·cases hR
  split at h
  ·rename_i r0 hX
   cases h
   exact jrG ht hX
  split at h
  ·rename_i r0 hX
   cases h
   exact jrJ ht hX
  split at h
  ·rename_i r0 hX
   cases h
   exact jrI ht hX
  split at h
  ·rename_i r0 hX
   cases h
   exact jrH ht hX
  unfold jfD at h
  unfold jaV at ht
  cases op with
  |box elem x =>
   dsimp only at h
   split at h
   ·split at h
    ·cases h; trivial
    ·cases h
   ·cases h
  |alloc elem =>
   dsimp only at h
   split at h
   ·cases h; trivial
   ·cases h
  |buildSlice t n ps =>
   dsimp only at h
   split at h
   ·split at h
    ·cases h; trivial
    ·cases h
   ·cases h
  |store t x y =>
   dsimp only at h ht
   split at h
   ·rename_i k i e j u hx hy
    cases e with
    |zero=>simp[hx]at ht
    |succ e =>
    simp only[hx]at ht
    split at h
    ·split at h
     ·simp only[jkj]at h
      split at h
      ·cases h; trivial
      ·cases h
     ·rename_i hf
      simp[hf]at ht
     ·cases h
    ·cases h
   ·cases h
  |call c =>
   dsimp only at h ht
   split at h
   ·rename_i hc _ _
    simp[hc]at ht
   ·rename_i hc
    simp[hc]at ht
   ·cases h
  |_=>simp at h ht
theorem jdv {o:Oper} {k:St→Prop} {K:Act→World→Prop} {Q:Exit→Act→World→Prop} (hsp:jad P sp) (hr:RelD ds ρ B N n0 st a w) (hag:jac n0 ρ0 ρ) (hbl:Bel B w0 w) (h:je6 P sp N o st k)
  (hK:∀ρ' st' a' w',RelD ds ρ' B N n0 st' a' w'→jac n0 ρ0 ρ'→Bel B w0 w'→k st'→K a' w'):o.wp P a w K Q:=by
 unfold je6 at h
 split at h
 ·rename_i t ht2
  split at h
  ·rename_i hd
   have h:=RT.run_sel h
   obtain⟨B1,g,hh⟩:=hr.heap
   obtain⟨M,hS⟩:=joi hsp hh (g.old hr.le) hr.reads ht2 h.1.h
   refine hS K Q fun ρ' w' hl=>?_
   exact hK ρ' _ _ w' (hr.put1 g hd hl) (hag.trans hl.agree hr.n0) (hbl.trans (hl.below.mono g.le.kp)) h.2
  ·exact h.elim
 split at h
 ·rename_i r hr2
  split at h
  ·rename_i hd
   obtain⟨B1,g,hh⟩:=hr.heap
   split at h
   ·rename_i ht
    refine jcR hsp hh (g.old hr.le) hr.reads hr2 (jgh ht hr2) K Q fun ρ' w' hl=>?_
    exact hK ρ' _ _ w' (hr.put1 g hd hl) (hag.trans hl.agree hr.n0) (hbl.trans (hl.below.mono g.le.kp)) h
   ·refine jcR hsp hh (g.old hr.le) hr.reads hr2 h.1.h K Q fun ρ' w' hl=>?_
    exact hK ρ' _ _ w' (hr.put1 g hd hl) (hag.trans hl.agree hr.n0) (hbl.trans (hl.below.mono g.le.kp)) h.2
  ·exact h.elim
 ·exact h.elim
theorem je7 {o:Oper} {k:St→Prop} {K:Act→World→Prop} (hr:RelD ds ρ B N n0 st a w) (hag:jac n0 ρ0 ρ) (hbl:Bel B w0 w) (h:jhR N o st k)
  (hK:∀ρ' st' a' w',RelD ds ρ' B N n0 st' a' w'→jac n0 ρ0 ρ'→Bel B w0 w'→k st'→K a' w'):K (a.put o.dst undef) w:=by
 unfold jhR at h
 split at h
 ·rename_i hd
  exact hK ρ _ _ w (hr.skip hd) hag hbl h
 ·exact h.elim
theorem jc7 {all:List Oper} {j t:Nat} {v:V} (hr:RelD ds ρ B N n0 st a w) (h:jdS all j st=some (t,v)) (ht:t<N∨v=v) :
  yielded all.toArray a.tmps j=(match v.val ρ with | .bool b=>some b|_=>none)∧jay st.tm t=some v:=by
 unfold jdS at h
 cases hd:(all[j]?).bind (·.dst)with
 |none=>simp[hd]at h
 |some t' =>
  cases hg:jay st.tm t' with
  |none=>simp[hd,hg]at h
  |some v' =>
   simp[hd,hg]at h
   obtain⟨rfl,rfl⟩:=h
   refine⟨?_,hg⟩
   have h1:=(hr.tm t' v' hg).2
   unfold yielded
   have hd2:((all.toArray[j]?).bind (·.dst))=some t':=by simpa using hd
   rw[hd2]
   simp only[Option.bind_some]
   rw[←h1]
   by_cases hlt:t'<a.tmps.size
   ·simp only[Array.getD_eq_getD_getElem?,Array.getElem?_eq_getElem hlt,Option.getD_some]
    cases a.tmps[t']<;>rfl
   ·simp[hlt,undef]
theorem jkv {all:List Oper} {Q:Exit→Act→World→Prop} {k:St→Prop} (hsp:jad P sp)
  (hQ:∀ρ' st' a' w',RelD ds ρ' B N n0 st' a' w'→jac n0 ρ0 ρ'→Bel B w0 w'→k st'→Q .normal a' w') :
  ∀(l:List Oper) (ρ:Env) (st:St) (a:Act) (w:World),RelD ds ρ B N n0 st a w→jac n0 ρ0 ρ→Bel B w0 w→jgJ P sp N all l st k→wpList P all.toArray Q l a w
 |[],ρ,st,a,w,hr,hag,hbl,h=>hQ ρ st a w hr hag hbl h
 |o::r,ρ,st,a,w,hr,hag,hbl,h=>by
  have ih:=fun ρ' st' a' w' (h1:RelD ds ρ' B N n0 st' a' w') h2 h3 h4=>jkv (all:=all) hsp hQ r ρ' st' a' w' h1 h2 h3 h4
  unfold jgJ at h
  unfold wpList
  cases hg:o.guard with
  |none =>
   simp only[hg]at h
   have hw:Region.wanted o (yielded all.toArray a.tmps)=true:=by simp[Region.wanted,hg]
   rw[if_pos hw]
   exact .inl (jdv hsp hr hag hbl h ih)
  |some p =>
   obtain⟨j,want⟩:=p
   simp only[hg]at h
   have hwanted:∀ob,yielded all.toArray a.tmps j=ob→Region.wanted o (yielded all.toArray a.tmps)=(ob==some want):=fun ob hob=>by simp[Region.wanted,hg,hob]
   split at h
   ·rename_i t b hgo
    obtain⟨hy,hget⟩:=jc7 hr hgo (.inr rfl)
    have hw:=hwanted _ hy
    have hval:(V.w (.c (.d (.b b)))).val ρ=.bool b:=rfl
    rw[hval]at hw
    have hkn:=hr.know hget
    cases b<;>cases want<;>simp only[Br]at h
    ·rw[if_pos (by rw[hw]; rfl)]
     exact .inl (jdv hsp hkn hag hbl h ih)
    ·rw[if_neg (by rw[hw]; simp)]
     exact je7 hkn hag hbl h ih
    ·rw[if_neg (by rw[hw]; simp)]
     exact je7 hkn hag hbl h ih
    ·rw[if_pos (by rw[hw]; rfl)]
     exact .inl (jdv hsp hkn hag hbl h ih)
   ·rename_i t vs hgo
    obtain⟨hy,hget⟩:=jc7 hr hgo (.inr rfl)
    have hw:=hwanted _ hy
    have hval:(V.w (.c (.d (.v (.tuple vs))))).val ρ=.tuple vs:=rfl
    rw[hval]at hw
    rw[if_neg (by rw[hw]; simp)]
    exact je7 hr hag hbl h ih
   ·exact h.elim
def jbU (ρ:Env) (m:Rn):Env:=fun h=>match ja3 m h with
 |some (some s)=>ρ s
 |some none=>.slice none 0 0
 |none=>ρ h
def Ext (m m':Rn):Prop:=∀h x,ja3 m h=some x→ja3 m' h=some x
theorem Ext.refl (m:Rn):Ext m m:=fun _ _ h=>h
theorem Ext.trans {a b c:Rn} (h:Ext a b) (k:Ext b c):Ext a c:=fun x y hx=>k x y (h x y hx)
def Inj (m:Rn):Prop:=∀h h' s,ja3 m h=some (some s)→ja3 m h'=some (some s)→h=h'
theorem jpr {m:Rn} {s:Nat} (h:jmo m s=false):∀x,ja3 m x≠some (some s):=by
 induction m with
 |nil=>intro x hx; simp[ja3]at hx
 |cons p r ih =>
  obtain⟨k,v⟩:=p
  simp only[jmo,List.any_cons,Bool.or_eq_false_iff]at h
  intro x hx
  simp only[ja3]at hx
  split at hx
  ·simp only[Option.some.injEq]at hx
   subst hx
   simp at h
  ·exact ih (by simpa [jmo]using h.2) x hx
theorem jm7 {m:Rn} {h:Nat} {x:Option Nat} (hn:ja3 m h=none):Ext m ((h,x)::m):=by
 intro k y hk
 simp only[ja3]
 split
 ·rename_i e
  subst e
  rw[hn]at hk
  cases hk
 ·exact hk
theorem jdw {h' h:Nat} {m:Rn} {k:Rn→Prop} (hb:jgK h' h m k) (hi:Inj m):∃m',k m'∧Ext m m'∧Inj m'∧ja3 m' h'=some (some h):=by
 unfold jgK at hb
 split at hb
 ·rename_i s hs
  split at hb
  ·rename_i e
   subst e
   exact⟨m,hb,Ext.refl m,hi,hs⟩
  ·exact hb.elim
 ·exact hb.elim
 ·rename_i hn
  split at hb
  ·exact hb.elim
  ·rename_i hu
   have hu':=jpr hu
   refine⟨_,hb,jm7 hn,?_,by simp[ja3]⟩
   intro x y s hx hy
   simp only[ja3]at hx hy
   split at hx
   ·rename_i e
    subst e
    simp only[Option.some.injEq]at hx
    subst hx
    split at hy
    ·rename_i e; exact e
    ·exact absurd hy (hu' y)
   ·split at hy
    ·rename_i e
     subst e
     simp only[Option.some.injEq]at hy
     subst hy
     exact absurd hx (hu' x)
    ·exact hi x y s hx hy
theorem jrK {m:Rn} {h:Nat} (hi:Inj m):Inj ((h,none)::m):=by
 intro x y s hx hy
 simp only[ja3]at hx hy
 split at hx
 ·cases hx
 ·split at hy
  ·cases hy
  ·exact hi x y s hx hy
theorem jiF {d' d:D} (h:mD d' d):d'=d:=by
 unfold mD at h
 split at h
 all_goals first
  |exact h.elim
  |(rw[h.h]; done)
  |(
    split at h
    ·rename_i e; obtain⟨rfl,rfl⟩:=e; rw[h.h]
    ·exact h.elim)
  |(
    split at h
    ·rename_i e; subst e; rw[h.h]
    ·exact h.elim)
  |(
    split at h
    ·rename_i e; rw[jbc e,h.h]
    ·exact h.elim)
theorem jgi {c' c:XC} (h:mX c' c):c'=c:=by
 unfold mX at h
 split at h
 all_goals first
  |exact h.elim
  |(
    split at h
    ·rename_i e; obtain⟨rfl,rfl⟩:=e; rw[h.h]
    ·exact h.elim)
  |(
    split at h
    ·rename_i e; subst e; rw[h.h]
    ·exact h.elim)
def Same (ρ:Env) (m:Rn) (f:Env→Value) (v:Value):Prop:=∀m',Ext m m'→f (jbU ρ m')=v
theorem jat {ρ:Env} {m:Rn} {h s:Nat} (h1:ja3 m h=some (some s)):jbU ρ m h=ρ s:=by simp[jbU,h1]
theorem jbE {ρ:Env} {m:Rn} {h:Nat} (h1:ja3 m h=some none):jbU ρ m h=.slice none 0 0:=by simp[jbU,h1]
theorem jgL:∀{l' l:List Nat} {m:Rn} {k:Rn→Prop},jmp l' l m k→Inj m→∃m',k m'∧Ext m m'∧Inj m'∧∀m2,Ext m' m2→l'.map (jbU ρ m2)=l.map ρ
 |[],[],m,k,h,hi=>⟨m,h,Ext.refl m,hi,fun _ _=>rfl⟩
 |x' :: r',x::r,m,k,h,hi=>by
  obtain⟨m1,h1,hE1,hI1,hl1⟩:=jdw h hi
  obtain⟨m2,h2,hE2,hI2,hS2⟩:=jgL h1 hI1
  refine⟨m2,h2,hE1.trans hE2,hI2,fun m3 h3=>?_⟩
  simp only[List.map_cons,hS2 m3 h3,jat (h3 _ _ (hE2 _ _ hl1))]
 |[],_::_,_,_,h,_=>h.elim
 |_::_,[],_,_,h,_=>h.elim
theorem joR {x' x:C} {m:Rn} {k:Rn→Prop} (h:mC x' x m k) (hi:Inj m):∃m',k m'∧Ext m m'∧Inj m'∧Same ρ m' (fun ρ'=>x'.val ρ') (x.val ρ):=by
 unfold mC at h
 split at h
 ·rename_i d' d
  exact⟨m,h.2,Ext.refl m,hi,fun m' _=>by rw[jiF h.1]; rfl⟩
 ·rename_i h' i' e' j' hh i e j
  split at h
  ·rename_i he
   obtain⟨rfl,rfl⟩:=he
   obtain⟨⟨rfl⟩,hb⟩:=h
   obtain⟨m',hk,hE,hI,hl⟩:=jdw hb hi
   exact⟨m',hk,hE,hI,fun m2 h2=>by simp only[C.val,jat (h2 _ _ hl)]⟩
  ·exact h.elim
 ·rename_i h' hh
  obtain⟨m',hk,hE,hI,hl⟩:=jdw h hi
  exact⟨m',hk,hE,hI,fun m2 h2=>by simp only[C.val,jat (h2 _ _ hl)]⟩
 ·rename_i h'
  split at h
  ·rename_i hl
   exact⟨m,h,Ext.refl m,hi,fun m2 h2=>by simp only[C.val,jbE (h2 _ _ hl),D.val]⟩
  ·exact h.elim
  ·rename_i hn
   refine⟨_,h,jm7 hn,jrK hi,fun m2 h2=>?_⟩
   simp only[C.val,jbE (h2 h' none (by simp[ja3])),D.val]
 ·split at h
  ·rename_i e
   subst e
   obtain⟨m',hk,hE,hI,hl⟩:=jgL (ρ:=ρ) h hi
   exact⟨m',hk,hE,hI,fun m2 h2=>by simp only[C.val,hl m2 h2]⟩
  ·exact h.elim
 ·split at h
  ·rename_i e
   subst e
   obtain⟨m',hk,hE,hI,hl⟩:=jgL (ρ:=ρ) h hi
   exact⟨m',hk,hE,hI,fun m2 h2=>by simp only[C.val,hl m2 h2]⟩
  ·exact h.elim
 ·split at h
  ·rename_i e
   obtain⟨rfl,rfl,rfl⟩:=e
   obtain⟨⟨rfl⟩,hk⟩:=h
   exact⟨m,hk,Ext.refl m,hi,fun _ _=>rfl⟩
  ·exact h.elim
 ·exact h.elim
theorem jgM:∀{l' l:List C} {m:Rn} {k:Rn→Prop},mCs l' l m k→Inj m→∃m',k m'∧Ext m m'∧Inj m'∧∀m2,Ext m' m2→l'.map (C.val (jbU ρ m2))=l.map (C.val ρ)
 |[],[],m,k,h,hi=>⟨m,h,Ext.refl m,hi,fun _ _=>rfl⟩
 |x' :: r',x::r,m,k,h,hi=>by
  obtain⟨m1,h1,hE1,hI1,hS1⟩:=joR (ρ:=ρ) h hi
  obtain⟨m2,h2,hE2,hI2,hS2⟩:=jgM h1 hI1
  refine⟨m2,h2,hE1.trans hE2,hI2,fun m3 h3=>?_⟩
  simp only[List.map_cons,hS2 m3 h3,hS1 m3 (hE2.trans h3)]
 |[],_::_,_,_,h,_=>h.elim
 |_::_,[],_,_,h,_=>h.elim
theorem joS {x' x:W} {m:Rn} {k:Rn→Prop} (h:mW x' x m k) (hi:Inj m):∃m',k m'∧Ext m m'∧Inj m'∧Same ρ m' (fun ρ'=>x'.val ρ') (x.val ρ):=by
 unfold mW at h
 split at h
 ·exact joR h hi
 ·obtain⟨m',h1,h2,h3,h4⟩:=jgM (ρ:=ρ) h hi
  exact⟨m',h1,h2,h3,fun m2 h5=>by simp only[W.val,h4 m2 h5]⟩
 ·split at h
  ·rename_i e
   obtain⟨rfl,rfl⟩:=e
   obtain⟨⟨rfl⟩,hk⟩:=h
   exact⟨m,hk,Ext.refl m,hi,fun _ _=>rfl⟩
  ·exact h.elim
 ·exact h.elim
theorem jm8:∀{l' l:List W} {m:Rn} {k:Rn→Prop},mWs l' l m k→Inj m→∃m',k m'∧Ext m m'∧Inj m'∧∀m2,Ext m' m2→l'.map (W.val (jbU ρ m2))=l.map (W.val ρ)
 |[],[],m,k,h,hi=>⟨m,h,Ext.refl m,hi,fun _ _=>rfl⟩
 |x' :: r',x::r,m,k,h,hi=>by
  obtain⟨m1,h1,hE1,hI1,hS1⟩:=joS (ρ:=ρ) h hi
  obtain⟨m2,h2,hE2,hI2,hS2⟩:=jm8 h1 hI1
  refine⟨m2,h2,hE1.trans hE2,hI2,fun m3 h3=>?_⟩
  simp only[List.map_cons,hS2 m3 h3,hS1 m3 (hE2.trans h3)]
 |[],_::_,_,_,h,_=>h.elim
 |_::_,[],_,_,h,_=>h.elim
theorem js1 {x' x:V} {m:Rn} {k:Rn→Prop} (h:mV x' x m k) (hi:Inj m):∃m',k m'∧Ext m m'∧Inj m'∧Same ρ m' (fun ρ'=>x'.val ρ') (x.val ρ):=by
 unfold mV at h
 split at h
 ·exact joS h hi
 ·obtain⟨m',h1,h2,h3,h4⟩:=jm8 (ρ:=ρ) h hi
  exact⟨m',h1,h2,h3,fun m2 h5=>by simp only[V.val,h4 m2 h5]⟩
 ·exact h.elim
theorem joT (tm:List (Nat × V)):∀{l:List (Nat × V)} {m:Rn} {k:Rn→Prop},mT l tm m k→Inj m→∃m',k m'∧Ext m m'∧Inj m' ∧
  ∀t v',jay l t=some v'→∃v,jay tm t=some v∧Same ρ m' (fun ρ'=>v'.val ρ') (v.val ρ)
 |[],m,k,h,hi=>⟨m,h,Ext.refl m,hi,fun _ _ hv=>by cases hv⟩
 |(t0,v0)::r,m,k,h,hi=>by
  unfold mT at h
  split at h
  ·rename_i v hv
   obtain⟨m1,h1,hE1,hI1,hS1⟩:=js1 (ρ:=ρ) h hi
   obtain⟨m2,h2,hE2,hI2,hS2⟩:=joT tm h1 hI1
   refine⟨m2,h2,hE1.trans hE2,hI2,fun t v' hv'=>?_⟩
   simp only[jay]at hv'
   split at hv'
   ·rename_i e
    subst e
    cases hv'
    exact⟨v,hv,fun m3 h3=>hS1 m3 (hE2.trans h3)⟩
   ·exact hS2 t v' hv'
  ·exact h.elim
theorem jbq {c' c:Cont} (h:jc6 c' c):c'=c:=by
 unfold jc6 at h
 split at h
 all_goals first
  |exact h.elim
  |(rw[h.h]; done)
  |(
    split at h
    ·rename_i e; obtain⟨rfl,rfl⟩:=e; rw[h.h]
    ·exact h.elim)
  |(
    split at h
    ·rename_i e; subst e; rw[h.h]
    ·exact h.elim)
def jjB (ρ:Env) (B:Kd) (w:World) (hp:Hp) (m:Rn) (h':Nat) (o':O):Prop :=
 (∀m2,Ext m m2→o'.ok (jbU ρ m2) B w h') ∧
 ((∃s o,ja3 m h'=some (some s)∧find hp s=some o∧∀m2,Ext m m2→∀k,o'.blk (jbU ρ m2 h')=some k→o.blk (ρ s)=some k)∨(∀m2,Ext m m2→o'.blk (jbU ρ m2 h')=none))
theorem jjB.mono {hp:Hp} {m m':Rn} {h':Nat} {o':O} (h:jjB ρ B w hp m h' o') (hE:Ext m m'):jjB ρ B w hp m' h' o':=by
 refine⟨fun m2 h2=>h.1 m2 (hE.trans h2),?_⟩
 rcases h.2 with ⟨s,o,h1,h2,h3⟩|h1
 ·exact .inl ⟨s,o,hE _ _ h1,h2,fun m2 h4=>h3 m2 (hE.trans h4)⟩
 ·exact .inr fun m2 h2=>h1 m2 (hE.trans h2)
theorem joU {hp:Hp} {nx h' s:Nat} {o' o:O} {m:Rn} {k:Rn→Prop} (h:mO o' o m k) (hi:Inj m) (hh:HRel ρ B hp nx w) (hf:find hp s=some o) (hl:ja3 m h'=some (some s)) :
  ∃m',k m'∧Ext m m'∧Inj m'∧jjB ρ B w hp m' h' o':=by
 have hok:=(hh.ok s o hf).2.2
 unfold mO at h
 split at h
 ·rename_i ty cs' ty' cs
  split at h
  ·rename_i e
   subst e
   obtain⟨m1,h1,hE,hI,hS⟩:=jgM (ρ:=ρ) h hi
   refine⟨m1,h1,hE,hI,fun m2 h2=>?_,.inl ⟨s,_,hE _ _ hl,hf,fun m2 h2 k hk=>?_⟩⟩
   ·obtain⟨g,h3,h4,h5⟩:=hok
    exact⟨g,by rw[jat (h2 _ _ (hE _ _ hl))]; exact h3,h4,by rw[hS m2 h2]; exact h5⟩
   ·rw[jat (h2 _ _ (hE _ _ hl))]at hk
    exact hk
  ·exact h.elim
 ·rename_i ty c' ty' c
  split at h
  ·rename_i e
   subst e
   have hc:=jbq h.1
   subst hc
   refine⟨m,h.2,Ext.refl m,hi,fun m2 h2=>?_,.inl ⟨s,_,hl,hf,fun m2 h2 k hk=>?_⟩⟩
   ·unfold O.ok
    rw[jat (h2 _ _ hl)]
    exact hok
   ·rw[jat (h2 _ _ hl)]at hk
    exact hk
  ·exact h.elim
 ·rename_i c' c
  have hc:=jbq h.1
  subst hc
  refine⟨m,h.2,Ext.refl m,hi,fun m2 h2=>?_,.inr fun _ _=>rfl⟩
  unfold O.ok
  rw[jat (h2 _ _ hl)]
  exact hok
 ·split at h
  ·rename_i hk
   have hk:=jbc hk
   subst hk
   refine⟨m,h,Ext.refl m,hi,fun m2 h2=>?_,.inr fun _ _=>rfl⟩
   unfold O.ok
   rw[jat (h2 _ _ hl)]
   exact hok
  ·exact h.elim
 ·rename_i cs' cs
  obtain⟨m1,h1,hE,hI,hS⟩:=jgM (ρ:=ρ) h hi
  refine⟨m1,h1,hE,hI,fun m2 h2=>?_,.inr fun _ _=>rfl⟩
  obtain⟨g,o,h3,h4,h5⟩:=hok
  refine⟨g,o,by rw[jat (h2 _ _ (hE _ _ hl))]; exact h3,h4,fun j c hj=>?_⟩
  have hj2:(List.map (C.val (jbU ρ m2)) cs')[j]?=some (c.val (jbU ρ m2)):=by rw[List.getElem?_map,hj]; rfl
  rw[hS m2 h2,List.getElem?_map]at hj2
  obtain⟨c0,hc0,he0⟩:=Option.map_eq_some_iff.1 hj2
  rw[←he0]
  exact h5 j c0 hc0
 ·split at h
  ·rename_i e
   obtain⟨rfl,rfl,rfl⟩:=e
   obtain⟨⟨rfl⟩,hk⟩:=h
   refine⟨m,hk,Ext.refl m,hi,fun m2 h2=>?_,.inl ⟨s,_,hl,hf,fun m2 h2 k hk=>?_⟩⟩
   ·unfold O.ok
    rw[jat (h2 _ _ hl)]
    exact hok
   ·rw[jat (h2 _ _ hl)]at hk
    exact hk
  ·exact h.elim
 ·have hc:=jgi h.1
  subst hc
  refine⟨m,h.2,Ext.refl m,hi,fun m2 h2=>?_,.inr fun _ _=>rfl⟩
  unfold O.ok
  rw[jat (h2 _ _ hl)]
  exact hok
 ·obtain⟨⟨rfl⟩,hk⟩:=h
  refine⟨m,hk,Ext.refl m,hi,fun m2 h2=>?_,.inl ⟨s,_,hl,hf,fun m2 h2 k hk=>?_⟩⟩
  ·unfold O.ok
   rw[jat (h2 _ _ hl)]
   exact hok
  ·rw[jat (h2 _ _ hl)]at hk
   exact hk
 ·have hc:=jbq h.1
  subst hc
  refine⟨m,h.2,Ext.refl m,hi,fun m2 h2=>?_,.inl ⟨s,_,hl,hf,fun m2 h2 k hk=>?_⟩⟩
  ·unfold O.ok
   rw[jat (h2 _ _ hl)]
   exact hok
  ·rw[jat (h2 _ _ hl)]at hk
   exact hk
 ·have hc:=jbq h.1
  subst hc
  refine⟨m,h.2,Ext.refl m,hi,fun m2 h2=>?_,.inr fun _ _=>rfl⟩
  unfold O.ok
  rw[jat (h2 _ _ hl)]
  exact hok
 ·split at h
  ·rename_i e
   subst e
   have hc:=jgi h.1
   subst hc
   refine⟨m,h.2,Ext.refl m,hi,fun m2 h2=>?_,.inl ⟨s,_,hl,hf,fun m2 h2 k hk=>?_⟩⟩
   ·unfold O.ok
    rw[jat (h2 _ _ hl)]
    exact hok
   ·rw[jat (h2 _ _ hl)]at hk
    exact hk
  ·exact h.elim
 ·split at h
  ·rename_i e
   obtain⟨rfl,rfl⟩:=e
   have hc:=jgi h.1
   subst hc
   refine⟨m,h.2,Ext.refl m,hi,fun m2 h2=>?_,.inl ⟨s,_,hl,hf,fun m2 h2 k hk=>?_⟩⟩
   ·unfold O.ok
    rw[jat (h2 _ _ hl)]
    exact hok
   ·rw[jat (h2 _ _ hl)]at hk
    exact hk
  ·exact h.elim
 ·split at h
  ·rename_i e
   obtain⟨rfl,rfl,rfl⟩:=e
   obtain⟨⟨rfl⟩,hc,hb⟩:=h
   have hc:=jbq hc
   subst hc
   obtain⟨m1,h1,hE,hI,hb1⟩:=jdw hb hi
   refine⟨m1,h1,hE,hI,fun m2 h2=>?_,.inr fun _ _=>rfl⟩
   unfold O.ok
   simp only
   rw[jat (h2 _ _ (hE _ _ hl)),jat (h2 _ _ hb1)]
   exact hok
  ·exact h.elim
 ·rename_i r' c'
  split at h
  ·rename_i c hc
   have he:=jbq h.1
   subst he
   refine⟨m,h.2,Ext.refl m,hi,fun m2 h2=>?_,.inr fun _ _=>rfl⟩
   unfold O.ok
   rw[jat (h2 _ _ hl)]
   exact⟨jaM hok hc,fun h=>by cases h⟩
  ·exact h.elim
 ·exact h.elim
theorem joV {hp:Hp} {nx:Nat} (hh:HRel ρ B hp nx w):∀{l:Hp} {m:Rn} {k:Rn→Prop},mH l hp m k→Inj m→∃m',k m'∧Ext m m'∧Inj m'∧∀h' o',find l h'=some o'→jjB ρ B w hp m' h' o'
 |[],m,k,h,hi=>⟨m,h,Ext.refl m,hi,fun _ _ hv=>by cases hv⟩
 |(h0,o0)::r,m,k,h,hi=>by
  have close:∀m1,Ext m m1→Inj m1→jjB ρ B w hp m1 h0 o0→mH r hp m1 k→∃m',k m'∧Ext m m'∧Inj m'∧∀h' o',find ((h0,o0)::r) h'=some o'→jjB ρ B w hp m' h' o':=by
   intro m1 hE1 hI1 hO1 h1
   obtain⟨m2,h2,hE2,hI2,hS2⟩:=joV hh h1 hI1
   refine⟨m2,h2,hE1.trans hE2,hI2,fun h' o' hf=>?_⟩
   simp only[find]at hf
   split at hf
   ·rename_i e
    subst e
    cases hf
    exact hO1.mono hE2
   ·exact hS2 h' o' hf
  unfold mH at h
  split at h
  ·rename_i s hs
   split at h
   ·rename_i o hf
    obtain⟨m1,h1,hE1,hI1,hO1⟩:=joU h hi hh hf hs
    exact close m1 hE1 hI1 hO1 h1
   ·exact h.elim
  ·rename_i hs
   split at h
   ·rename_i ty c
    refine close m (Ext.refl m) hi ⟨fun m2 h2=>?_,.inr fun m2 h2=>?_⟩ h.2
    ·have hfl:c.flat=[]:=List.eq_nil_of_length_eq_zero (by rw[Cont.flat_length,h.1.h,Nat.zero_mul])
     show w.ownsRow 0 ty c.e (jbU ρ m2 h0) c.n (c.flat.map D.val)∧∀k,(jbU ρ m2 h0).ownBlock=some k→¬B.all k
     rw[jbE (h2 _ _ hs),hfl,h.1.h]
     exact⟨World.ownsRow_nil w 0 ty c.e,fun k hk=>by cases hk⟩
    ·rw[jbE (h2 _ _ hs)]
     rfl
   ·rename_i ty X
    refine close m (Ext.refl m) hi ⟨fun m2 h2=>?_,.inr fun m2 h2=>?_⟩ h.2
    ·refine⟨[],?_,fun i j h1 _=>?_,fun k hk=>?_⟩
     ·rw[jbE (h2 _ _ hs),h.1.h]
      exact World.ownsRow_nil w 0 ty X.e
     ·rw[h.1.h]at h1
      exact absurd h1 (Nat.not_lt_zero _)
     ·rw[jbE (h2 _ _ hs)]at hk
      cases hk
    ·rw[jbE (h2 _ _ hs)]
     rfl
   ·rename_i ty ts X
    refine close m (Ext.refl m) hi ⟨fun m2 h2=>?_,.inr fun m2 h2=>?_⟩ h.2
    ·refine⟨[],?_,fun i j h1 _=>?_,fun i j i' j' u v k h1=>?_,fun k hk=>?_⟩
     ·rw[jbE (h2 _ _ hs),h.1.h]
      exact World.ownsRow_nil w 0 ty X.e
     ·rw[h.1.h]at h1
      exact absurd h1 (Nat.not_lt_zero _)
     ·rw[h.1.h]at h1
      exact absurd h1 (Nat.not_lt_zero _)
     ·rw[jbE (h2 _ _ hs)]at hk
      cases hk
    ·rw[jbE (h2 _ _ hs)]
     rfl
   ·exact h.elim
  ·split at h
   ·rename_i o hf
    obtain⟨m1,h1,hE1,hI1,hl1⟩:=jdw h hi
    obtain⟨m2,h2,hE2,hI2,hO2⟩:=joU h1 hI1 hh hf hl1
    exact close m2 (hE1.trans hE2) hI2 hO2 h2
   ·exact h.elim
theorem C.ltb_spec {n:Nat} {x:C} (h:x.ltb n=true):x.lt n:=by
 cases x with
 |d=>trivial
 |p=>simpa [C.ltb,C.lt,Nat.blt_eq]using h
 |o=>simpa [C.ltb,C.lt,Nat.blt_eq]using h
 |fn f hs=>intro y hy; have:=List.all_eq_true.1 h y hy; simpa [Nat.blt_eq]using this
 |fb f hs=>intro y hy; have:=List.all_eq_true.1 h y hy; simpa [Nat.blt_eq]using this
 |g=>trivial
theorem W.ltb_spec {n:Nat} {x:W} (h:x.ltb n=true):x.lt n:=by
 cases x with
 |c c=>exact C.ltb_spec h
 |a l=>exact fun y hy=>C.ltb_spec (List.all_eq_true.1 h y hy)
 |b=>trivial
theorem V.ltb_spec {n:Nat} {x:V} (h:x.ltb n=true):x.lt n:=by
 cases x with
 |w c=>exact W.ltb_spec h
 |t l=>exact fun y hy=>W.ltb_spec (List.all_eq_true.1 h y hy)
theorem O.ltb_spec {n:Nat} {x:O} (h:x.ltb n=true):x.lt n:=by
 cases x with
 |box ty cs=>exact fun y hy=>C.ltb_spec (List.all_eq_true.1 h y hy)
 |view r c _=>simpa [O.ltb,O.lt,Nat.blt_eq]using h
 |sub r i e j ty c=>simpa [O.ltb,O.lt,Nat.blt_eq]using h
 |ebox cs=>exact fun y hy=>C.ltb_spec (List.all_eq_true.1 h y hy)
 |lbox ty e n cs=>exact fun y hy=>C.ltb_spec (List.all_eq_true.1 h y hy)
 |elist e n cs=>exact fun y hy=>C.ltb_spec (List.all_eq_true.1 h y hy)
 |lview r e n cs =>
  simp only[O.ltb,Bool.and_eq_true]at h
  exact⟨by simpa using h.1,fun y hy=>C.ltb_spec (List.all_eq_true.1 h.2 y hy)⟩
 |_=>trivial
theorem jrL {l:List (Nat × V)} {t:Nat} {v:V} (h:jay l t=some v):(t,v)∈l:=by
 induction l with
 |nil=>cases h
 |cons p r ih =>
  obtain⟨k,x⟩:=p
  simp only[jay]at h
  split at h
  ·rename_i e; subst e; cases h; exact List.mem_cons_self
  ·exact List.mem_cons_of_mem _ (ih h)
theorem jgN {l:Hp} {t:Nat} {v:O} (h:find l t=some v):(t,v)∈l:=by
 induction l with
 |nil=>cases h
 |cons p r ih =>
  obtain⟨k,x⟩:=p
  simp only[find]at h
  split at h
  ·rename_i e; subst e; cases h; exact List.mem_cons_self
  ·exact List.mem_cons_of_mem _ (ih h)
theorem jqA {l:Rn} {t:Nat} {v:Option Nat} (h:ja3 l t=some v):(t,v)∈l:=by
 induction l with
 |nil=>cases h
 |cons p r ih =>
  obtain⟨k,x⟩:=p
  simp only[ja3]at h
  split at h
  ·rename_i e; subst e; cases h; exact List.mem_cons_self
  ·exact List.mem_cons_of_mem _ (ih h)
theorem Le.rel {st':St} (h:Le n0 st st') (hr:RelD ds ρ B N n0 st a w):∃ρ',RelD ds ρ' B N n0 st' a w∧jac n0 ρ ρ':=by
 unfold Le at h
 split at h
 ·rename_i hwf
  simp only[Bool.and_eq_true]at hwf
  obtain⟨hwf,hn0⟩:=hwf
  simp only[St.wfb,Bool.and_eq_true,List.all_eq_true]at hwf
  obtain⟨m1,h1,hE1,hI1,hT⟩:=joT (ρ:=ρ) st.tm h (fun _ _ _ hx=>by cases hx)
  obtain⟨B1,g,hh1⟩:=hr.heap
  obtain⟨m2,h2,hE2,hI2,hO⟩:=joV hh1 h1 hI1
  have h2:jqz n0 m2=true:=by
   split at h2
   ·assumption
   ·exact h2.elim
  refine⟨jbU ρ m2,⟨fun t v' hv'=>?_,hr.size,hr.defers,⟨B1,g,⟨fun h' o' hf=>?_,fun h' o' g' p' k hf hf' hne hk hk'=>?_,hh1.glob⟩⟩,hr.le,by simpa [Nat.ble_eq]using hn0⟩,fun h hh=>?_⟩
  ·obtain⟨v,hv,hS⟩:=hT t v' hv'
   refine⟨V.ltb_spec (hwf.1 (t,v') (jrL hv')),?_⟩
   rw[(hr.tm t v hv).2]
   exact(hS m2 hE2).symm
  ·have hm:=hwf.2 (h',o') (jgN hf)
   simp only[Nat.blt_eq]at hm
   exact⟨hm.1,O.ltb_spec hm.2,(hO h' o' hf).1 m2 (Ext.refl _)⟩
  ·rcases(hO h' o' hf).2 with ⟨s,o,h3,h4,h5⟩|h3
   ·rcases(hO g' p' hf').2 with ⟨s',o2,h3',h4',h5'⟩|h3'
    ·have hss:s≠s':=fun e=>hne (hI2 h' g' s h3 (by rw[e]; exact h3'))
     exact hh1.apart s o s' o2 k h4 h4' hss (h5 m2 (Ext.refl _) k hk) (h5' m2 (Ext.refl _) k hk')
    ·rw[h3' m2 (Ext.refl _)]at hk'; cases hk'
   ·rw[h3 m2 (Ext.refl _)]at hk; cases hk
  ·unfold jbU
   cases hl:ja3 m2 h with
   |none=>rfl
   |some x =>
    have:=List.all_eq_true.1 h2 (h,x) (jqA hl)
    have hb:h.blt n0=true:=by rw[Nat.blt_eq]; exact hh
    simp[hb]at this
    subst this
    rfl
 ·exact h.elim
end
end Go.Sx
end

section
open Go.RowKit
namespace Go.Sx
section
variable [Globs] {P:Program} {B:Kd} {N n0:Nat} {sp:jab} {ρ0:Env} {w0:World} {ds:List Deferred}
def jeQ [Globs] (P:Program) (B:Kd) (N n0:Nat) (ρ0:Env) (w0:World) (drawn:Array Oper→St→(St→Prop)→Prop):Prop :=
 ∀⦃ds:List Deferred⦄ (id:Nat) (ops:Array Oper) (st:St) (k:St→Prop) (ρ:Env) (a:Act) (w:World) (Q:Exit→Act→World→Prop),drawn ops st k→RelD ds ρ B N n0 st a w→jac n0 ρ0 ρ→Bel B w0 w →
  (∀ρ' st' a' w',RelD ds ρ' B N n0 st' a' w'→jac n0 ρ0 ρ'→Bel B w0 w'→k st'→Q .normal a' w')→(Code.region id ops true).wp P Q a w
theorem jhS {ρ:Env} {st:St} {a:Act} {w:World} {c:Operand} {b:Bool} (hr:RelD ds ρ B N n0 st a w) (h:(jbL st c).bind V.bool?=some b):a.eval c=.bool b:=by
 cases hc:jbL st c with
 |none=>simp[hc]at h
 |some v =>
  simp only[hc,Option.bind_some]at h
  rw[(hr.reads c v hc).2,V.bool?_eq h]
  rfl
theorem jhT {c:Code} {F:St→(Ex→St→Prop)→Prop} (hF:∀st k ρ a w,F st k→RelD ds ρ B N n0 st a w→jac n0 ρ0 ρ→Bel B w0 w→c.wp P (Qx ds ρ0 B N n0 w0 k) a w) :
  ∀(n:Nat) (st:St) (k:Ex→St→Prop) (ρ:Env) (a:Act) (w:World),jm5 F n st k→RelD ds ρ B N n0 st a w→jac n0 ρ0 ρ→Bel B w0 w→Code.rounds P c (Qx ds ρ0 B N n0 w0 k) n a w
 |0,_,_,_,_,_,h,_,_,_=>h.elim
 |n+1,st,k,ρ,a,w,h,hr,hag,hbl=>by
  rw[rounds_succ]
  refine wp_mono (hF st _ ρ a w h hr hag hbl) ?_
  rintro e a' w' ⟨x,ρ',st',rfl,hk,hr',hag',hbl'⟩
  cases x with
  |normal=>exact jhT hF n st' k ρ' a' w' hk hr' hag' hbl'
  |exit j=>exact⟨.exit j,ρ',st',rfl,hk,hr',hag',hbl'⟩
  |ret=>exact⟨.ret,ρ',st',rfl,hk,hr',hag',hbl'⟩
theorem jbo {fuel:Nat} {loops:jiE} {drawn:Array Oper→St→(St→Prop)→Prop} (hsp:jad P sp) (hdr:jeQ P B N n0 ρ0 w0 drawn) :
  ∀(c:Code) (cur:Nat) (gs:List Nat) (st:St) (k:Ex→St→Prop) (ρ:Env) (a:Act) (w:World),sx P sp N n0 fuel loops drawn c cur gs st k→RelD ds ρ B N n0 st a w→jac n0 ρ0 ρ→Bel B w0 w →
   c.wp P (Qx ds ρ0 B N n0 w0 k) a w
 | .skip,_,_,st,k,ρ,a,w,h,hr,hag,hbl=>wp_skip ⟨.normal,ρ,st,rfl,h,hr,hag,hbl⟩
 | .label _,_,_,st,k,ρ,a,w,h,hr,hag,hbl=>wp_label ⟨.normal,ρ,st,rfl,h,hr,hag,hbl⟩
 | .region id ops draw,_,_,st,k,ρ,a,w,h,hr,hag,hbl=>by
  unfold sx at h
  cases draw with
  |false =>
   refine wp_region_list ?_
   have:=jkv (P:=P) (Q:=Qx ds ρ0 B N n0 w0 k) (k:=fun st'=>k .normal st') (all:=ops.toList) hsp (fun ρ' st' a' w' h1 h2 h3 h4=>⟨.normal,ρ',st',rfl,h4,h1,h2,h3⟩) ops.toList ρ st a w hr hag hbl h
   simpa using this
  |true=>exact hdr id ops st _ ρ a w _ h hr hag hbl (fun ρ' st' a' w' h1 h2 h3 h4=>⟨.normal,ρ',st',rfl,h4,h1,h2,h3⟩)
 | .seq x y,cur,gs,st,k,ρ,a,w,h,hr,hag,hbl=>by
  unfold sx at h
  refine wp_seq (wp_mono (jbo hsp hdr x cur gs st _ ρ a w h hr hag hbl) ?_)
  rintro e a' w' ⟨ex,ρ',st',rfl,hk,hr',hag',hbl'⟩
  cases ex with
  |normal=>exact jbo hsp hdr y cur gs st' k ρ' a' w' hk hr' hag' hbl'
  |exit j=>exact⟨.exit j,ρ',st',rfl,hk,hr',hag',hbl'⟩
  |ret=>exact⟨.ret,ρ',st',rfl,hk,hr',hag',hbl'⟩
 | .cond c x y,cur,gs,st,k,ρ,a,w,h,hr,hag,hbl=>by
  unfold sx at h
  split at h
  ·rename_i b hb
   have he:=jhS hr hb
   cases b with
   |true=>exact wp_cond_true he (jbo hsp hdr x cur gs st k ρ a w h hr hag hbl)
   |false=>exact wp_cond_false he (jbo hsp hdr y cur gs st k ρ a w h hr hag hbl)
  ·exact h.elim
 | .block id c,_,gs,st,k,ρ,a,w,h,hr,hag,hbl=>by
  unfold sx at h
  refine wp_block (wp_mono (jbo hsp hdr c id gs st _ ρ a w h hr hag hbl) ?_)
  rintro e a' w' ⟨ex,ρ',st',rfl,hk,hr',hag',hbl'⟩
  cases ex with
  |normal=>exact⟨.normal,ρ',st',rfl,hk,hr',hag',hbl'⟩
  |exit j =>
   simp only[Ex.toExit,Exit.inBlock]
   dsimp only at hk
   split
   ·rename_i e
    rw[if_pos e]at hk
    exact⟨.normal,ρ',st',rfl,hk,hr',hag',hbl'⟩
   ·rename_i e
    rw[if_neg e]at hk
    exact⟨.exit j,ρ',st',rfl,hk,hr',hag',hbl'⟩
  |ret=>exact⟨.ret,ρ',st',rfl,hk,hr',hag',hbl'⟩
 | .loop c,cur,gs,st,k,ρ,a,w,h,hr,hag,hbl=>by
  unfold sx at h
  split at h
  ·rename_i L hL
   obtain⟨⟨x0,⟨hx0⟩,hle0⟩,hround⟩:=h
   obtain⟨ρ1,hr1,hag1⟩:=hle0.rel hr
   have hag01:jac n0 ρ0 ρ1:=fun h hh=>(hag1 h hh).trans (hag h hh)
   have key:∀(n:Nat) (x:L.X),L.mu x=n→L.inv x→∀(ρ:Env) (a:Act) (w:World),RelD ds ρ B N n0 (L.st x) a w→jac n0 ρ0 ρ→Bel B w0 w→Code.rounds P c (Qx ds ρ0 B N n0 w0 k) (n+1) a w:=by
    intro n
    induction n using Nat.strongRecOn with
    |_ n ih =>
     intro x hn hx ρ a w hr hag hbl
     rw[rounds_succ]
     refine wp_mono (jbo hsp hdr c cur (L.mu x::gs) (L.st x) _ ρ a w (hround x hx) hr hag hbl) ?_
     rintro e a' w' ⟨ex,ρ',st',rfl,hk,hr',hag',hbl'⟩
     cases ex with
     |normal =>
      obtain⟨x',⟨hx'⟩,⟨hmu⟩,hle⟩:=hk
      obtain⟨ρ2,hr2,hag2⟩:=Le.rel hle hr'
      have hlt:L.mu x'<n:=by omega
      have:=ih (L.mu x') hlt x' rfl hx' ρ2 a' w' hr2 (fun h hh=>(hag2 h hh).trans (hag' h hh)) hbl'
      exact rounds_le (by omega) this
     |exit j=>exact⟨.exit j,ρ',st',rfl,hk,hr',hag',hbl'⟩
     |ret=>exact⟨.ret,ρ',st',rfl,hk,hr',hag',hbl'⟩
   exact wp_loop_rounds _ (key _ x0 rfl hx0 ρ1 a w hr1 hag01 hbl)
  ·refine wp_loop_rounds fuel (jhT (F:=fun st k=>sx P sp N n0 fuel loops drawn c cur gs st k) ?_ fuel st k ρ a w h hr hag hbl)
   intro st k ρ a w h hr hag hbl
   exact jbo hsp hdr c cur gs st k ρ a w h hr hag hbl
 | .exit id,_,_,st,k,ρ,a,w,h,hr,hag,hbl=>wp_exit ⟨.exit id,ρ,st,rfl,h,hr,hag,hbl⟩
 | .ret,_,_,st,k,ρ,a,w,h,hr,hag,hbl=>wp_ret ⟨.ret,ρ,st,rfl,h,hr,hag,hbl⟩
 | .scope _,_,_,_,_,_,_,_,h,_,_,_=>h.elim
 | .goto _,_,_,_,_,_,_,_,h,_,_,_=>h.elim
 | .rangeFunc _ _ _ _,_,_,_,_,_,_,_,h,_,_,_=>h.elim
 | .refuse _,_,_,_,_,_,_,_,h,_,_,_=>h.elim
 where
 rounds_le {c:Code} {Q:Exit→Act→World→Prop}:∀{n m:Nat} {a:Act} {w:World},n≤m→Code.rounds P c Q n a w→Code.rounds P c Q m a w
  |0,_,_,_,_,h=>h.elim
  |n+1,0,_,_,hl,_=>by omega
  |n+1,m+1,a,w,hl,h=>by
   rw[rounds_succ]at *
   refine wp_mono h ?_
   intro e a' w' hq
   cases e<;>first|exact rounds_le (Nat.le_of_succ_le_succ hl) hq|exact hq
end
end Go.Sx
end

section
open Go.RowKit
namespace Go.Sx
def jhU (P:Program) (st:St):ResultVar→Option (Prop × W)
 | .tmp t=>match jay st.tm t with
  |some (.w u)=>some (True,u)
  |_=>none
 | .cell t ty=>match jay st.tm t with
  |some (.w (.c (.p h i e j)))=>match find st.hp h with
   |some o=>match jct P ty o i e j with
    |some (ob,.w u)=>some (ob,u)
    |_=>none
   |none=>none
  |_=>none
def jdx (P:Program) (st:St):List ResultVar→Option (List (Prop × W))
 |[]=>some []
 |r::rs=>match jhU P st r,jdx P st rs with
  |some x,some l=>some (x::l)
  |_,_=>none
def jaK:List W→V
 |[u]=>.w u
 |l=>.t l
def jgj:List (Prop × W)→Prop→Prop
 |[],k=>k
 |x::l,k=>Ob x.1∧jgj l k
def jdy (P:Program) (rs:List ResultVar) (post:V→Hp→Nat→Prop):Ex→St→Prop
 | .exit _,_=>False
 |_,st=>match jdx P st rs with
  |some l=>jgj l (post (jaK (l.map (·.2))) st.hp st.nx)
  |none=>False
def jbV:Nat→List V→List (Nat × V)
 |_,[]=>[]
 |n,v::l=>(n,v)::jbV (n+1) l
def jkw (tmps:Array Value):ResultVar→Sem Value
 | .tmp t=>pure (tmps.getD t undef)
 | .cell c t=>do loadVar t (←asAddr (tmps.getD c undef))
theorem jgO (fn:Func) (tmps:Array Value):results fn tmps=(fn.results.mapM (jkw tmps) >>= fun vs=>pure (if h:vs.size=1 then vs[0]else .tuple vs)):=by
 unfold results
 congr 1
section
variable [Globs] {P:Program} {B:Kd} {N n0:Nat} {ρ:Env} {st:St} {a:Act} {w:World} {ds:List Deferred}
theorem jpt {r:ResultVar} {ob:Prop} {u:W} (hr:RelD ds ρ B N n0 st a w) (h:jhU P st r=some (ob,u)) (ho:ob) :
  (jkw a.tmps r).run P w=.ok (u.val ρ) w∧u.lt st.nx:=by
 unfold jhU at h
 split at h
 ·rename_i t
  split at h
  ·rename_i u' hg
   cases h
   have:=hr.tm t _ hg
   exact⟨by simp only[jkw,Sem.run_pure,this.2]; rfl,this.1⟩
  ·cases h
 ·rename_i t ty
  split at h
  ·rename_i k i e j hg
   split at h
   ·rename_i o hf
    split at h
    ·rename_i ob' u' hro
     cases h
     have h1:=(hr.tm t _ hg).2
     obtain⟨B1,g,hh1⟩:=hr.heap
     have h2:=jhC hh1 hf hro ho
     refine⟨?_,h2.2⟩
     simp only[jkw,h1,cell_val,C.val,asAddr,Sem.run_bind,Sem.run_pure,Result.andThen_ok]
     exact h2.1
    ·cases h
   ·cases h
  ·cases h
theorem jeG (hr:RelD ds ρ B N n0 st a w):∀(rs:List ResultVar) (l:List (Prop × W)) (k:Prop),jdx P st rs=some l→jgj l k →
  (rs.mapM (jkw a.tmps)).run P w=.ok (l.map fun x=>x.2.val ρ) w∧(∀x∈l,x.2.lt st.nx)∧k
 |[],l,k,h,ho=>by
  simp only[jdx,Option.some.injEq]at h
  subst h
  exact⟨by simp,(fun _ hx=>by cases hx),ho⟩
 |r::rs,l,k,h,ho=>by
  simp only[jdx]at h
  split at h
  ·rename_i x l' hx hl
   cases h
   obtain⟨h1,h2⟩:=ho
   have ih:=jeG hr rs l' k hl h2
   have h3:=jpt hr hx h1.h
   refine⟨?_,?_,ih.2.2⟩
   ·simp only[List.mapM_cons,Sem.run_bind,h3.1,Result.andThen_ok,ih.1,Sem.run_pure,List.map_cons]
   ·intro y hy
    rcases List.mem_cons.1 hy with rfl|hy
    ·exact h3.2
    ·exact ih.2.1 y hy
  ·cases h
theorem jcd (l:List W):(jaK l).val ρ=(if h:(l.map (W.val ρ)).toArray.size=1 then(l.map (W.val ρ)).toArray[0]else .tuple (l.map (W.val ρ)).toArray):=by
 match l with
 |[]=>rfl
 |[u]=>rfl
 |u::v::r=>simp[jaK,V.val]
theorem jeR {n:Nat} {l:List W} (h:∀x∈l,x.lt n):(jaK l).lt n:=by
 match l with
 |[]=>exact h
 |[u]=>exact h u List.mem_cons_self
 |u::v::r=>exact h
theorem jlO:∀(l:List V) (n t:Nat) (v:V),jay (jbV n l) t=some v→n≤t∧l[t-n]?=some v
 |[],_,_,_,h=>by cases h
 |x::l,n,t,v,h=>by
  simp only[jbV,jay]at h
  split at h
  ·rename_i e
   subst e
   cases h
   simp
  ·have:=jlO l (n+1) t v h
   refine⟨by omega,?_⟩
   have e:t-n=(t-(n+1))+1:=by omega
   rw[e]
   simpa using this.2
theorem jfE {N:Nat} {args:List V} {hp0:Hp} {nx0:Nat} (hlen:args.length≤N) (hlt:∀x∈args,V.lt nx0 x) (hn0:n0≤nx0) (ρ:Env) (w:World) (hh:HRel ρ B hp0 nx0 w) (hB:Old B w) :
  Rel ρ B N n0 ⟨jbV 0 args,hp0,nx0⟩ { tmps:=(args.map (V.val ρ)).toArray++Array.replicate (N-(args.map (V.val ρ)).toArray.size) undef,defers:=[] } w:=by
 refine⟨fun t v hv=>?_,by simp; omega,rfl,⟨B,Grow.refl _ _ _ _,hh⟩,hB,hn0⟩
 have hg:=jlO args 0 t v hv
 simp only[Nat.sub_zero]at hg
 have hlt2:t<args.length:=(List.getElem?_eq_some_iff.1 hg.2).1
 refine⟨hlt v (List.mem_of_getElem? hg.2),?_⟩
 have hv2:args[t]=v:=(List.getElem?_eq_some_iff.1 hg.2).2
 have hsz:t<((args.map (V.val ρ)).toArray++Array.replicate (N-(args.map (V.val ρ)).toArray.size) undef).size:=by simp; omega
 simp only[Array.getD_eq_getD_getElem?,Array.getElem?_eq_getElem hsz,Option.getD_some]
 rw[Array.getElem_append_left (by simpa using hlt2)]
 simp[hv2]
theorem jm9 {sp:jab} {fuel:Nat} {loops:jiE} {drawn:Array Oper→St→(St→Prop)→Prop} {f:Nat} {fn:Func} {body:Code} {args:List V} {hp0:Hp} {nx0:Nat} {post:V→Hp→Nat→Prop}
  (hsp:jad P sp) (hdr:∀ρ w,jeQ P B fn.ntmps n0 ρ w drawn) (hf:P.funcs[f]?=some fn) (hb:fn.body=some body) (hlen:args.length≤fn.ntmps)
  (h:sx P sp fn.ntmps n0 fuel loops drawn body 0 [] ⟨jbV 0 args,hp0,nx0⟩ (jdy P fn.results.toList post)) (hlt:∀x∈args,V.lt nx0 x) (hn0:n0≤nx0) (ρ:Env) (w:World) (hh:HRel ρ B hp0 nx0 w) (hB:Old B w) :
  Calls P f (args.map (V.val ρ)).toArray w fun e w'=>∃ρ' v hp' nx',e=.returned (v.val ρ')∧v.lt nx'∧jac n0 ρ ρ'∧(∃B',Grow B B' false w' w'∧HRel ρ' B' hp' nx' w')∧Bel B w w'∧Old B w'∧post v hp' nx':=by
 refine calls_of_wp hf hb ?_
 have hrel:=jfE (n0:=n0) hlen hlt hn0 ρ w hh hB
 refine wp_mono (jbo hsp (hdr ρ w) body 0 [] _ _ ρ _ w h hrel (jac.refl _ _) (Bel.refl _ _)) ?_
 rintro e a' w' ⟨x,ρ',st',rfl,hk,hr',hag',hbl'⟩
 have fin:∀l:List (Prop × W),jdx P st' fn.results.toList=some l→jgj l (post (jaK (l.map (·.2))) st'.hp st'.nx) →
   a'.defers=[]∧∃v,(results fn a'.tmps).run P w'=.ok v w'∧∃ρ' v' hp' nx',Ending.returned v=.returned (v'.val ρ')∧v'.lt nx'∧jac n0 ρ ρ'∧(∃B',Grow B B' false w' w'∧HRel ρ' B' hp' nx' w')∧Bel B w w'∧Old B w'∧post v' hp' nx':=by
  intro l hl ho
  have hra:=jeG hr' _ l _ hl ho
  refine⟨hr'.defers,(jaK (l.map (·.2))).val ρ',?_,ρ',jaK (l.map (·.2)),st'.hp,st'.nx,rfl,jeR (fun y hy=>?_),hag',hr'.heap,hbl',hr'.le,hra.2.2⟩
  ·rw[jcd]
   simp only[jgO,Array.mapM_eq_mapM_toList,Sem.run_bind,Sem.run_map,hra.1,Result.andThen_ok,Sem.run_pure,List.map_map]
   rfl
  ·obtain⟨z,hz,rfl⟩:=List.mem_map.1 hy
   exact hra.2.1 z hz
 cases x with
 |normal =>
  simp only[jdy]at hk
  split at hk
  ·rename_i l hl
   exact fin l hl hk
  ·exact hk.elim
 |exit j=>exact hk.elim
 |ret =>
  simp only[jdy]at hk
  split at hk
  ·rename_i l hl
   exact fin l hl hk
  ·exact hk.elim
end
end Go.Sx
end

section
open Go.RowKit
namespace Go.Sx
def jkx (n:Nat) (l:List Nat):List Nat:=match l.contains n with
 |true=>l
 |false=>n::l
def jgP (a b:List Nat):List Nat:=a.foldr jkx b
def jcq (acc:List (List Nat)):List Edge→List Nat
 |[]=>[]
 |e::r=>match Region.binds .any e with
  |true=>jkx e.on (jgP (acc.getD e.on []) (jcq acc r))
  |false=>jcq acc r
def je8:List Oper→List (List Nat)→List (List Nat)
 |[],acc=>acc
 |o::r,acc=>je8 r (acc++[jcq acc o.after.toList])
theorem jky {n m:Nat} {l:List Nat}:m∈jkx n l↔m=n∨m∈l:=by
 unfold jkx
 split
 ·rename_i h
  simp at h
  constructor
  ·exact .inr
  ·rintro (rfl|h')
   ·exact h
   ·exact h'
 ·simp
theorem jhV {m:Nat}:∀{a b:List Nat},m∈jgP a b↔m∈a∨m∈b
 |[],b=>by simp[jgP]
 |x::a,b=>by
  have:=jhV (m:=m) (a:=a) (b:=b)
  simp only[jgP,List.foldr_cons]at *
  rw[jky,this]
  simp[or_assoc]
theorem jfU {acc:List (List Nat)} {k:Nat}:∀{es:List Edge},k∈jcq acc es→∃e∈es,Region.binds .any e=true∧(k=e.on∨k∈acc.getD e.on [])
 |[],h=>by cases h
 |e::r,h=>by
  unfold jcq at h
  split at h
  ·rename_i hb
   rcases jky.1 h with h|h
   ·exact⟨e,List.mem_cons_self,hb,.inl h⟩
   ·rcases jhV.1 h with h|h
    ·exact⟨e,List.mem_cons_self,hb,.inr h⟩
    ·obtain⟨e',he',h'⟩:=jfU h
     exact⟨e',List.mem_cons_of_mem _ he',h'⟩
  ·obtain⟨e',he',h'⟩:=jfU h
   exact⟨e',List.mem_cons_of_mem _ he',h'⟩
def jce (L:List Oper) (tab:List (List Nat)):Prop :=
 ∀i k,k∈tab.getD i []→∃o,L[i]?=some o∧∃e∈o.after.toList,Region.binds .any e=true∧(k=e.on∨(e.on<i∧k∈tab.getD e.on []))
theorem joW (L:List Oper):∀(r:List Oper) (acc:List (List Nat)),L=L.take acc.length++r→jce L acc→jce L (je8 r acc)
 |[],acc,_,h=>h
 |o::r,acc,hL,h=>by
  unfold je8
  have hlen:acc.length<L.length:=by
   have:=congrArg List.length hL
   simp at this
   omega
  have ho:L[acc.length]?=some o:=by
   rw[hL,List.getElem?_append_right (by simp; omega)]
   simp[Nat.min_eq_left (Nat.le_of_lt hlen)]
  refine joW L r (acc++[jcq acc o.after.toList]) ?_ ?_
  ·have h1:L.take (acc.length+1)=L.take acc.length++[o]:=by
    rw[List.take_succ_eq_append_getElem hlen]
    congr 2
    have:=List.getElem?_eq_getElem hlen
    rw[this]at ho
    exact Option.some.inj ho
   simp only[List.length_append,List.length_singleton,h1,List.append_assoc,List.singleton_append]
   exact hL
  ·intro i k hk
   by_cases hi:i<acc.length
   ·have e1:(acc++[jcq acc o.after.toList]).getD i []=acc.getD i []:=by simp[List.getD,List.getElem?_append_left hi]
    rw[e1]at hk
    obtain⟨o',ho',e,he,hb,hor⟩:=h i k hk
    refine⟨o',ho',e,he,hb,hor.imp id fun⟨h1,h2⟩=>⟨h1,?_⟩⟩
    simpa [List.getD,List.getElem?_append_left (show e.on<acc.length by omega)]using h2
   ·by_cases hi2:i=acc.length
    ·subst hi2
     have e1:(acc++[jcq acc o.after.toList]).getD acc.length []=jcq acc o.after.toList:=by simp[List.getD]
     rw[e1]at hk
     obtain⟨e,he,hb,hor⟩:=jfU hk
     refine⟨o,ho,e,he,hb,hor.imp id fun h2=>?_⟩
     have hlt:e.on<acc.length:=by
      rcases Nat.lt_or_ge e.on acc.length with h|h
      ·exact h
      ·simp[List.getD,List.getElem?_eq_none h]at h2
     exact⟨hlt,by simpa [List.getD,List.getElem?_append_left hlt]using h2⟩
    ·have:(acc++[jcq acc o.after.toList]).getD i []=[]:=by
      rw[List.getD,List.getElem?_eq_none (by simp; omega)]
      rfl
     rw[this]at hk
     cases hk
def jb7 (L:List Oper) (D:Nat→Bool):Prop:=∀j o,L[j]?=some o→D j=true→∀e∈o.after.toList,Region.binds .any e=true→D e.on=true
theorem jcf {L:List Oper} {tab:List (List Nat)} {D:Nat→Bool} (ht:jce L tab) (hc:jb7 L D) :
  ∀(i:Nat) (k:Nat),(∀o,L[i]?=some o→∀e∈o.after.toList,Region.binds .any e=true→D e.on=true)→k∈tab.getD i []→D k=true:=by
 intro i
 induction i using Nat.strongRecOn with
 |_ i ih =>
  intro k hd hk
  obtain⟨o,ho,e,he,hb,hor⟩:=ht i k hk
  have h1:=hd o ho e he hb
  rcases hor with rfl|⟨hlt,hk'⟩
  ·exact h1
  ·exact ih e.on hlt k (fun o' ho' e' he' hb'=>hc e.on o' ho' h1 e' he' hb') hk'
structure Rec where
 v:V
 hp:Hp
 nx:Nat
 kd:Nat
 nw:Hp
 tg:Option Nat
def jav:Op→Bool
 | .load _ _=>true
 | .binOp _ _ _ y _=>jqh y
 | .indexAddr _ _ _=>true
 | .call c=>match c.callee with
  | .builtin .len=>true
  |_=>false
 |_=>false
def loadAt (op:Op) (rd:Operand→Option V):Option Nat :=
 match op with
 | .load _ x=>match rd x with
  |some (.w (.c (.p h _ _ _)))=>some h
  |_=>none
 | .binOp _ _ x _ _=>match rd x with
  |some (.w (.c (.o h)))=>some h
  |_=>none
 | .indexAddr _ x _=>match rd x with
  |some (.w (.c (.o h)))=>some h
  |_=>none
 | .call c=>match c.args.toList with
  |[x]=>match rd x with
   |some (.w (.c (.o h)))=>some h
   |_=>none
  |_=>none
 |_=>none
def storeAt (op:Op) (rd:Operand→Option V):Option Nat :=
 match op with
 | .store _ x _=>match rd x with
  |some (.w (.c (.p h _ _ _)))=>some h
  |_=>none
 | .call c=>match c.callee,c.args.toList with
  | .builtin .append,[s,_]=>match rd s with
   |some (.w (.c (.o h)))=>some h
   |some (.w (.c (.d (.v (.slice none 0 0)))))=>some 1000000007
   |_=>none
  |_,_=>none
 |_=>none
def jdz:Option O→Bool
 |some (.box _ _)=>true
 |some (.row _ _)=>true
 |some (.ext _)=>true
 |some (.ebox _)=>true
 |some (.arr _ _ _ _)=>true
 |some (.xext _)=>true
 |some (.fext _)=>true
 |some (.xrow _ _)=>true
 |some (.mrow _ _ _ _)=>true
 |some (.lbox _ _ _ _)=>true
 |some (.elist _ _ _)=>true
 |_=>false
def jbr (L:List Oper) (j:Nat):Option Nat:=(L[j]?).bind (·.dst)
def jah (st0:St):List Rec→Hp
 |[]=>st0.hp
 |r::_=>r.hp
def jaa (st0:St):List Rec→Nat
 |[]=>st0.nx
 |r::_=>r.nx
def jbH (L:List Oper) (bef:List Nat) (st0:St) (t:Nat):List Rec→Option V
 |[]=>jay st0.tm t
 |r::tr=>match jbr L tr.length with
  |some d=>if d=t then(match bef.contains tr.length with|true=>some r.v|false=>none)else jbH L bef st0 t tr
  |none=>jbH L bef st0 t tr
def jaU [Globs] (L:List Oper) (nm:List Nat) (bef:List Nat) (st0:St) (tr:List Rec):Operand→Option V
 | .tmp t=>match nm.contains t with
  |true=>jbH L bef st0 t tr
  |false=>none
 |x=>jbL st0 x
def jal (q:Nat→Bool) (st0:St):List Rec→Nat→Bool
 |[],_=>true
 |_::tr,h=>match Nat.ble (jaa st0 tr) h with
  |true=>q tr.length
  |false=>jal q st0 tr h
def jhW:Op→Bool
 | .build _ _=>true
 |_=>false
def jbv (st0:St):List Rec→Nat→Bool
 |[],h=>C.one st0.hp (.o h)
 |r::tr,h=>match Nat.ble (jaa st0 tr) h with
  |true=>C.one r.hp (.o h)
  |false=>jbv st0 tr h
def jem (bef:List Nat) (st0:St) (tr:List Rec):Hp:=((jah st0 tr).filter fun x=>jal (fun j=>bef.contains j) st0 tr x.1&&jbv st0 tr x.1).map fun x=>(x.1,O.atom)
def C.allB (p:Nat→Bool):C→Bool
 | .d _=>true
 | .p h _ _ _=>p h
 | .o h=>p h
 | .fn _ hs=>hs.all p
 | .fb _ hs=>hs.all p
 | .g _ _ _ _=>true
def W.allB (p:Nat→Bool):W→Bool
 | .c x=>x.allB p
 | .a l=>l.all (C.allB p)
 | .b _ _ _=>true
def V.allB (p:Nat→Bool):V→Bool
 | .w x=>x.allB p
 | .t l=>l.all (W.allB p)
def O.allB (p:Nat→Bool):O→Bool
 | .box _ cs=>cs.all (C.allB p)
 | .view r _ _=>p r
 | .sub r _ _ _ _ _=>p r
 | .ebox cs=>cs.all (C.allB p)
 | .lbox _ _ _ cs=>cs.all (C.allB p)
 | .lview r _ _ cs=>p r&&cs.all (C.allB p)
 | .elist _ _ cs=>cs.all (C.allB p)
 |_=>true
def jaN (bef:List Nat) (st0:St) (tr:List Rec) (v:V) (hp:Hp) (nx:Nat):Bool :=
 Nat.ble (jaa st0 tr) nx&&v.allB (fun h=>Nat.blt h nx&&(Nat.ble (jaa st0 tr) h||jal (fun j=>bef.contains j) st0 tr h)) &&
  hp.all (fun x=>Nat.blt x.1 nx&&x.2.allB fun h=>Nat.blt h nx&&(Nat.ble (jaa st0 tr) h||jal (fun j=>bef.contains j) st0 tr h))
def jaH (n:Nat) (hp:Hp):Hp:=hp.filter fun x=>Nat.ble n x.1
def jap:Op→Bool
 | .binOp _ _ _ y _=>!(jqh y)
 | .move _ | .assign _ | .pick _ _ _ | .unOp _ _ _ | .extract _ _ | .field _ _ _ | .fieldAddr _ _ _ | .nilCheck _ | .convert _ _ _ | .build _ _=>true
 |_=>false
def jgQ:Op→Bool
 | .makeSlice _ _ _ | .buildSlice _ _ _ | .alloc _ | .box _ _=>true
 |_=>false
def jaT (tab:List (List Nat)) (i:Nat) (lf mk:Bool):Nat→List Oper→Bool
 |_,[]=>true
 |j,o::r=>(Nat.beq j i||jap o.op||(tab.getD i []).contains j||(tab.getD j []).contains i||(lf&&jav o.op)||(mk&&Nat.blt i j&&jgQ o.op))&&jaT tab i lf mk (j+1) r
def jfF:Op→Bool
 | .makeSlice _ _ _ | .alloc _ | .box _ _=>true
 |_=>false
def jd6 (tab:List (List Nat)) (i:Nat):Nat→List Oper→Bool
 |_,[]=>true
 |k,o::r=>(Nat.ble k i||jap o.op||jav o.op||(tab.getD k []).contains i||jfF o.op)&&jd6 tab i (k+1) r
def jdU:O→Bool
 | .row _ _=>true
 | .box _ _=>true
 | .lbox _ _ _ _=>true
 | .arr _ _ _ _=>true
 |_=>false
def jgR:O→Bool
 | .ext _=>true
 | .ebox _=>true
 | .xext _=>true
 | .elist _ _ _=>true
 |_=>false
def jlq (hp0:Hp) (nx:Nat) (tg:Option Nat) (hp:Hp):Bool :=
 match tg with
 |none=>false
 |some h=>hp.all fun x=>!(jgR x.2)||(!(Nat.beq x.1 h)&&Nat.blt x.1 nx&&match find hp0 x.1 with
  |some o=>jgR o
  |none=>false)
def jak (L:List Oper) (o:Oper):List Nat :=
 o.dst.toList++(o.op.operands.toList.filterMap fun | .tmp t=>some t|_=>none)++(match o.guard with|some (g,_)=>(jbr L g).toList|none=>[])
def jeH (L:List Oper) (tab:List (List Nat)) (j t:Nat):Nat→List Oper→Bool
 |_,[]=>true
 |i,o::r=>(!(Nat.blt i j)||!((jak L o).contains t)||(tab.getD j []).contains i)&&jeH L tab j t (i+1) r
def jbP (L:List Oper) (tab:List (List Nat)):Nat→List Oper→Bool
 |_,[]=>true
 |j,o::r=>(match o.dst with|some t=>jeH L tab j t 0 L|none=>true)&&jbP L tab (j+1) r
def obT (t:Bool) (ob k:Prop):Prop:=match t with
 |true=>k
 |false=>Ob ob∧k
def jdn [Globs] (L:List Oper) (tab:List (List Nat)) (st0:St) (bef:List Nat) (h:Nat):List Rec→Bool
 |[]=>true
 |_::tr=>(match L[tr.length]? with
  |none=>false
  |some o=>match jav o.op with
   |false=>true
   |true=>bef.contains tr.length||match loadAt o.op (jaU L (jak L o) (tab.getD tr.length []) st0 tr)with
    |none=>false
    |some x=>!(Nat.beq x h)&&jdz (find (jah st0 tr) x))&&jdn L tab st0 bef h tr
def jbd (st0:St) (bef:List Nat) (h:Nat):List Rec→Bool
 |[]=>true
 |r::tr=>(!(Nat.beq r.kd 2)||bef.contains tr.length||match r.tg with
  |none=>false
  |some t=>!(Nat.beq t h)&&jdz (find (jah st0 tr) h))&&jbd st0 bef h tr
def jcx (bef:List Nat):List Rec→Bool
 |[]=>true
 |r::tr=>(!(Nat.beq r.kd 2)||bef.contains tr.length)&&jcx bef tr
def jcL (bef:List Nat) (st0:St) (tr:List Rec):Hp :=
 match jcx bef tr with
 |true=>(jah st0 tr).filter fun x=>jal (fun j=>bef.contains j) st0 tr x.1
 |false=>(jah st0 tr).filter fun x=>jal (fun j=>bef.contains j) st0 tr x.1&&jbd st0 bef x.1 tr
def jkz (bef:List Nat) (tr:List Rec) (nw:Hp):Bool :=
 match jcx bef tr with
 |true=>true
 |false=>nw.all fun x=>jdU x.2
def je9 (hp:Hp) (b:Bool) (v:Option V):Bool :=
 match v with
 |some (.w (.c (.o h)))=>match find hp h with
  |some (.mrow _ _ _ _)=>false
  |some (.sub _ _ _ _ _ _)=>!b
  |_=>true
 |_=>true
def jcT [Globs] (hp:Hp) (op:Op) (rd:Operand→Option V):Bool :=
 match op with
 | .store _ x y=>match rd x,rd y with
  |some (.w (.c (.p h _ _ _))),some v=>match find hp h with
   |some (.xrow _ _)=>v.allB fun _=>false
   |some (.mrow _ _ _ _)=>v.allB fun _=>false
   |some (.sub _ _ _ _ _ _)=>false
   |_=>true
  |_,_=>true
 | .call c=>match c.callee,c.args.toList with
  | .builtin .append,[s,x]=>je9 hp true (rd s)&&je9 hp false (rd x)
  |_,_=>true
 |_=>true
def jbi [Globs] (L:List Oper) (tab:List (List Nat)) (st0:St) (o:Oper) (tr:List Rec):Option Nat :=
 match storeAt o.op (jaU L (jak L o) (tab.getD tr.length []) st0 tr)with
 |some h=>match jdn L tab st0 (tab.getD tr.length []) h tr&&jcT (jah st0 tr) o.op (jaU L (jak L o) (tab.getD tr.length []) st0 tr)with
  |true=>some h
  |false=>none
 |none=>none
def jlr [Globs] (L:List Oper) (tab:List (List Nat)) (st0:St) (o:Oper) (tr:List Rec):Option Bool :=
 match jaT tab tr.length ((jbi L tab st0 o tr).isSome) false 0 L with
 |true=>some false
 |false=>match(jbi L tab st0 o tr).isSome&&jaT tab tr.length ((jbi L tab st0 o tr).isSome) true 0 L with
  |true=>some true
  |false=>none
def jls [Globs] (L:List Oper) (tab:List (List Nat)) (st0:St) (o:Oper) (tr:List Rec) (mk:Bool) (hp:Hp):Bool :=
 match mk with
 |false=>true
 |true=>jlq (jah st0 tr) (jaa st0 tr) (jbi L tab st0 o tr) hp
def dop [Globs] (P:Program) (sp:jab) (N:Nat) (L:List Oper) (tab:List (List Nat)) (st0:St) (o:Oper) (tr:List Rec) (k:Rec→Prop):Prop :=
 match jbK N o.dst with
 |false=>False
 |true =>
  match jaR P o.op (jaU L (jak L o) (tab.getD tr.length []) st0 tr) []with
  |some (ob,v)=>match jaN (tab.getD tr.length []) st0 tr v [] (jaa st0 tr)with
   |true=>obT (jaV o.op (jaU L (jak L o) (tab.getD tr.length []) st0 tr) []) ob (k ⟨v,jah st0 tr,jaa st0 tr,0,[],none⟩)
   |false=>False
  |none =>
   match jap o.op with
   |true=>match jhW o.op with
    |true=>match jaR P o.op (jaU L (jak L o) (tab.getD tr.length []) st0 tr) (jem (tab.getD tr.length []) st0 tr)with
     |some (ob,v)=>match jaN (tab.getD tr.length []) st0 tr v [] (jaa st0 tr)with
      |true=>obT (jaV o.op (jaU L (jak L o) (tab.getD tr.length []) st0 tr) (jem (tab.getD tr.length []) st0 tr)) ob (k ⟨v,jah st0 tr,jaa st0 tr,0,[],none⟩)
      |false=>False
     |none=>False
    |false=>False
   |false =>
    match jav o.op with
    |true=>match loadAt o.op (jaU L (jak L o) (tab.getD tr.length []) st0 tr)with
     |none=>False
     |some h=>match find (jah st0 tr) h with
      |none=>False
      |some x=>match jal (fun j=>(tab.getD tr.length []).contains j) st0 tr h&&jbd st0 (tab.getD tr.length []) h tr with
       |false=>False
       |true=>match jaR P o.op (jaU L (jak L o) (tab.getD tr.length []) st0 tr) [(h,x)]with
        |none=>match jd6 tab tr.length 0 L&&jcx (tab.getD tr.length []) tr&&jaj sp o.op (jaU L (jak L o) (tab.getD tr.length []) st0 tr)with
         |false=>False
         |true=>match ja5 P sp o.op (jaU L (jak L o) (tab.getD tr.length []) st0 tr) (jcL (tab.getD tr.length []) st0 tr) (jaa st0 tr)with
          |some res=>match jaN (tab.getD tr.length []) st0 tr res.v (jaH (jaa st0 tr) res.hp) res.nx with
           |true=>obT (jaV o.op (jaU L (jak L o) (tab.getD tr.length []) st0 tr) (jcL (tab.getD tr.length []) st0 tr)) res.ob (k ⟨res.v,jaH (jaa st0 tr) res.hp++jah st0 tr,res.nx,1,jaH (jaa st0 tr) res.hp,none⟩)
           |false=>False
          |none=>False
        |some (ob,v)=>match jaN (tab.getD tr.length []) st0 tr v [] (jaa st0 tr)with
         |true=>obT (jaV o.op (jaU L (jak L o) (tab.getD tr.length []) st0 tr) [(h,x)]) ob (k ⟨v,jah st0 tr,jaa st0 tr,0,[],none⟩)
         |false=>False
    |false =>
    match jaj sp o.op (jaU L (jak L o) (tab.getD tr.length []) st0 tr)with
    |true=>match ja5 P sp o.op (jaU L (jak L o) (tab.getD tr.length []) st0 tr) (jcL (tab.getD tr.length []) st0 tr) (jaa st0 tr)with
     |some res=>match jaN (tab.getD tr.length []) st0 tr res.v (jaH (jaa st0 tr) res.hp) res.nx&&jkz (tab.getD tr.length []) tr (jaH (jaa st0 tr) res.hp)with
      |true=>obT (jaV o.op (jaU L (jak L o) (tab.getD tr.length []) st0 tr) (jcL (tab.getD tr.length []) st0 tr)) res.ob (k ⟨res.v,jaH (jaa st0 tr) res.hp++jah st0 tr,res.nx,1,jaH (jaa st0 tr) res.hp,none⟩)
      |false=>False
     |none=>False
    |false=>match jlr L tab st0 o tr with
     |none=>False
     |some mk=>match ja5 P sp o.op (jaU L (jak L o) (tab.getD tr.length []) st0 tr) (jah st0 tr) (jaa st0 tr)with
      |some res=>match jaN (tab.getD tr.length []) st0 tr res.v res.hp res.nx&&jls L tab st0 o tr mk res.hp with
       |true=>obT (jaV o.op (jaU L (jak L o) (tab.getD tr.length []) st0 tr) (jah st0 tr)) res.ob (k ⟨res.v,res.hp,res.nx,2,[],jbi L tab st0 o tr⟩)
       |false=>False
      |none=>False
def jgS (N:Nat) (st0:St) (o:Oper) (tr:List Rec) (k:Rec→Prop):Prop :=
 match jbK N o.dst with
 |false=>False
 |true=>k ⟨vu,jah st0 tr,jaa st0 tr,0,[],none⟩
def jcy (L:List Oper) (t:Nat) (v:V):List Rec→List Rec
 |[]=>[]
 |r::tr=>match jbr L tr.length with
  |some d=>if d=t then { r with v:=v } :: tr else r::jcy L t v tr
  |none=>r::jcy L t v tr
def jdV [Globs] (P:Program) (sp:jab) (N:Nat) (L:List Oper) (tab:List (List Nat)) (st0:St):List Oper→List Rec→(List Rec→Prop)→Prop
 |[],tr,k=>k tr
 |o::rest,tr,k =>
  match o.guard with
  |none=>dop P sp N L tab st0 o tr fun r=>jdV P sp N L tab st0 rest (r::tr) k
  |some (g,want) =>
   match jbr L g with
   |none=>False
   |some t =>
    match jbH L (tab.getD tr.length []) st0 t tr with
    |some (.w (.c (.d (.b b)))) =>
     Br b
      (match want with
       |true=>dop P sp N L tab st0 o (jcy L t (vb true) tr) fun r=>jdV P sp N L tab st0 rest (r::jcy L t (vb true) tr) k
       |false=>jgS N st0 o (jcy L t (vb true) tr) fun r=>jdV P sp N L tab st0 rest (r::jcy L t (vb true) tr) k)
      (match want with
       |true=>jgS N st0 o (jcy L t (vb false) tr) fun r=>jdV P sp N L tab st0 rest (r::jcy L t (vb false) tr) k
       |false=>dop P sp N L tab st0 o (jcy L t (vb false) tr) fun r=>jdV P sp N L tab st0 rest (r::jcy L t (vb false) tr) k)
    |some (.w (.c (.d (.v (.tuple _)))))=>jgS N st0 o tr fun r=>jdV P sp N L tab st0 rest (r::tr) k
    |_=>False
def jdc (L:List Oper) (st0:St):List Rec→List (Nat × V)
 |[]=>st0.tm
 |r::tr=>match jbr L tr.length with
  |some d=>(d,r.v)::jdc L st0 tr
  |none=>jdc L st0 tr
def jsC (L:List Oper) (st0:St) (tr:List Rec):St:=⟨jdc L st0 tr,jah st0 tr,jaa st0 tr⟩
def jcU:Nat→List Oper→Bool
 |_,[]=>true
 |i,o::r=>(o.after.toList.all fun e=>!(Region.binds .any e)||Nat.blt e.on i)&&jcU (i+1) r
def jhX [Globs] (P:Program) (sp:jab) (N:Nat) (ops:Array Oper) (st:St) (k:St→Prop):Prop :=
 match jbP ops.toList (je8 ops.toList []) 0 ops.toList&&jcU 0 ops.toList with
 |true=>jdV P sp N ops.toList (je8 ops.toList []) st ops.toList [] fun tr=>k (jsC ops.toList st tr)
 |false=>False
end Go.Sx
end

section
open Go.RowKit
namespace Go.Sx
section
variable [Globs] {P:Program} {sp:jab} {B:Kd} {N n0:Nat} {L:List Oper} {tab:List (List Nat)} {st0:St} {ρ0:Env} {w0:World}
def jaW (L:List Oper) (tab:List (List Nat)) (st0:St) (o:Oper) (tr:List Rec) (b:Bool):Prop :=
 match o.guard with
 |none=>b=true
 |some (g,want)=>∃t v,jbr L g=some t∧jbH L (tab.getD tr.length []) st0 t tr=some v∧((∃c,v=vb c∧(c==want)=b)∨((∃l,v=.w (.c (.d (.v (.tuple l)))))∧b=false))
inductive Kind [Globs] (P:Program) (sp:jab) (L:List Oper) (tab:List (List Nat)) (st0:St) (o:Oper) (tr:List Rec) (r:Rec):Prop where
 |skip (g:jaW L tab st0 o tr false) (h:r=⟨vu,jah st0 tr,jaa st0 tr,0,[],none⟩)
 |pure (g:jaW L tab st0 o tr true) (ob:Prop) (hs:jaR P o.op (jaU L (jak L o) (tab.getD tr.length []) st0 tr) []=some (ob,r.v)) (ho:ob) (hk:jaN (tab.getD tr.length []) st0 tr r.v [] (jaa st0 tr)=true) (h:r=⟨r.v,jah st0 tr,jaa st0 tr,0,[],none⟩)
 |built (g:jaW L tab st0 o tr true) (hb:jhW o.op=true) (ob:Prop) (hs:jaR P o.op (jaU L (jak L o) (tab.getD tr.length []) st0 tr) (jem (tab.getD tr.length []) st0 tr)=some (ob,r.v)) (ho:ob) (hk:jaN (tab.getD tr.length []) st0 tr r.v [] (jaa st0 tr)=true) (h:r=⟨r.v,jah st0 tr,jaa st0 tr,0,[],none⟩)
 |load (g:jaW L tab st0 o tr true) (hp:jap o.op=false) (hl:jav o.op=true) (x:Nat) (xo:O) (hx:loadAt o.op (jaU L (jak L o) (tab.getD tr.length []) st0 tr)=some x) (hf:find (jah st0 tr) x=some xo)
   (hb:jal (fun j=>(tab.getD tr.length []).contains j) st0 tr x=true) (hst:jbd st0 (tab.getD tr.length []) x tr=true) (ob:Prop)
   (hs:jaR P o.op (jaU L (jak L o) (tab.getD tr.length []) st0 tr) [(x,xo)]=some (ob,r.v)) (ho:ob) (hk:jaN (tab.getD tr.length []) st0 tr r.v [] (jaa st0 tr)=true) (h:r=⟨r.v,jah st0 tr,jaa st0 tr,0,[],none⟩)
 |mono (g:jaW L tab st0 o tr true) (hp:jap o.op=false) (hl:jav o.op=false) (hm:jaj sp o.op (jaU L (jak L o) (tab.getD tr.length []) st0 tr)=true) (res:Res)
   (hs:ja5 P sp o.op (jaU L (jak L o) (tab.getD tr.length []) st0 tr) (jcL (tab.getD tr.length []) st0 tr) (jaa st0 tr)=some res) (ho:res.ob)
   (hk:jaN (tab.getD tr.length []) st0 tr res.v (jaH (jaa st0 tr) res.hp) res.nx=true) (hn:jkz (tab.getD tr.length []) tr (jaH (jaa st0 tr) res.hp)=true)
   (h:r=⟨res.v,jaH (jaa st0 tr) res.hp++jah st0 tr,res.nx,1,jaH (jaa st0 tr) res.hp,none⟩)
 |mload (g:jaW L tab st0 o tr true) (hp:jap o.op=false) (hl:jav o.op=true) (hmk:jd6 tab tr.length 0 L=true) (hal:jcx (tab.getD tr.length []) tr=true) (hm:jaj sp o.op (jaU L (jak L o) (tab.getD tr.length []) st0 tr)=true) (res:Res)
   (hs:ja5 P sp o.op (jaU L (jak L o) (tab.getD tr.length []) st0 tr) (jcL (tab.getD tr.length []) st0 tr) (jaa st0 tr)=some res) (ho:res.ob)
   (hk:jaN (tab.getD tr.length []) st0 tr res.v (jaH (jaa st0 tr) res.hp) res.nx=true)
   (h:r=⟨res.v,jaH (jaa st0 tr) res.hp++jah st0 tr,res.nx,1,jaH (jaa st0 tr) res.hp,none⟩)
 |effect (g:jaW L tab st0 o tr true) (hp:jap o.op=false) (hl:jav o.op=false) (hmo:jaj sp o.op (jaU L (jak L o) (tab.getD tr.length []) st0 tr)=false) (mk:Bool) (hf:jaT tab tr.length ((jbi L tab st0 o tr).isSome) mk 0 L=true) (res:Res)
   (hs:ja5 P sp o.op (jaU L (jak L o) (tab.getD tr.length []) st0 tr) (jah st0 tr) (jaa st0 tr)=some res) (ho:res.ob)
   (hk:jaN (tab.getD tr.length []) st0 tr res.v res.hp res.nx=true) (hm:jls L tab st0 o tr mk res.hp=true) (h:r=⟨res.v,res.hp,res.nx,2,[],jbi L tab st0 o tr⟩)
structure RecOK [Globs] (P:Program) (sp:jab) (N:Nat) (L:List Oper) (tab:List (List Nat)) (st0:St) (tr:List Rec) (r:Rec) (o:Oper):Prop where
 op:L[tr.length]?=some o
 dst:jbK N o.dst=true
 kind:Kind P sp L tab st0 o tr r
inductive GoodTr [Globs] (P:Program) (sp:jab) (N:Nat) (L:List Oper) (tab:List (List Nat)) (st0:St):List Rec→Prop where
 |nil:GoodTr P sp N L tab st0 []
 |cons {tr:List Rec} {r:Rec} (h:GoodTr P sp N L tab st0 tr) (o:Oper) (hr:RecOK P sp N L tab st0 tr r o):GoodTr P sp N L tab st0 (r::tr)
theorem jdW {t:Bool} {ob k:Prop} (h:obT t ob k) (ht:t=true→ob):ob∧k:=by
 cases t
 ·exact⟨h.1.h,h.2⟩
 ·exact⟨ht rfl,h⟩
theorem jjC {op:Op} {rd:Operand→Option V} {hp:Hp} {ob:Prop} {v:V} (ht:jaV op rd hp=true) (h:jaR P op rd hp=some (ob,v)):ob :=
 jgh (sp:=fun _=>none) (nx:=0) (r:=⟨ob,v,hp,0⟩) (P:=P) ht (by unfold ja5; rw[h])
theorem jeI {bef:List Nat} {t:Nat} {v:V}:∀{tr:List Rec},jbH L bef st0 t tr=some v→jcy L t v tr=tr
 |[],_=>rfl
 |r::tr,h=>by
  simp only[jbH]at h
  simp only[jcy]
  cases hd:jbr L tr.length with
  |none =>
   simp only[hd]at h
   rw[jeI h]
  |some d =>
   simp only[hd]at h ⊢
   split at h
   ·rename_i e
    rw[if_pos e]
    split at h
    ·cases h; rfl
    ·cases h
   ·rename_i e
    rw[if_neg e,jeI h]
theorem jqB {o:Oper} {tr:List Rec} {mk:Bool} (h:jlr L tab st0 o tr=some mk):jaT tab tr.length ((jbi L tab st0 o tr).isSome) mk 0 L=true:=by
 unfold jlr at h
 split at h
 ·rename_i hf; cases h; exact hf
 ·split at h
  ·rename_i hf; cases h; simp only[Bool.and_eq_true]at hf; exact hf.2
  ·cases h
theorem jjD {o:Oper} {tr:List Rec} {k:Rec→Prop} (h:dop P sp N L tab st0 o tr k) (hg:jaW L tab st0 o tr true) (hL:L[tr.length]?=some o):∃r,k r∧RecOK P sp N L tab st0 tr r o:=by
 unfold dop at h
 split at h
 ·exact h.elim
 ·rename_i hd
  split at h
  ·rename_i ob v hs
   split at h
   ·rename_i hok
    obtain⟨ho,hk⟩:=jdW h (fun ht=>jjC ht hs)
    exact⟨_,hk,hL,hd,.pure hg ob hs ho hok rfl⟩
   ·exact h.elim
  ·split at h
   ·split at h
    ·rename_i hbo
     split at h
     ·rename_i ob v hs
      split at h
      ·rename_i hok
       obtain⟨ho,hk⟩:=jdW h (fun ht=>jjC ht hs)
       exact⟨_,hk,hL,hd,.built hg hbo ob hs ho hok rfl⟩
      ·exact h.elim
     ·exact h.elim
    ·exact h.elim
   ·rename_i hsp
    split at h
    ·rename_i hl
     split at h
     ·exact h.elim
     ·rename_i x hx
      split at h
      ·exact h.elim
      ·rename_i xo hf
       split at h
       ·exact h.elim
       ·rename_i hbs
        split at h
        ·split at h
         ·exact h.elim
         ·rename_i hmk
          split at h
          ·rename_i res hs
           split at h
           ·rename_i hok
            obtain⟨ho,hk⟩:=jdW h (fun ht=>jgh ht hs)
            simp only[Bool.and_eq_true]at hmk
            exact⟨_,hk,hL,hd,.mload hg hsp hl hmk.1.1 hmk.1.2 hmk.2 res hs ho hok rfl⟩
           ·exact h.elim
          ·exact h.elim
        ·rename_i ob v hs
         split at h
         ·rename_i hok
          obtain⟨ho,hk⟩:=jdW h (fun ht=>jjC ht hs)
          simp only[Bool.and_eq_true]at hbs
          exact⟨_,hk,hL,hd,.load hg hsp hl x xo hx hf hbs.1 hbs.2 ob hs ho hok rfl⟩
         ·exact h.elim
    ·rename_i hl
     split at h
     ·rename_i hm
      split at h
      ·rename_i res hs
       split at h
       ·rename_i hok
        obtain⟨ho,hk⟩:=jdW h (fun ht=>jgh ht hs)
        simp only[Bool.and_eq_true]at hok
        exact⟨_,hk,hL,hd,.mono hg hsp hl hm res hs ho hok.1 hok.2 rfl⟩
       ·exact h.elim
      ·exact h.elim
     ·rename_i hmo
      split at h
      ·exact h.elim
      ·rename_i mk hf
       split at h
       ·rename_i res hs
        split at h
        ·rename_i hok
         obtain⟨ho,hk⟩:=jdW h (fun ht=>jgh ht hs)
         simp only[Bool.and_eq_true]at hok
         exact⟨_,hk,hL,hd,.effect hg hsp hl hmo mk (jqB hf) res hs ho hok.1 hok.2 rfl⟩
        ·exact h.elim
       ·exact h.elim
theorem jgT {o:Oper} {tr:List Rec} {k:Rec→Prop} (h:jgS N st0 o tr k) (hg:jaW L tab st0 o tr false) (hL:L[tr.length]?=some o):∃r,k r∧RecOK P sp N L tab st0 tr r o:=by
 unfold jgS at h
 split at h
 ·exact h.elim
 ·rename_i hd
  exact⟨_,h,hL,hd,.skip hg rfl⟩
theorem jlP:∀(rest:List Oper) (tr:List Rec) (k:List Rec→Prop),jdV P sp N L tab st0 rest tr k→GoodTr P sp N L tab st0 tr→L=L.take tr.length++rest→tr.length+rest.length=L.length →
  ∃T,k T∧GoodTr P sp N L tab st0 T∧T.length=L.length
 |[],tr,k,h,hg,_,hlen=>⟨tr,h,hg,by simpa using hlen⟩
 |o::rest,tr,k,h,hg,hL,hlen=>by
  have hlt:tr.length<L.length:=by simp at hlen; omega
  have ho:L[tr.length]?=some o:=by
   rw[hL,List.getElem?_append_right (by simp; omega)]
   simp[Nat.min_eq_left (Nat.le_of_lt hlt)]
  have next:∀r,jdV P sp N L tab st0 rest (r::tr) k→RecOK P sp N L tab st0 tr r o→∃T,k T∧GoodTr P sp N L tab st0 T∧T.length=L.length:=by
   intro r hr hok
   refine jlP rest (r::tr) k hr (.cons hg o hok) ?_ (by simp at hlen ⊢; omega)
   have h1:L.take (tr.length+1)=L.take tr.length++[o]:=by
    rw[List.take_succ_eq_append_getElem hlt]
    congr 2
    have:=List.getElem?_eq_getElem hlt
    rw[this]at ho
    exact Option.some.inj ho
   simp only[List.length_cons,h1,List.append_assoc,List.singleton_append]
   exact hL
  unfold jdV at h
  split at h
  ·rename_i hgd
   obtain⟨r,hk,hok⟩:=jjD h (by unfold jaW; rw[hgd]) ho
   exact next r hk hok
  ·rename_i g want hgd
   split at h
   ·exact h.elim
   ·rename_i t hdt
    split at h
    ·rename_i b hsl
     have hset:∀c,b=c→jcy L t (vb c) tr=tr:=fun c e=>jeI (by rw[hsl,e]; rfl)
     have says:∀c d,b=c→(c==want)=d→jaW L tab st0 o tr d:=fun c d e e2=>by
      unfold jaW
      rw[hgd]
      exact⟨t,_,hdt,hsl,.inl ⟨b,rfl,by rw[e]; exact e2⟩⟩
     cases b<;>cases want<;>simp only[Br,hset _ rfl]at h
     ·obtain⟨r,hk,hok⟩:=jjD h (says false true rfl rfl) ho
      exact next r hk hok
     ·obtain⟨r,hk,hok⟩:=jgT (P:=P) (sp:=sp) h (says false false rfl rfl) ho
      exact next r hk hok
     ·obtain⟨r,hk,hok⟩:=jgT (P:=P) (sp:=sp) h (says true false rfl rfl) ho
      exact next r hk hok
     ·obtain⟨r,hk,hok⟩:=jjD h (says true true rfl rfl) ho
      exact next r hk hok
    ·rename_i l hsl
     obtain⟨r,hk,hok⟩:=jgT (P:=P) (sp:=sp) h (by unfold jaW; rw[hgd]; exact⟨t,_,hdt,hsl,.inr ⟨⟨l,rfl⟩,rfl⟩⟩) ho
     exact next r hk hok
    ·exact h.elim
def jbe (L:List Oper) (D:Nat→Bool) (st0:St) (t:Nat):List Rec→Option V
 |[]=>jay st0.tm t
 |r::tr=>if jbr L tr.length=some t∧D tr.length=true then some r.v else jbe L D st0 t tr
def jai (D:Nat→Bool) (st0:St):List Rec→Hp
 |[]=>st0.hp
 |r::tr=>if D tr.length=true then(if r.kd=2 then r.hp else r.nw++jai D st0 tr)else jai D st0 tr
theorem jam {a b:Hp} {h:Nat}:find (a++b) h=(find a h).or (find b h):=by
 induction a with
 |nil=>rfl
 |cons p r ih =>
  obtain⟨k,o⟩:=p
  simp only[List.cons_append,find]
  split
  ·rfl
  ·exact ih
theorem jd7 {hp:Hp} {p:Nat→Bool} {h:Nat}:find (hp.filter fun x=>p x.1) h=if p h=true then find hp h else none:=by
 induction hp with
 |nil=>simp[find]
 |cons x r ih =>
  obtain⟨k,o⟩:=x
  simp only[List.filter_cons,find]
  by_cases hk:p k=true
  ·rw[if_pos hk]
   simp only[find]
   by_cases e:k=h
   ·subst e; simp[hk]
   ·rw[if_neg e,if_neg e]; exact ih
  ·rw[if_neg hk]
   by_cases e:k=h
   ·subst e; rw[ih]; simp[hk]
   ·rw[if_neg e]; exact ih
end
end Go.Sx
end

section
open Go.RowKit
namespace Go.Sx
theorem C.val_eqB {p:Nat→Bool} {ρ ρ':Env} (hρ:∀h,p h=true→ρ' h=ρ h):∀{x:C},x.allB p=true→x.val ρ'=x.val ρ
 | .d _,_=>rfl
 | .p h _ _ _,hx=>by have hx:p h=true:=hx; simp only[C.val,hρ h hx]
 | .o h,hx=>hρ h hx
 | .fn _ hs,hx=>by
  simp only[C.val]
  congr 2
  exact List.map_congr_left fun a ha=>hρ a (List.all_eq_true.1 hx a ha)
 | .g _ _ _ _,_=>rfl
 | .fb _ hs,hx=>by
  simp only[C.val]
  congr 2
  exact List.map_congr_left fun a ha=>hρ a (List.all_eq_true.1 hx a ha)
theorem W.val_eqB {p:Nat→Bool} {ρ ρ':Env} (hρ:∀h,p h=true→ρ' h=ρ h):∀{x:W},x.allB p=true→x.val ρ'=x.val ρ
 | .c _,hx=>C.val_eqB hρ hx
 | .a l,hx=>by
  simp only[W.val]
  congr 2
  exact List.map_congr_left fun a ha=>C.val_eqB hρ (List.all_eq_true.1 hx a ha)
 | .b _ _ _,_=>rfl
theorem V.val_eqB {p:Nat→Bool} {ρ ρ':Env} (hρ:∀h,p h=true→ρ' h=ρ h):∀{x:V},x.allB p=true→x.val ρ'=x.val ρ
 | .w _,hx=>W.val_eqB hρ hx
 | .t l,hx=>by
  simp only[V.val]
  congr 2
  exact List.map_congr_left fun a ha=>W.val_eqB hρ (List.all_eq_true.1 hx a ha)
theorem C.allB_mono {p q:Nat→Bool} (h:∀x,p x=true→q x=true):∀{x:C},x.allB p=true→x.allB q=true
 | .d _,_=>rfl
 | .p _ _ _ _,hx=>h _ hx
 | .o _,hx=>h _ hx
 | .fn _ _,hx=>List.all_eq_true.2 fun a ha=>h a (List.all_eq_true.1 hx a ha)
 | .fb _ _,hx=>List.all_eq_true.2 fun a ha=>h a (List.all_eq_true.1 hx a ha)
 | .g _ _ _ _,_=>rfl
theorem W.allB_mono {p q:Nat→Bool} (h:∀x,p x=true→q x=true):∀{x:W},x.allB p=true→x.allB q=true
 | .c _,hx=>C.allB_mono h hx
 | .a _,hx=>List.all_eq_true.2 fun a ha=>C.allB_mono h (List.all_eq_true.1 hx a ha)
 | .b _ _ _,_=>rfl
theorem V.allB_mono {p q:Nat→Bool} (h:∀x,p x=true→q x=true):∀{x:V},x.allB p=true→x.allB q=true
 | .w _,hx=>W.allB_mono h hx
 | .t _,hx=>List.all_eq_true.2 fun a ha=>W.allB_mono h (List.all_eq_true.1 hx a ha)
theorem O.allB_mono {p q:Nat→Bool} (h:∀x,p x=true→q x=true):∀{x:O},x.allB p=true→x.allB q=true
 | .box _ _,hx=>List.all_eq_true.2 fun a ha=>C.allB_mono h (List.all_eq_true.1 hx a ha)
 | .view _ _ _,hx=>h _ hx
 | .sub _ _ _ _ _ _,hx=>h _ hx
 | .row _ _,_=>rfl
 | .ext _,_=>rfl
 | .dead,_=>rfl
 | .nan _,_=>rfl
 | .err,_=>rfl
 | .atom,_=>rfl
 | .ebox _,hx=>List.all_eq_true.2 fun a ha=>C.allB_mono h (List.all_eq_true.1 hx a ha)
 | .arr _ _ _ _,_=>rfl
 | .xext _,_=>rfl
 | .map _,_=>rfl
 | .rrow _,_=>rfl
 | .fext _,_=>rfl
 | .xrow _ _,_=>rfl
 | .lbox _ _ _ _,hx=>List.all_eq_true.2 fun a ha=>C.allB_mono h (List.all_eq_true.1 hx a ha)
 | .elist _ _ _,hx=>List.all_eq_true.2 fun a ha=>C.allB_mono h (List.all_eq_true.1 hx a ha)
 | .lview _ _ _ _,hx=>by
  simp only[O.allB,Bool.and_eq_true]at hx ⊢
  exact⟨h _ hx.1,List.all_eq_true.2 fun a ha=>C.allB_mono h (List.all_eq_true.1 hx.2 a ha)⟩
 | .mrow _ _ _ _,_=>rfl
theorem C.lt_of_allB {n:Nat} {p:Nat→Bool} (h:∀x,p x=true→x<n):∀{x:C},x.allB p=true→x.lt n
 | .d _,_=>trivial
 | .p _ _ _ _,hx=>h _ hx
 | .o _,hx=>h _ hx
 | .fn _ _,hx=>fun a ha=>h a (List.all_eq_true.1 hx a ha)
 | .fb _ _,hx=>fun a ha=>h a (List.all_eq_true.1 hx a ha)
 | .g _ _ _ _,_=>trivial
theorem W.lt_of_allB {n:Nat} {p:Nat→Bool} (h:∀x,p x=true→x<n):∀{x:W},x.allB p=true→x.lt n
 | .c _,hx=>C.lt_of_allB h hx
 | .a _,hx=>fun a ha=>C.lt_of_allB h (List.all_eq_true.1 hx a ha)
 | .b _ _ _,_=>trivial
theorem V.lt_of_allB {n:Nat} {p:Nat→Bool} (h:∀x,p x=true→x<n):∀{x:V},x.allB p=true→x.lt n
 | .w _,hx=>W.lt_of_allB h hx
 | .t _,hx=>fun a ha=>W.lt_of_allB h (List.all_eq_true.1 hx a ha)
theorem O.lt_of_allB {n:Nat} {p:Nat→Bool} (h:∀x,p x=true→x<n):∀{x:O},x.allB p=true→x.lt n
 | .box _ _,hx=>fun a ha=>C.lt_of_allB h (List.all_eq_true.1 hx a ha)
 | .view _ _ _,hx=>h _ hx
 | .sub _ _ _ _ _ _,hx=>h _ hx
 | .row _ _,_=>trivial
 | .ext _,_=>trivial
 | .dead,_=>trivial
 | .nan _,_=>trivial
 | .err,_=>trivial
 | .atom,_=>trivial
 | .ebox _,hx=>fun a ha=>C.lt_of_allB h (List.all_eq_true.1 hx a ha)
 | .arr _ _ _ _,_=>trivial
 | .xext _,_=>trivial
 | .map _,_=>trivial
 | .rrow _,_=>trivial
 | .fext _,_=>trivial
 | .xrow _ _,_=>trivial
 | .lbox _ _ _ _,hx=>fun a ha=>C.lt_of_allB h (List.all_eq_true.1 hx a ha)
 | .elist _ _ _,hx=>fun a ha=>C.lt_of_allB h (List.all_eq_true.1 hx a ha)
 | .lview _ _ _ _,hx=>by
  simp only[O.allB,Bool.and_eq_true]at hx
  exact⟨h _ hx.1,fun a ha=>C.lt_of_allB h (List.all_eq_true.1 hx.2 a ha)⟩
 | .mrow _ _ _ _,_=>trivial
theorem C.allB_of_lt {n:Nat} {p:Nat→Bool} (h:∀x,x<n→p x=true):∀{x:C},x.lt n→x.allB p=true
 | .d _,_=>rfl
 | .p _ _ _ _,hx=>h _ hx
 | .o _,hx=>h _ hx
 | .fn _ _,hx=>List.all_eq_true.2 fun a ha=>h a (hx a ha)
 | .fb _ _,hx=>List.all_eq_true.2 fun a ha=>h a (hx a ha)
 | .g _ _ _ _,_=>rfl
theorem W.allB_of_lt {n:Nat} {p:Nat→Bool} (h:∀x,x<n→p x=true):∀{x:W},x.lt n→x.allB p=true
 | .c _,hx=>C.allB_of_lt h hx
 | .a _,hx=>List.all_eq_true.2 fun a ha=>C.allB_of_lt h (hx a ha)
 | .b _ _ _,_=>rfl
theorem V.allB_of_lt {n:Nat} {p:Nat→Bool} (h:∀x,x<n→p x=true):∀{x:V},x.lt n→x.allB p=true
 | .w _,hx=>W.allB_of_lt h hx
 | .t _,hx=>List.all_eq_true.2 fun a ha=>W.allB_of_lt h (hx a ha)
theorem O.allB_of_lt {n:Nat} {p:Nat→Bool} (h:∀x,x<n→p x=true):∀{x:O},x.lt n→x.allB p=true
 | .box _ _,hx=>List.all_eq_true.2 fun a ha=>C.allB_of_lt h (hx a ha)
 | .view _ _ _,hx=>h _ hx
 | .sub _ _ _ _ _ _,hx=>h _ hx
 | .row _ _,_=>rfl
 | .ext _,_=>rfl
 | .dead,_=>rfl
 | .nan _,_=>rfl
 | .err,_=>rfl
 | .atom,_=>rfl
 | .ebox _,hx=>List.all_eq_true.2 fun a ha=>C.allB_of_lt h (hx a ha)
 | .arr _ _ _ _,_=>rfl
 | .xext _,_=>rfl
 | .map _,_=>rfl
 | .rrow _,_=>rfl
 | .fext _,_=>rfl
 | .xrow _ _,_=>rfl
 | .lbox _ _ _ _,hx=>List.all_eq_true.2 fun a ha=>C.allB_of_lt h (hx a ha)
 | .elist _ _ _,hx=>List.all_eq_true.2 fun a ha=>C.allB_of_lt h (hx a ha)
 | .lview _ _ _ _,hx=>by
  simp only[O.allB,Bool.and_eq_true]
  exact⟨h _ hx.1,List.all_eq_true.2 fun a ha=>C.allB_of_lt h (hx.2 a ha)⟩
 | .mrow _ _ _ _,_=>rfl
section
variable [Globs] {P:Program} {sp:jab} {B0 B:Kd} {N n0:Nat} {L:List Oper} {tab:List (List Nat)} {st0:St} {ρ0:Env} {w0:World} {ds:List Deferred}
theorem RecOK.nx_le {tr:List Rec} {r:Rec} {o:Oper} (h:RecOK P sp N L tab st0 tr r o):jaa st0 tr≤r.nx:=by
 cases h.kind with
 |skip g e=>rw[e]; exact Nat.le_refl _
 |pure g ob hs ho hk e=>rw[e]; exact Nat.le_refl _
 |built g hb ob hs ho hk e=>rw[e]; exact Nat.le_refl _
 |load g hp hl x xo hx hf hb hst ob hs ho hk e=>rw[e]; exact Nat.le_refl _
 |mono g hp hl hm res hs ho hk hnk e =>
  simp only[jaN,Bool.and_eq_true,Nat.ble_eq]at hk
  rw[e]; exact hk.1.1
 |mload g hp hl hmk hal hm res hs ho hk e =>
  simp only[jaN,Bool.and_eq_true,Nat.ble_eq]at hk
  rw[e]; exact hk.1.1
 |effect g hp hl hmo mk hf res hs ho hk hmk e =>
  simp only[jaN,Bool.and_eq_true,Nat.ble_eq]at hk
  rw[e]; exact hk.1.1
theorem GoodTr.tail {later tr:List Rec} (h:GoodTr P sp N L tab st0 (later++tr)):GoodTr P sp N L tab st0 tr:=by
 induction later with
 |nil=>exact h
 |cons r l ih=>cases h with|cons h' o hr=>exact ih h'
theorem jcM {later tr:List Rec} (h:GoodTr P sp N L tab st0 (later++tr)):jaa st0 tr≤jaa st0 (later++tr):=by
 induction later with
 |nil=>exact Nat.le_refl _
 |cons r l ih=>cases h with|cons h' o hr=>exact Nat.le_trans (ih h') hr.nx_le
theorem jiG {tr:List Rec} (h:GoodTr P sp N L tab st0 tr):st0.nx≤jaa st0 tr:=by
 have:=jcM (later:=tr) (tr:=[]) (by rw[List.append_nil]; exact h)
 rw[List.append_nil]at this
 exact this
theorem js2 {T:List Rec} (h:GoodTr P sp N L tab st0 T) {i:Nat} (hi:i<T.length):∃later r tr o,T=later++r::tr∧tr.length=i∧RecOK P sp N L tab st0 tr r o:=by
 induction h with
 |nil=>simp at hi
 | @cons tr r h o hr ih =>
  by_cases he:i=tr.length
  ·exact⟨[],r,tr,o,rfl,he.symm,hr⟩
  ·obtain⟨later,r',tr',o',h1,h2,h3⟩:=ih (by simp at hi; omega)
   exact⟨r::later,r',tr',o',by simp[h1],h2,h3⟩
theorem jgU {q:Nat→Bool} {later tr:List Rec} {h:Nat} (hg:GoodTr P sp N L tab st0 (later++tr)) (hh:h<jaa st0 tr):jal q st0 (later++tr) h=jal q st0 tr h:=by
 induction later with
 |nil=>rfl
 |cons r l ih =>
  cases hg with
  |cons h' o hr =>
   have h1:=jcM h'
   simp only[List.cons_append,jal]
   have:Nat.ble (jaa st0 (l++tr)) h=false:=by
    rw[Bool.eq_false_iff]
    intro hc
    rw[Nat.ble_eq]at hc
    omega
   rw[this]
   exact ih h'
theorem joX {q:Nat→Bool} {later tr:List Rec} {r:Rec} {h:Nat} (hg:GoodTr P sp N L tab st0 (later++r::tr)) (h1:jaa st0 tr≤h) (h2:h<r.nx):jal q st0 (later++r::tr) h=q tr.length:=by
 rw[jgU hg (show h<jaa st0 (r::tr)from h2)]
 simp only[jal]
 have:Nat.ble (jaa st0 tr) h=true:=by rw[Nat.ble_eq]; exact h1
 rw[this]
theorem jhp {later tr:List Rec} {h:Nat} (hg:GoodTr P sp N L tab st0 (later++tr)) (hh:h<jaa st0 tr):jbv st0 (later++tr) h=jbv st0 tr h:=by
 induction later with
 |nil=>rfl
 |cons r l ih =>
  cases hg with
  |cons h' o hr =>
   have h1:=jcM h'
   simp only[List.cons_append,jbv]
   have:Nat.ble (jaa st0 (l++tr)) h=false:=by
    rw[Bool.eq_false_iff]
    intro hc
    rw[Nat.ble_eq]at hc
    omega
   rw[this]
   exact ih h'
theorem jpu {later tr:List Rec} {r:Rec} {h:Nat} (hg:GoodTr P sp N L tab st0 (later++r::tr)) (h1:jaa st0 tr≤h) (h2:h<r.nx):jbv st0 (later++r::tr) h=C.one r.hp (.o h):=by
 rw[jhp hg (show h<jaa st0 (r::tr)from h2)]
 simp only[jbv]
 have:Nat.ble (jaa st0 tr) h=true:=by rw[Nat.ble_eq]; exact h1
 rw[this]
theorem jhY {h:Nat} (hh:h<st0.nx):∀{tr:List Rec},GoodTr P sp N L tab st0 tr→jbv st0 tr h=C.one st0.hp (.o h)
 |[],_=>rfl
 |r::tr,hg=>by
  cases hg with
  |cons h' o hr =>
   have:=jiG h'
   simp only[jbv]
   have e:Nat.ble (jaa st0 tr) h=false:=by
    rw[Bool.eq_false_iff]
    intro hc
    rw[Nat.ble_eq]at hc
    omega
   rw[e]
   exact jhY hh h'
theorem jkA {q q':Nat→Bool} {x:Nat}:∀{tr:List Rec},(∀j,j<tr.length→q' j=q j)→jal q' st0 tr x=jal q st0 tr x
 |[],_=>rfl
 |r::tr,hq=>by
  simp only[jal]
  split
  ·exact hq _ (by simp)
  ·exact jkA fun j hj=>hq j (by simp; omega)
theorem jrM {q q':Nat→Bool} {later tr:List Rec} {r:Rec} {x:Nat} (hq:∀j,j≠tr.length→q' j=q j) (hx:¬(jaa st0 tr≤x∧x<r.nx)) (hg:GoodTr P sp N L tab st0 (later++r::tr)) (hlt:x<jaa st0 (later++r::tr)) :
  jal q' st0 (later++r::tr) x=jal q st0 (later++r::tr) x:=by
 induction later with
 |nil =>
  have hlt:x<r.nx:=hlt
  have h1:¬jaa st0 tr≤x:=fun h=>hx ⟨h,hlt⟩
  have e:Nat.ble (jaa st0 tr) x=false:=by
   rw[Bool.eq_false_iff]; intro hc; rw[Nat.ble_eq]at hc; exact h1 hc
  simp only[List.nil_append,jal,e]
  exact jkA fun j hj=>hq j (by omega)
 |cons r' l ih =>
  cases hg with
  |cons h' o hr =>
   simp only[List.cons_append,jal]
   split
   ·exact hq _ (by simp; omega)
   ·rename_i hb
    refine ih h' ?_
    have:¬jaa st0 (l++r::tr)≤x:=fun hc=>by rw[Nat.ble_eq_true_of_le hc]at hb; cases hb
    omega
theorem jen {q q':Nat→Bool} (hq:∀j,q j=true→q' j=true):∀(tr:List Rec) (h:Nat),jal q st0 tr h=true→jal q' st0 tr h=true
 |[],_,_=>rfl
 |r::tr,h,hb=>by
  simp only[jal]at hb ⊢
  split at hb
  ·exact hq _ hb
  ·exact jen hq tr h hb
theorem jlQ {q:Nat→Bool} {h:Nat} (hh:h<st0.nx):∀{tr:List Rec},GoodTr P sp N L tab st0 tr→jal q st0 tr h=true
 |[],_=>rfl
 |r::tr,hg=>by
  cases hg with
  |cons h' o hr =>
   have:=jiG h'
   simp only[jal]
   have e:Nat.ble (jaa st0 tr) h=false:=by
    rw[Bool.eq_false_iff]
    intro hc
    rw[Nat.ble_eq]at hc
    omega
   rw[e]
   exact jlQ hh h'
theorem jfa {bef:List Nat} {D:Nat→Bool} {t:Nat} (hb:∀j,j∈bef→D j=true):∀{tr:List Rec} {v:V},jbH L bef st0 t tr=some v→jbe L D st0 t tr=some v
 |[],_,h=>h
 |r::tr,v,h=>by
  simp only[jbH]at h
  simp only[jbe]
  cases hd:jbr L tr.length with
  |none =>
   simp only[hd]at h
   rw[if_neg (by simp)]
   exact jfa hb h
  |some d =>
   simp only[hd]at h
   split at h
   ·rename_i e
    subst e
    split at h
    ·rename_i hc
     rw[if_pos ⟨rfl,hb _ (by simpa using hc)⟩]
     exact h
    ·cases h
   ·rename_i e
    rw[if_neg (by simp[e])]
    exact jfa hb h
theorem jfV {D:Nat→Bool} {t:Nat} {tr:List Rec}:∀{later:List Rec},(∀j,tr.length≤j→jbr L j=some t→D j=false)→jbe L D st0 t (later++tr)=jbe L D st0 t tr
 |[],_=>rfl
 |r::l,h=>by
  simp only[List.cons_append,jbe]
  rw[if_neg (fun⟨h1,h2⟩=>by rw[h _ (by simp) h1]at h2; cases h2)]
  exact jfV h
theorem jjd {D D':Nat→Bool} {t:Nat}:∀{tr:List Rec},(∀j,j<tr.length→D' j=D j)→jbe L D' st0 t tr=jbe L D st0 t tr
 |[],_=>rfl
 |r::tr,h=>by
  simp only[jbe]
  rw[h tr.length (by simp),jjd (fun j hj=>h j (by simp; omega))]
theorem jfW {D D':Nat→Bool}:∀{tr:List Rec},(∀j,j<tr.length→D' j=D j)→jai D' st0 tr=jai D st0 tr
 |[],_=>rfl
 |r::tr,h=>by
  simp only[jai]
  rw[h tr.length (by simp),jfW (fun j hj=>h j (by simp; omega))]
theorem jfG {j t:Nat}:∀{l:List Oper} {i:Nat},jeH L tab j t i l=true→∀m o,l[m]?=some o→i+m<j→t∈jak L o→(i+m)∈tab.getD j []
 |[],_,_,_,_,h,_,_=>by simp at h
 |o' :: r,i,hs,m,o,h,hlt,ht=>by
  simp only[jeH,Bool.and_eq_true]at hs
  cases m with
  |zero =>
   simp at h
   subst h
   have h1:=hs.1
   have hb:Nat.blt i j=true:=by rw[Nat.blt_eq]; omega
   have hc:(jak L o').contains t=true:=by simpa using ht
   rw[hb,hc]at h1
   simpa using h1
  |succ m =>
   have:=jfG hs.2 m o (by simpa using h) (by omega) ht
   rw[show i+(m+1)=i+1+m by omega]
   exact this
theorem jhZ:∀{l:List Oper} {j:Nat},jbP L tab j l=true→∀m o t,l[m]?=some o→o.dst=some t→∀i o',L[i]?=some o'→i<j+m→t∈jak L o'→i∈tab.getD (j+m) []
 |[],_,_,_,_,_,h,_,_,_,_,_,_=>by simp at h
 |o0::r,j,hs,m,o,t,h,hd,i,o',ho',hlt,ht=>by
  simp only[jbP,Bool.and_eq_true]at hs
  cases m with
  |zero =>
   simp at h
   subst h
   have h1:=hs.1
   rw[hd]at h1
   have:=jfG h1 i o' ho' (by simpa using hlt) ht
   simpa using this
  |succ m =>
   have:=jhZ hs.2 m o t (by simpa using h) hd i o' ho' (by omega) ht
   rw[show j+(m+1)=j+1+m by omega]
   exact this
theorem jh0 {D:Nat→Bool} {i t:Nat} {o:Oper} (hs:jbP L tab 0 L=true) (ht:jce L tab) (hc:jb7 L D) (hi:D i=false) (ho:L[i]?=some o) (hn:t∈jak L o) :
  ∀j,i<j→jbr L j=some t→D j=false:=by
 intro j hij hd
 rw[Bool.eq_false_iff]
 intro hD
 unfold jbr at hd
 cases hj:L[j]? with
 |none=>simp[hj]at hd
 |some oj =>
  simp only[hj,Option.bind_some]at hd
  have h1:=jhZ hs j oj t (by simpa using hj) hd i o ho (by omega) hn
  rw[Nat.zero_add]at h1
  have:=jcf ht hc j i (fun o' ho' e he hb=>hc j o' ho' hD e he hb) h1
  rw[this]at hi
  cases hi
theorem jlR {D:Nat→Bool} {later tr:List Rec} {r:Rec} {o:Oper} {t:Nat} {v:V} (hs:jbP L tab 0 L=true) (ht:jce L tab) (hc:jb7 L D) (hi:D tr.length=false) (ho:L[tr.length]?=some o) (hn:t∈jak L o)
  (hb:∀j,j∈tab.getD tr.length []→D j=true) (h:jbH L (tab.getD tr.length []) st0 t tr=some v):jbe L D st0 t (later++r::tr)=some v:=by
 rw[show later++r::tr=(later++[r])++tr by simp,jfV]
 ·exact jfa hb h
 ·intro j hj hd
  by_cases he:j=tr.length
  ·rw[he]; exact hi
  ·exact jh0 hs ht hc hi ho hn j (by omega) hd
def jaG (st0:St) (T:List Rec) (D:Nat→Bool) (h:Nat):Bool:=Nat.blt h (jaa st0 T)&&jal D st0 T h
structure Inv [Globs] (ds:List Deferred) (L:List Oper) (st0:St) (B0 B:Kd) (N n0:Nat) (ρ0:Env) (w0:World) (T:List Rec) (D:Nat→Bool) (a:Act) (w:World) (ρ:Env):Prop where
 tm:∀t v,jbe L D st0 t T=some v→v.allB (jaG st0 T D)=true∧a.tmps.getD t undef=v.val ρ
 size:a.tmps.size=N
 defers:a.defers=ds
 heap:HRel ρ B (jai D st0 T) (jaa st0 T) w
 hal:∀h o,find (jai D st0 T) h=some o→jaG st0 T D h=true∧o.allB (jaG st0 T D)=true
 le:Old B w
 agree:jac n0 ρ0 ρ
 below:Bel B0 w0 w
 one:∀h,jaG st0 T D h=true→jbv st0 T h=true→(ρ h).oneCell'=true
 gr:Grow B0 B false w w
 le0:Old B0 w
theorem jcN {D:Nat→Bool} {later tr:List Rec} {r:Rec} {o:Oper} {a:Act} {w:World} {ρ:Env} {b:Bool} (hs:jbP L tab 0 L=true) (ht:jce L tab) (hc:jb7 L D) (hi:D tr.length=false) (ho:L[tr.length]?=some o)
  (hb:∀j,j∈tab.getD tr.length []→D j=true) (hinv:Inv ds L st0 B0 B N n0 ρ0 w0 (later++r::tr) D a w ρ) (hg:jaW L tab st0 o tr b):Region.wanted o (yielded L.toArray a.tmps)=b:=by
 unfold jaW at hg
 unfold Region.wanted
 cases hgd:o.guard with
 |none=>rw[hgd]at hg; exact hg.symm
 |some p =>
  obtain⟨g,want⟩:=p
  rw[hgd]at hg
  obtain⟨t,v,hdt,hsl,hor⟩:=hg
  have hn:t∈jak L o:=by simp[jak,hgd,hdt]
  have hsd:=jlR (later:=later) (r:=r) hs ht hc hi ho hn hb hsl
  have h1:=(hinv.tm t v hsd).2
  have hy:yielded L.toArray a.tmps g=(match v.val ρ with | .bool b=>some b|_=>none):=by
   unfold yielded
   have hd2:((L.toArray[g]?).bind (·.dst))=some t:=by simpa [jbr]using hdt
   rw[hd2]
   simp only[Option.bind_some]
   rw[←h1]
   by_cases hlt:t<a.tmps.size
   ·simp only[Array.getD_eq_getD_getElem?,Array.getElem?_eq_getElem hlt,Option.getD_some]
    cases a.tmps[t]<;>rfl
   ·simp[hlt,undef]
  dsimp only
  rw[hy]
  rcases hor with ⟨c,rfl,hcw⟩|⟨⟨l,rfl⟩,rfl⟩
  ·simpa using hcw
  ·rfl
theorem jiH {D D':Nat→Bool} {later tr:List Rec} {r:Rec} {o:Oper} {a:Act} {w:World} {ρ ρ':Env} (hs:jbP L tab 0 L=true) (ht:jce L tab) (hc:jb7 L D) (hi:D tr.length=false) (ho:L[tr.length]?=some o)
  (hok:jbK N o.dst=true) (hD1:D' tr.length=true) (hD2:∀j,j≠tr.length→D' j=D j) (hinv:Inv ds L st0 B0 B N n0 ρ0 w0 (later++r::tr) D a w ρ)
  (hρ:∀h,jaG st0 (later++r::tr) D h=true→ρ' h=ρ h) (hv:r.v.allB (jaG st0 (later++r::tr) D')=true) :
  ∀t v,jbe L D' st0 t (later++r::tr)=some v→v.allB (jaG st0 (later++r::tr) D')=true∧(a.put o.dst (r.v.val ρ')).tmps.getD t undef=v.val ρ':=by
 intro t v hsl
 have hdl:∀x,o.dst=some x→x<a.tmps.size:=fun x hx=>by rw[hinv.size]; exact jm6 hok x hx
 rw[jlp hdl]
 have hdst:jbr L tr.length=o.dst:=by simp[jbr,ho]
 have hal:∀h,jaG st0 (later++r::tr) D h=true→jaG st0 (later++r::tr) D' h=true:=by
  intro h hh
  simp only[jaG,Bool.and_eq_true]at hh ⊢
  refine⟨hh.1,jen (fun j hj=>?_) _ _ hh.2⟩
  by_cases he:j=tr.length
  ·rw[he]; exact hD1
  ·rw[hD2 j he]; exact hj
 by_cases hdt:o.dst=some t
 ·rw[if_pos hdt]
  have hn:t∈jak L o:=by simp[jak,hdt]
  have hlat:jbe L D' st0 t (later++r::tr)=jbe L D' st0 t (r::tr):=by
   apply jfV
   intro j hj hd
   simp at hj
   rw[hD2 j (by omega)]
   exact jh0 hs ht hc hi ho hn j (by omega) hd
  rw[hlat]at hsl
  simp only[jbe]at hsl
  rw[if_pos ⟨by rw[hdst]; exact hdt,hD1⟩]at hsl
  cases hsl
  exact⟨hv,rfl⟩
 ·rw[if_neg hdt]
  have hsame:jbe L D' st0 t (later++r::tr)=jbe L D st0 t (later++r::tr):=by
   clear hsl hinv hρ hv hal
   induction later with
   |nil =>
    simp only[List.nil_append,jbe]
    rw[if_neg (fun h=>hdt (by rw[←hdst]; exact h.1)),if_neg (fun h=>hdt (by rw[←hdst]; exact h.1))]
    exact jjd fun j hj=>hD2 j (by omega)
   |cons x l ih =>
    simp only[List.cons_append,jbe]
    rw[hD2 _ (by simp; omega),ih]
  rw[hsame]at hsl
  have h1:=hinv.tm t v hsl
  refine⟨V.allB_mono hal h1.1,?_⟩
  rw[h1.2]
  exact(V.val_eqB hρ h1.1).symm
theorem jrN {D:Nat→Bool} {later tr:List Rec} {r:Rec} {o:Oper} {a:Act} {w:World} {ρ:Env} (hg:GoodTr P sp N L tab st0 (later++r::tr)) (hs:jbP L tab 0 L=true) (ht:jce L tab) (hc:jb7 L D) (hi:D tr.length=false) (ho:L[tr.length]?=some o)
  (hb:∀j,j∈tab.getD tr.length []→D j=true) (hbase:∀t v,jay st0.tm t=some v→v.lt st0.nx) (hinv:Inv ds L st0 B0 B N n0 ρ0 w0 (later++r::tr) D a w ρ) :
  jaq ρ (jaa st0 tr) (jaU L (jak L o) (tab.getD tr.length []) st0 tr) a:=by
 have hgt:GoodTr P sp N L tab st0 tr:=GoodTr.tail (later:=later++[r]) (by simpa using hg)
 have slot_lt:∀(tr:List Rec),GoodTr P sp N L tab st0 tr→∀bef t v,jbH L bef st0 t tr=some v→v.lt (jaa st0 tr):=by
  intro tr hg
  induction hg with
  |nil=>exact fun bef t v h=>hbase t v h
  | @cons tr r h o hr ih =>
   intro bef t v hsl
   simp only[jbH]at hsl
   have down:jbH L bef st0 t tr=some v→v.lt r.nx:=fun h'=>V.lt_mono hr.nx_le (ih bef t v h')
   cases hd:jbr L tr.length with
   |none=>simp only[hd]at hsl; exact down hsl
   |some d =>
    simp only[hd]at hsl
    split at hsl
    ·split at hsl
     ·cases hsl
      show V.lt r.nx r.v
      cases hr.kind with
      |skip g e=>rw[e]; trivial
      |pure g ob hs ho hk e =>
       simp only[jaN,Bool.and_eq_true]at hk
       rw[e]
       exact V.lt_of_allB (fun x hx=>by simp only[Bool.and_eq_true,Nat.blt_eq]at hx; exact hx.1) hk.1.2
      |built g hb ob hs ho hk e =>
       simp only[jaN,Bool.and_eq_true]at hk
       rw[e]
       exact V.lt_of_allB (fun x hx=>by simp only[Bool.and_eq_true,Nat.blt_eq]at hx; exact hx.1) hk.1.2
      |load g hp hl x xo hx hf hb hst ob hs ho hk e =>
       simp only[jaN,Bool.and_eq_true]at hk
       rw[e]
       exact V.lt_of_allB (fun x hx=>by simp only[Bool.and_eq_true,Nat.blt_eq]at hx; exact hx.1) hk.1.2
      |mono g hp hl hm res hs ho hk hnk e =>
       simp only[jaN,Bool.and_eq_true]at hk
       rw[e]
       exact V.lt_of_allB (fun x hx=>by simp only[Bool.and_eq_true,Nat.blt_eq]at hx; exact hx.1) hk.1.2
      |mload g hp hl hmk hal hm res hs ho hk e =>
       simp only[jaN,Bool.and_eq_true]at hk
       rw[e]
       exact V.lt_of_allB (fun x hx=>by simp only[Bool.and_eq_true,Nat.blt_eq]at hx; exact hx.1) hk.1.2
      |effect g hp hl hmo mk hf res hs ho hk hmk e =>
       simp only[jaN,Bool.and_eq_true]at hk
       rw[e]
       exact V.lt_of_allB (fun x hx=>by simp only[Bool.and_eq_true,Nat.blt_eq]at hx; exact hx.1) hk.1.2
     ·cases hsl
    ·exact down hsl
 intro x u hx
 cases x with
 |tmp t =>
  simp only[jaU]at hx
  split at hx
  ·rename_i hcn
   have hn:t∈jak L o:=by simpa using hcn
   exact⟨slot_lt tr hgt _ t u hx,(hinv.tm t u (jlR hs ht hc hi ho hn hb hx)).2⟩
  ·cases hx
 |const v =>
  simp only[jaU,jbL,Option.some.injEq]at hx
  subst hx
  exact⟨jj8 _ v,(ji0 ρ v).symm⟩
 |global g =>
  simp only[jaU,jbL]at hx
  split at hx
  ·cases hx
   exact⟨trivial,by simp[V.val,W.val,C.val,Act.eval]⟩
  ·cases hx
   exact⟨trivial,rfl⟩
 |func f =>
  simp only[jaU,jbL,Option.some.injEq]at hx
  subst hx
  exact⟨(fun _ hh=>by cases hh),by simp[V.val,W.val,C.val,Act.eval]⟩
end
end Go.Sx
end

section
open Go.RowKit
namespace Go.Sx
section
variable [Globs] {P:Program} {sp:jab} {B0 B:Kd} {N n0:Nat} {L:List Oper} {tab:List (List Nat)} {st0:St} {ρ0:Env} {w0:World} {ds:List Deferred}
theorem jcr {i:Nat} {lf mk:Bool}:∀{l:List Oper} {k:Nat},jaT tab i lf mk k l=true→∀m o,l[m]?=some o→k+m=i∨jap o.op=true∨(k+m)∈tab.getD i []∨i∈tab.getD (k+m) []∨(lf=true∧jav o.op=true)∨(mk=true∧i<k+m∧jgQ o.op=true)
 |[],_,_,_,_,h=>by simp at h
 |o' :: r,k,hs,m,o,h=>by
  simp only[jaT,Bool.and_eq_true,Bool.or_eq_true]at hs
  cases m with
  |zero =>
   simp at h
   subst h
   rcases hs.1 with ((((h1|h1)|h1)|h1)|h1)|h1
   ·exact .inl (by simpa using Nat.eq_of_beq_eq_true h1)
   ·exact .inr (.inl h1)
   ·exact .inr (.inr (.inl (by simpa using h1)))
   ·exact .inr (.inr (.inr (.inl (by simpa using h1))))
   ·exact .inr (.inr (.inr (.inr (.inl h1))))
   ·exact .inr (.inr (.inr (.inr (.inr ⟨h1.1.1,by simpa [Nat.blt_eq]using h1.1.2,h1.2⟩))))
  |succ m =>
   have:=jcr hs.2 m o (by simpa using h)
   rw[show k+(m+1)=k+1+m by omega]
   exact this
theorem jgV:∀{l:List Oper} {k:Nat},jcU k l=true→∀m o,l[m]?=some o→∀e∈o.after.toList,Region.binds .any e=true→e.on<k+m
 |[],_,_,_,_,h=>by simp at h
 |o' :: r,k,hs,m,o,h=>by
  simp only[jcU,Bool.and_eq_true]at hs
  cases m with
  |zero =>
   simp at h
   subst h
   intro e he hb
   have:=List.all_eq_true.1 hs.1 e he
   rw[hb]at this
   simpa using this
  |succ m =>
   have:=jgV hs.2 m o (by simpa using h)
   rw[show k+(m+1)=k+1+m by omega]
   exact this
theorem jqC (he:jcU 0 L=true) (ht:jce L tab):∀(i k:Nat),k∈tab.getD i []→k<i:=by
 intro i
 induction i using Nat.strongRecOn with
 |_ i ih =>
  intro k hk
  obtain⟨o,ho,e,hem,hb,hor⟩:=ht i k hk
  have h1:=jgV he i o ho e hem hb
  rw[Nat.zero_add]at h1
  rcases hor with rfl|⟨hlt,hk'⟩
  ·exact h1
  ·exact Nat.lt_trans (ih e.on hlt k hk') hlt
def jh1 (st0:St):Prop:=∀h o,find st0.hp h=some o→h<st0.nx∧o.lt st0.nx
theorem jeJ {bef:List Nat} {tr:List Rec} {v:V} {hp:Hp} {nx:Nat} (hk:jaN bef st0 tr v hp nx=true) {h:Nat} {o:O} (hf:find hp h=some o) :
  h<nx∧o.allB (fun h=>Nat.blt h nx&&(Nat.ble (jaa st0 tr) h||jal (fun j=>bef.contains j) st0 tr h))=true:=by
 simp only[jaN,Bool.and_eq_true]at hk
 have:=List.all_eq_true.1 hk.2 (h,o) (jgN hf)
 simp only[Bool.and_eq_true,Nat.blt_eq]at this
 exact this
theorem jjE {bef:List Nat} {tr:List Rec} {v:V} {hp:Hp} {nx:Nat} (hk:jaN bef st0 tr v hp nx=true) :
  v.allB (fun h=>Nat.blt h nx&&(Nat.ble (jaa st0 tr) h||jal (fun j=>bef.contains j) st0 tr h))=true:=by
 simp only[jaN,Bool.and_eq_true]at hk
 exact hk.1.2
theorem jfH {n:Nat} {hp:Hp} {h:Nat}:find (jaH n hp) h=if Nat.ble n h=true then find hp h else none:=jd7 (p:=fun k=>Nat.ble n k)
theorem keys {tr:List Rec} (hg:GoodTr P sp N L tab st0 tr) (hb:jh1 st0):∀h o,find (jah st0 tr) h=some o→h<jaa st0 tr∧o.lt (jaa st0 tr):=by
 induction hg with
 |nil=>exact hb
 | @cons tr r hgt o hr ih =>
  intro h ob hf
  show h<r.nx∧ob.lt r.nx
  have hf:find r.hp h=some ob:=hf
  cases hr.kind with
  |skip g e=>rw[e]at hf ⊢; exact ih h ob hf
  |pure g ob' hs ho hk e=>rw[e]at hf ⊢; exact ih h ob hf
  |built g hb0 ob' hs ho hk e=>rw[e]at hf ⊢; exact ih h ob hf
  |load g hp hl x xo hx hf0 hb0 hst ob' hs ho hk e=>rw[e]at hf ⊢; exact ih h ob hf
  |mono g hp hl hm res hs ho hk hnk e =>
   rw[e]at hf ⊢
   have hle:jaa st0 tr≤res.nx:=by simp only[jaN,Bool.and_eq_true,Nat.ble_eq]at hk; exact hk.1.1
   simp only[jam]at hf
   cases hn:find (jaH (jaa st0 tr) res.hp) h with
   |some x =>
    rw[hn]at hf
    cases hf
    have:=jeJ hk hn
    exact⟨this.1,O.lt_of_allB (p:=fun h=>Nat.blt h res.nx&&(Nat.ble (jaa st0 tr) h||jal (fun j=>(tab.getD tr.length []).contains j) st0 tr h)) (fun x hx=>by simp only[Bool.and_eq_true,Nat.blt_eq]at hx; exact hx.1) this.2⟩
   |none =>
    rw[hn]at hf
    have:=ih h ob hf
    exact⟨Nat.lt_of_lt_of_le this.1 hle,O.lt_mono hle this.2⟩
  |mload g hp hl hmk hal hm res hs ho hk e =>
   rw[e]at hf ⊢
   have hle:jaa st0 tr≤res.nx:=by simp only[jaN,Bool.and_eq_true,Nat.ble_eq]at hk; exact hk.1.1
   simp only[jam]at hf
   cases hn:find (jaH (jaa st0 tr) res.hp) h with
   |some x =>
    rw[hn]at hf
    cases hf
    have:=jeJ hk hn
    exact⟨this.1,O.lt_of_allB (p:=fun h=>Nat.blt h res.nx&&(Nat.ble (jaa st0 tr) h||jal (fun j=>(tab.getD tr.length []).contains j) st0 tr h)) (fun x hx=>by simp only[Bool.and_eq_true,Nat.blt_eq]at hx; exact hx.1) this.2⟩
   |none =>
    rw[hn]at hf
    have:=ih h ob hf
    exact⟨Nat.lt_of_lt_of_le this.1 hle,O.lt_mono hle this.2⟩
  |effect g hp hl hmo mk hf' res hs ho hk hmk e =>
   rw[e]at hf ⊢
   have:=jeJ hk hf
   exact⟨this.1,O.lt_of_allB (p:=fun h=>Nat.blt h res.nx&&(Nat.ble (jaa st0 tr) h||jal (fun j=>(tab.getD tr.length []).contains j) st0 tr h)) (fun x hx=>by simp only[Bool.and_eq_true,Nat.blt_eq]at hx; exact hx.1) this.2⟩
theorem GoodTr.inv {tr:List Rec} {r:Rec} (h:GoodTr P sp N L tab st0 (r::tr)):GoodTr P sp N L tab st0 tr∧∃o,RecOK P sp N L tab st0 tr r o:=by
 cases h with|cons h o hr=>exact⟨h,o,hr⟩
theorem jbj {tr:List Rec} {r:Rec} {o:Oper} (hr:RecOK P sp N L tab st0 tr r o) (h:r.kd=2):(∃mk,jaT tab tr.length (r.tg.isSome) mk 0 L=true)∧jap o.op=false∧jav o.op=false∧jfF o.op=false:=by
 cases hr.kind with
 |skip g e=>rw[e]at h; cases h
 |pure g ob hs ho hk e=>rw[e]at h; cases h
 |built g hb0 ob hs ho hk e=>rw[e]at h; cases h
 |load g hp hl x xo hx hf hb hst ob hs ho hk e=>rw[e]at h; cases h
 |mono g hp hl hm res hs ho hk hnk e=>rw[e]at h; cases h
 |mload g hp hl hmk hal hm res hs ho hk e=>rw[e]at h; cases h
 |effect g hp hl hmo mk hf res hs ho hk hmk e=>exact⟨⟨mk,by rw[e]; exact hf⟩,hp,hl,by cases ho':o.op<;>first|rfl|(rw[ho']at hmo; cases hmo)⟩
theorem jje {k:NK} {c:C} {x:NC} {g:Option Nat} {hp:Hp} (h:jgc hp k c=some (x,g)) (hc:c.allB (fun _=>false)=true):g=none:=by
 unfold jgc at h
 split at h
 ·split at h<;>cases h; rfl
 ·split at h<;>cases h; rfl
 ·cases hc
 ·cases h
theorem jh2 {hp:Hp}:∀{sh:List NK} {cs:List C} {r:List NC} {hs:List Nat},jbn hp sh cs=some (r,hs)→(cs.all (C.allB fun _=>false))=true→hs=[]
 |[],[],r,hs,h,_=>by simp only[jbn,Option.some.injEq,Prod.mk.injEq]at h; exact h.2.symm
 |[],c::cs,r,hs,h,_=>by simp[jbn]at h
 |k::sh,[],r,hs,h,_=>by simp[jbn]at h
 |k::sh,c::cs,r,hs,h,hc=>by
  simp only[jbn]at h
  simp only[List.all_cons,Bool.and_eq_true]at hc
  split at h
  ·rename_i x g l gs hx hl
   simp only[Option.some.injEq,Prod.mk.injEq]at h
   obtain⟨_,rfl⟩:=h
   rw[jje hx hc.1,jh2 hl hc.2]
  ·cases h
theorem W.cells_allB {p:Nat→Bool} {u:W} (h:u.allB p=true):(u.cells.all (C.allB p))=true:=by
 cases u with
 |c x=>simpa [W.cells,W.allB]using h
 |a l=>exact h
 |b k e r=>simp[W.cells,C.allB]
theorem jqD {t x y:_} {rd:Operand→Option V} {hp:Hp} {nx h i e j:Nat} {res:Res} (hs:jc4 P (.store t x y) rd hp nx=some res) (hx:rd x=some (.w (.c (.p h i e j)))) (hz:jcT hp (.store t x y) rd=true):∃o',res.hp=(h,o')::jae hp:=by
 unfold jc4 at hs
 dsimp only at hs
 rw[hx]at hs
 split at hs
 ·rename_i h2 i2 e2 j2 u h3 hy
  cases h3
  split at hs
  ·rename_i ty X sz hf hsz
   have hu:(u.cells.all (C.allB fun _=>false))=true:=by
    unfold jcT at hz
    simp only[hx,hy,hf]at hz
    exact W.cells_allB hz
   split at hs
   ·split at hs
    ·split at hs
     ·rename_i hcs
      cases hs
      rw[jh2 hcs hu]
      exact⟨_,rfl⟩
     ·cases hs
    ·split at hs
     ·rename_i c0 k huc hk
      split at hs
      ·rename_i hc
       cases hs
       rw[huc]at hu
       simp only[List.all_cons,List.all_nil,Bool.and_true]at hu
       rw[jje hc hu]
       exact⟨_,rfl⟩
      ·cases hs
     ·cases hs
   ·cases hs
  ·cases hs
 ·cases hs
theorem jh3 {k:NK} {t:Nat} {c:C} {x:NC} {g:Option Nat} {hp:Hp} (h:jb4 hp k t c=some (x,g)) (hc:c.allB (fun _=>false)=true):g=none:=by
 unfold jb4 at h
 split at h
 ·split at h<;>cases h; rfl
 ·split at h<;>cases h; rfl
 ·cases hc
 ·cases h
theorem jhq {hp:Hp}:∀{sh:List NK} {ts:List Nat} {cs:List C} {r:List NC} {hs:List Nat},jaA hp sh ts cs=some (r,hs)→(cs.all (C.allB fun _=>false))=true→hs=[]
 |[],_,[],r,hs,h,_=>by simp only[jaA,Option.some.injEq,Prod.mk.injEq]at h; exact h.2.symm
 |[],_,c::cs,r,hs,h,_=>by simp[jaA]at h
 |k::sh,_,[],r,hs,h,_=>by simp[jaA]at h
 |k::sh,ts,c::cs,r,hs,h,hc=>by
  simp only[jaA]at h
  simp only[List.all_cons,Bool.and_eq_true]at hc
  split at h
  ·rename_i x g l gs hx hl
   simp only[Option.some.injEq,Prod.mk.injEq]at h
   obtain⟨_,rfl⟩:=h
   rw[jh3 hx hc.1,jhq hl hc.2]
  ·cases h
theorem jqE {t x y:_} {rd:Operand→Option V} {hp:Hp} {nx h i e j:Nat} {res:Res} (hs:jc5 P (.store t x y) rd hp nx=some res) (hx:rd x=some (.w (.c (.p h i e j)))) (hz:jcT hp (.store t x y) rd=true):∃o',res.hp=(h,o')::jae hp:=by
 unfold jc5 at hs
 dsimp only at hs
 rw[hx]at hs
 split at hs
 ·rename_i h2 i2 e2 j2 u h3 hy
  cases h3
  split at hs
  ·rename_i ty ts X ho sz hf hsz
   have hu:(u.cells.all (C.allB fun _=>false))=true:=by
    unfold jcT at hz
    simp only[hx,hy,hf]at hz
    exact W.cells_allB hz
   split at hs
   ·have one:∀(c0:C) (k:NK) (x0:NC) (g0:Option Nat),u.cells=[c0]→jb4 hp k (ts.getD j 0) c0=some (x0,g0)→g0=none:=fun c0 k x0 g0 huc hc=>by
     rw[huc]at hu
     simp only[List.all_cons,List.all_nil,Bool.and_true]at hu
     exact jh3 hc hu
    split at hs
    ·split at hs
     ·rename_i hcs
      split at hs
      ·cases hs
       rw[jhq hcs hu]
       exact⟨_,rfl⟩
      ·cases hs
     ·cases hs
    ·split at hs
     ·rename_i c0 k huc hk
      split at hs
      ·rename_i hc
       have:=one _ _ _ _ huc hc
       subst this
       split at hs
       ·cases hs; exact⟨_,rfl⟩
       ·split at hs
        ·cases hs; exact⟨_,rfl⟩
        ·cases hs
      ·cases hs
     ·cases hs
   ·cases hs
  ·rename_i hf _
   unfold jcT at hz
   simp only[hx,hy,hf]at hz
   cases hz
  ·cases hs
 ·cases hs
theorem jok {t x y:_} {rd:Operand→Option V} {hp:Hp} {nx h:Nat} {res:Res} (hs:ja5 P sp (.store t x y) rd hp nx=some res) (hz:jcT hp (.store t x y) rd=true) (ht:storeAt (.store t x y) rd=some h):∃o',res.hp=(h,o')::jae hp:=by
 unfold storeAt at ht
 dsimp only at ht
 split at ht
 ·rename_i h' i e j hx
  cases ht
  unfold ja5 at hs
  have hv:jaR P (.store t x y) rd hp=none:=by simp[jaR,jaL,jd3]
  have hR:jcv P (.store t x y) rd hp nx=none:=by simp[jcv]
  simp only[hv,hR]at hs
  split at hs
  ·rename_i r0 hX
   cases hs
   unfold jc3 at hX
   dsimp only at hX
   rw[hx]at hX
   split at hX
   ·rename_i h3 _
    cases h3
    split at hX
    ·split at hX
     ·cases hX; exact⟨_,rfl⟩
     ·cases hX
    ·split at hX
     ·cases hX; exact⟨_,rfl⟩
     ·cases hX
    ·cases hX
   ·rename_i h3 _
    cases h3
    split at hX
    ·split at hX
     ·cases hX; exact⟨_,rfl⟩
     ·cases hX
    ·split at hX
     ·cases hX; exact⟨_,rfl⟩
     ·cases hX
    ·cases hX
   ·rename_i h3 _
    cases h3
    split at hX
    ·split at hX
     ·split at hX
      ·cases hX; exact⟨_,rfl⟩
      ·cases hX
     ·cases hX
    ·cases hX
   ·cases hX
  split at hs
  ·rename_i r0 hX
   cases hs
   unfold jds at hX
   dsimp only at hX
   rw[hx]at hX
   split at hX
   ·rename_i h3 _
    cases h3
    split at hX
    ·split at hX
     ·cases hX; exact⟨_,rfl⟩
     ·cases hX
    ·cases hX
   ·cases hX
  split at hs
  ·rename_i r0 hX
   cases hs
   exact jqE hX hx hz
  split at hs
  ·rename_i r0 hX
   cases hs
   exact jqD hX hx hz
  unfold jfD at hs
  dsimp only at hs
  rw[hx]at hs
  split at hs
  ·rename_i h2 i2 e2 j2 u h3 hy
   cases h3
   split at hs
   ·split at hs
    ·split at hs
     ·cases hs; exact⟨_,rfl⟩
     ·split at hs
      ·cases hs; exact⟨_,rfl⟩
      ·cases hs
    ·split at hs
     ·split at hs
      ·split at hs
       ·cases hs; exact⟨_,rfl⟩
       ·cases hs
      ·cases hs
     ·cases hs
    ·cases hs
   ·cases hs
  ·cases hs
 ·cases ht
theorem jbk {hp:Hp} {x:Nat} {ob:O} (hpl:jdz (some ob)=true):find (jae hp) x=some ob↔find hp x=some ob:=by
 rw[jaw]
 cases hf:find hp x with
 |none=>simp
 |some o =>
  simp only[Option.map_some,Option.some.injEq]
  cases o<;>cases ob<;>simp_all [jdz]
theorem jol {op:Op} {rd:Operand→Option V} {hp:Hp} {nx h:Nat} {res:Res} (hs:ja5 P sp op rd hp nx=some res) (hz:jcT hp op rd=true) (ht:storeAt op rd=some h) {x:Nat} {ob:O} (hx:x≠h) (hn:x<nx) (hp1:jdz (some ob)=true) (hf:find hp x=some ob):find res.hp x=some ob:=by
 cases op with
 |store t a b =>
  obtain⟨o',ho'⟩:=jok hs hz ht
  rw[ho']
  simp only[find]
  rw[if_neg (fun e=>hx e.symm)]
  exact(jbk hp1).2 hf
 |call c =>
  have hna:c.callee=.builtin .append∧∃s y,c.args.toList=[s,y]∧∀k,rd s=some (.w (.c (.o k)))→k=h:=by
   unfold storeAt at ht
   dsimp only at ht
   split at ht
   ·rename_i s y hc ha
    refine⟨hc,s,y,ha,fun k hk=>?_⟩
    rw[hk]at ht
    cases ht; rfl
   ·cases ht
  obtain⟨hcal,s,y,hargs,hk⟩:=hna
  unfold ja5 at hs
  have h1:jaR P (.call c) rd hp=none:=by simp[jaR,jaL,jd3,hcal]
  have h2:jc3 P (.call c) rd hp nx=none:=by simp[jc3]
  have hR:jcv P (.call c) rd hp nx=none:=by simp[jcv]
  simp only[h1,hR,h2]at hs
  split at hs
  ·rename_i r0 hX
   cases hs
   unfold jds at hX
   dsimp only at hX
   rw[hcal,hargs]at hX
   split at hX
   ·rename_i s' y' t t' _ e _
    simp only[List.cons.injEq,and_true]at e
    obtain⟨rfl,rfl⟩:=e
    split at hX
    ·split at hX
     ·split at hX
      ·rename_i hs' ty e1 n1 cs1 n2 cs2 hss hsx
       split at hX
       ·cases hX
        cases hs' with
        |none =>
         simp only[find]
         rw[if_neg (by omega)]
         exact(jbk hp1).2 hf
        |some k =>
         have hkh:k=h:=by
          cases hrs:rd s with
          |none=>simp[hrs]at hss
          |some us =>
           simp only[hrs,Option.bind_some]at hss
           unfold lOf at hss
           split at hss
           ·split at hss
            ·cases hss; exact hk _ hrs
            ·cases hss
           ·cases hss
           ·cases hss
         subst hkh
         simp only[find]
         rw[if_neg (by omega),if_neg (fun e=>hx e.symm)]
         exact(jbk hp1).2 hf
       ·cases hX
      ·cases hX
     ·cases hX
    ·cases hX
   ·cases hX
  split at hs
  ·rename_i r0 hX
   cases hs
   unfold jcT at hz
   simp only[hcal,hargs,Bool.and_eq_true]at hz
   unfold jc5 at hX
   dsimp only at hX
   rw[hcal,hargs]at hX
   split at hX
   ·rename_i s' y' t t' _ e _
    simp only[List.cons.injEq,and_true]at e
    obtain⟨rfl,rfl⟩:=e
    split at hX
    ·rename_i elem _ _
     have outer:jei P t elem (rd s) (rd y) hp nx=some res→find res.hp x=some ob:=by
      intro hX
      unfold jei at hX
      split at hX
      ·split at hX
       ·rename_i hs0 ty t1 X1 hx0 ty' t2 X2 g1 g2
        split at hX
        ·cases hX
         have e1:hs0=none:=by
          obtain⟨us,hus,hus'⟩:=Option.bind_eq_some_iff.1 g1
          unfold mOf at hus'
          split at hus'
          ·split at hus'
           ·rename_i hf' ; unfold je9 at hz; simp only[hus,hf']at hz; cases hz.1
           ·cases hus'
          ·cases hus'; rfl
          ·cases hus'
         have e2:hx0=none:=by
          obtain⟨us,hus,hus'⟩:=Option.bind_eq_some_iff.1 g2
          unfold mOf at hus'
          split at hus'
          ·split at hus'
           ·rename_i hf' ; have h9:=hz.2; unfold je9 at h9; simp only[hus,hf']at h9; cases h9
           ·cases hus'
          ·cases hus'; rfl
          ·cases hus'
         subst e1
         subst e2
         simp only[jb3,find]
         rw[if_neg (by omega)]
         exact(jbk hp1).2 hf
        ·cases hX
       ·cases hX
      ·cases hX
     split at hX
     ·rename_i hs0 hob0
      split at hX
      ·rename_i r0 i0 e0 j0 t0 c1 hf'
       obtain⟨us,hus,hus'⟩:=Option.bind_eq_some_iff.1 hob0
       have hus2:rd s=some (.w (.c (.o hs0))):=by
        unfold V.obj? at hus'
        split at hus'
        ·cases hus'; exact hus
        ·cases hus'
       have h9:=hz.1
       unfold je9 at h9
       simp only[hus2,hf']at h9
       cases h9
      ·exact outer hX
     ·exact outer hX
    ·cases hX
   ·cases hX
  split at hs
  ·rename_i r0 hX
   cases hs
   unfold jc4 at hX
   dsimp only at hX
   rw[hcal,hargs]at hX
   split at hX
   ·rename_i s' y' t t' _ e _
    simp only[List.cons.injEq,and_true]at e
    obtain⟨rfl,rfl⟩:=e
    split at hX
    ·split at hX
     ·split at hX
      ·rename_i hs' ty X1 hx' ty' X2 hss hsx
       split at hX
       ·cases hX
        cases hs' with
        |none =>
         simp only[find]
         rw[if_neg (by omega)]
         exact(jbk hp1).2 hf
        |some k =>
         have hkh:k=h:=by
          cases hrs:rd s with
          |none=>simp[hrs]at hss
          |some us =>
           simp only[hrs,Option.bind_some]at hss
           unfold xOf at hss
           split at hss
           ·split at hss
            ·cases hss; exact hk _ hrs
            ·cases hss
           ·cases hss
           ·cases hss
         subst hkh
         simp only[find]
         rw[if_neg (by omega),if_neg (fun e=>hx e.symm)]
         exact(jbk hp1).2 hf
       ·cases hX
      ·cases hX
     ·cases hX
    ·cases hX
   ·cases hX
  unfold jfD at hs
  dsimp only at hs
  rw[hcal,hargs]at hs
  split at hs
  ·rename_i s' y' t t' _ e _
   simp only[List.cons.injEq,and_true]at e
   obtain⟨rfl,rfl⟩:=e
   split at hs
   ·split at hs
    ·unfold jd5 at hs
     split at hs
     ·split at hs
      ·split at hs
       ·split at hs
        ·split at hs
         ·cases hs
          simp only[find]
          rw[if_neg (by omega)]
          exact hf
         ·cases hs
        ·cases hs
       ·cases hs
      ·cases hs
     ·cases hs
    ·split at hs
     ·rename_i elem hs' cs hx' cx hu hss hsx
      split at hs
      ·split at hs
       ·split at hs
        ·split at hs
         ·cases hs
          cases hs' with
          |none =>
           simp only[find]
           rw[if_neg (by omega)]
           exact(jbk hp1).2 hf
          |some k =>
           have hkh:k=h:=by
            cases hrs:rd s with
            |none=>simp[hrs]at hss
            |some us =>
             simp only[hrs,Option.bind_some]at hss
             unfold jbF at hss
             split at hss
             ·split at hss
              ·cases hss; exact hk _ hrs
              ·cases hss
             ·cases hss
             ·cases hss
           subst hkh
           simp only[find]
           rw[if_neg (by omega),if_neg (fun e=>hx e.symm)]
           exact(jbk hp1).2 hf
         ·cases hs
        ·cases hs
       ·cases hs
      ·cases hs
     ·cases hs
   ·cases hs
  ·rename_i hc2
   cases hc2
  ·cases hs
 |_=>simp[storeAt]at ht
theorem jjF {tr:List Rec} {r:Rec} {o:Oper} {t:Nat} (hr:RecOK P sp N L tab st0 tr r o) (h:r.kd=2) (ht:r.tg=some t) :
  (∀x ob,x≠t→x<jaa st0 tr→jdz (some ob)=true→find (jah st0 tr) x=some ob→find r.hp x=some ob)∧jdn L tab st0 (tab.getD tr.length []) t tr=true:=by
 cases hr.kind with
 |skip g e=>rw[e]at h; cases h
 |pure g ob hs ho hk e=>rw[e]at h; cases h
 |built g hb0 ob hs ho hk e=>rw[e]at h; cases h
 |load g hp hl x xo hx hf hb hst ob hs ho hk e=>rw[e]at h; cases h
 |mono g hp hl hm res hs ho hk hnk e=>rw[e]at h; cases h
 |mload g hp hl hmk hal hm res hs ho hk e=>rw[e]at h; cases h
 |effect g hp hl hmo mk hf res hs ho hk hmk e =>
  have ht2:jbi L tab st0 o tr=some t:=by rw[e]at ht; exact ht
  unfold jbi at ht2
  split at ht2
  ·rename_i h' hst
   split at ht2
   ·rename_i hlf
    cases ht2
    simp only[Bool.and_eq_true]at hlf
    refine⟨fun x ob hx hn hpl hfx=>?_,hlf.1⟩
    rw[e]
    exact jol hs hlf.2 hst hx hn hpl hfx
   ·cases ht2
  ·cases ht2
theorem jbx {tr:List Rec} {r:Rec} {o:Oper} (hr:RecOK P sp N L tab st0 tr r o) (h:r.kd≠2):r.hp=r.nw++jah st0 tr∧(∀k ob,find r.nw k=some ob→jaa st0 tr≤k∧k<r.nx)∧((r.nw=[]∧r.nx=jaa st0 tr)∨(jap o.op||jav o.op)=false∨(jd6 tab tr.length 0 L=true∧jcx (tab.getD tr.length []) tr=true)):=by
 cases hr.kind with
 |skip g e=>rw[e]; exact⟨rfl,(fun k ob h=>by cases h),.inl ⟨rfl,rfl⟩⟩
 |pure g ob hs ho hk e=>rw[e]; exact⟨rfl,(fun k ob h=>by cases h),.inl ⟨rfl,rfl⟩⟩
 |built g hb0 ob hs ho hk e=>rw[e]; exact⟨rfl,(fun k ob h=>by cases h),.inl ⟨rfl,rfl⟩⟩
 |load g hp hl x xo hx hf hb hst ob hs ho hk e=>rw[e]; exact⟨rfl,(fun k ob h=>by cases h),.inl ⟨rfl,rfl⟩⟩
 |mono g hp hl hm res hs ho hk hnk e =>
  rw[e]
  refine⟨rfl,fun k ob hf=>?_,.inr (.inl (by rw[hp,hl]; rfl))⟩
  have h1:=(jeJ hk hf).1
  have hf:find (jaH (jaa st0 tr) res.hp) k=some ob:=hf
  rw[jfH]at hf
  split at hf
  ·rename_i hle; exact⟨by simpa [Nat.ble_eq]using hle,h1⟩
  ·cases hf
 |mload g hp hl hmk hal hm res hs ho hk e =>
  rw[e]
  refine⟨rfl,fun k ob hf=>?_,.inr (.inr ⟨hmk,hal⟩)⟩
  have h1:=(jeJ hk hf).1
  have hf:find (jaH (jaa st0 tr) res.hp) k=some ob:=hf
  rw[jfH]at hf
  split at hf
  ·rename_i hle; exact⟨by simpa [Nat.ble_eq]using hle,h1⟩
  ·cases hf
 |effect g hp hl hmo mk hf res hs ho hk hmk e=>rw[e]at h; exact absurd rfl h
theorem jgW {i:Nat}:∀{l:List Oper} {k:Nat},jd6 tab i k l=true→∀m o,l[m]?=some o→k+m≤i∨(jap o.op||jav o.op)=true∨i∈tab.getD (k+m) []∨jfF o.op=true
 |[],_,_,_,_,h=>by simp at h
 |o' :: r,k,hs,m,o,h=>by
  simp only[jd6,Bool.and_eq_true,Bool.or_eq_true]at hs
  cases m with
  |zero =>
   simp at h
   subst h
   rcases hs.1 with (((h1|h1)|h1)|h1)|h1
   ·exact .inl (by simpa [Nat.ble_eq]using h1)
   ·exact .inr (.inl (by rw[h1]; rfl))
   ·exact .inr (.inl (by rw[h1,Bool.or_true]))
   ·exact .inr (.inr (.inl (by simpa using h1)))
   ·exact .inr (.inr (.inr h1))
  |succ m =>
   have:=jgW hs.2 m o (by simpa using h)
   rw[show k+(m+1)=k+1+m by omega]
   exact this
theorem jh4 {x:Nat} {o:O}:∀{hp:Hp},find hp x=some o→(x,o)∈hp
 |[],h=>by cases h
 |(k,o')::r,h=>by
  simp only[find]at h
  split at h
  ·rename_i e; subst e; cases h; exact List.mem_cons_self ..
  ·exact List.mem_cons_of_mem _ (jh4 h)
theorem js3 {D:Nat→Bool} {i:Nat} (hbase:jh1 st0) (hb:∀j,j∈tab.getD i []→D j=true) {tr:List Rec} (hg:GoodTr P sp N L tab st0 tr) :
  jcx (tab.getD i []) tr=true→tr.length≤i→∀h ob,find (jah st0 tr) h=some ob→jal (fun j=>(tab.getD i []).contains j) st0 tr h=true→find (jai D st0 tr) h=some ob:=by
 induction hg with
 |nil=>exact fun _ _ h ob hf _=>hf
 | @cons tr r hgt o' hr ih =>
  intro hal hl h ob hf hbn
  simp only[jcx,Bool.and_eq_true]at hal
  have hl:tr.length+1≤i:=hl
  have hf:find r.hp h=some ob:=hf
  simp only[jai]
  by_cases hk:r.kd=2
  ·have hD:D tr.length=true:=by
    have h1:=hal.1
    rw[hk]at h1
    exact hb _ (by simpa using h1)
   rw[if_pos hD,if_pos hk]
   exact hf
  ·have ho:=jbx hr hk
   rw[ho.1,jam]at hf
   rw[if_neg hk]
   cases hn:find r.nw h with
   |some x =>
    rw[hn]at hf
    cases hf
    have h1:=(ho.2.1 h ob hn).1
    have hD:D tr.length=true:=by
     simp only[jal]at hbn
     rw[show Nat.ble (jaa st0 tr) h=true from Nat.ble_eq_true_of_le h1]at hbn
     exact hb _ (by simpa using hbn)
    rw[if_pos hD,jam,hn]
    rfl
   |none =>
    rw[hn]at hf
    have hf:find (jah st0 tr) h=some ob:=hf
    have h1:=(keys hgt hbase h ob hf).1
    have hbn':jal (fun j=>(tab.getD i []).contains j) st0 tr h=true:=by
     simp only[jal]at hbn
     have e:Nat.ble (jaa st0 tr) h=false:=by
      rw[Bool.eq_false_iff]; intro hc; rw[Nat.ble_eq]at hc; omega
     rw[e]at hbn
     exact hbn
    have:=ih hal.2 (by omega) h ob hf hbn'
    split
    ·rw[jam,hn]; exact this
    ·exact this
theorem jqF {D:Nat→Bool} (hbase:jh1 st0) {tr:List Rec} (hg:GoodTr P sp N L tab st0 tr):∀h ob,find (jai D st0 tr) h=some ob→h<jaa st0 tr:=by
 induction hg with
 |nil=>exact fun h ob hf=>(hbase h ob hf).1
 | @cons tr r hgt o hr ih =>
  intro h ob hf
  have hle:=hr.nx_le
  simp only[jai]at hf
  split at hf
  ·split at hf
   ·exact(keys (.cons hgt o hr) hbase h ob hf).1
   ·rename_i hk
    rw[jam]at hf
    cases hn:find r.nw h with
    |some x=>exact((jbx hr hk).2.1 h x hn).2
    |none=>rw[hn]at hf; exact Nat.lt_of_lt_of_le (ih h ob hf) hle
  ·exact Nat.lt_of_lt_of_le (ih h ob hf) hle
theorem jqG {D:Nat→Bool} {i k:Nat} {o:Oper} {lf mk:Bool} (hns:jap o.op=false) (hnl:jav o.op=false) (ho:L[i]?=some o) (hlow:∀i k,k∈tab.getD i []→k<i) (ht:jce L tab) (hc:jb7 L D) (hi:D i=false) (hik:i<k)
  (hf:jaT tab k lf mk 0 L=true):D k=false:=by
 have hor:i∈tab.getD k []:=by
  rcases jcr hf i o ho with h1|h1|h1|h1|h1|h1
  ·omega
  ·rw[hns]at h1; cases h1
  ·rw[Nat.zero_add]at h1; exact h1
  ·rw[Nat.zero_add]at h1; have:=hlow _ _ h1; omega
  ·rw[hnl]at h1; cases h1.2
  ·have:=h1.2.1; omega
 rw[Bool.eq_false_iff]
 intro hD
 have:=jcf ht hc k i (fun o' ho' e he hb=>hc k o' ho' hD e he hb) hor
 rw[this]at hi
 cases hi
theorem jpv {D:Nat→Bool} {i k:Nat} {ok:Oper} {lf mk:Bool} (hok:L[k]?=some ok) (hnk:jap ok.op=false) (hlk:jav ok.op=false) (hlow:∀i k,k∈tab.getD i []→k<i) (ht:jce L tab) (hc:jb7 L D) (hi:D i=false) (hik:i<k)
  (hf:jaT tab i lf mk 0 L=true) (hD:D k=true):mk=true∧jgQ ok.op=true∧i∉tab.getD k []:=by
 have hni:i∉tab.getD k []:=fun hor=>by
  have:=jcf ht hc k i (fun o' ho' e he hb=>hc k o' ho' hD e he hb) hor
  rw[this]at hi
  cases hi
 rcases jcr hf k ok hok with h1|h1|h1|h1|h1|h1
 ·omega
 ·rw[hnk]at h1; cases h1
 ·rw[Nat.zero_add]at h1; have:=hlow _ _ h1; omega
 ·rw[Nat.zero_add]at h1; exact absurd h1 hni
 ·rw[hlk]at h1; cases h1.2
 ·exact⟨h1.1,h1.2.2,hni⟩
theorem joY {D:Nat→Bool} {i:Nat} (hlow:∀i k,k∈tab.getD i []→k<i) (hbase:jh1 st0) (hb:∀j,j∈tab.getD i []→D j=true) {h:Nat} {ob:O} {tr:List Rec} (hg:GoodTr P sp N L tab st0 tr) :
  find (jah st0 tr) h=some ob→jal (fun j=>(tab.getD i []).contains j) st0 tr h=true→jbd st0 (tab.getD i []) h tr=true→find (jai D st0 tr) h=some ob:=by
 induction hg with
 |nil=>exact fun hf _ _=>hf
 | @cons tr r hgt o' hr ih =>
  intro hf hbn hst
  simp only[jbd,Bool.and_eq_true]at hst
  have hf:find r.hp h=some ob:=hf
  simp only[jai]
  by_cases hk:r.kd=2
  ·rw[if_pos hk]
   by_cases hD:D tr.length=true
   ·rw[if_pos hD]; exact hf
   ·rw[if_neg hD]
    have h1:=hst.1
    have hc:(tab.getD i []).contains tr.length=false:=by
     cases hcc:(tab.getD i []).contains tr.length with
     |false=>rfl
     |true=>exact absurd (hb _ (by simpa using hcc)) hD
    have hkb:Nat.beq r.kd 2=true:=by rw[hk]; rfl
    rw[hc,hkb]at h1
    simp only[Bool.not_true,Bool.false_or]at h1
    split at h1
    ·cases h1
    ·rename_i t htg
     simp only[Bool.and_eq_true,Bool.not_eq_true']at h1
     have hne:h≠t:=fun e=>by
      have h2:=h1.1
      subst e
      have:Nat.beq h h=true:=by simp
      rw[this]at h2; cases h2
     have hs:=jjF hr hk htg
     have hpl:∃o1,find (jah st0 tr) h=some o1∧jdz (some o1)=true:=by
      cases hq:find (jah st0 tr) h with
      |none=>rw[hq]at h1; cases h1.2
      |some o1=>rw[hq]at h1; exact⟨o1,rfl,h1.2⟩
     obtain⟨o1,hq,hp1⟩:=hpl
     have hlt:=(keys hgt hbase h o1 hq).1
     have:=hs.1 h o1 hne hlt hp1 hq
     rw[this]at hf
     cases hf
     refine ih hq ?_ hst.2
     have e:Nat.ble (jaa st0 tr) h=false:=by
      rw[Bool.eq_false_iff]; intro hcc; rw[Nat.ble_eq]at hcc; omega
     simp only[jal]at hbn
     rw[e]at hbn
     exact hbn
  ·have ho:=jbx hr hk
   rw[ho.1,jam]at hf
   rw[if_neg hk]
   cases hn:find r.nw h with
   |some x =>
    rw[hn]at hf
    cases hf
    have h1:=(ho.2.1 h ob hn).1
    have hD:D tr.length=true:=by
     simp only[jal]at hbn
     rw[show Nat.ble (jaa st0 tr) h=true from Nat.ble_eq_true_of_le h1]at hbn
     exact hb _ (by simpa using hbn)
    rw[if_pos hD,jam,hn]
    rfl
   |none =>
    rw[hn]at hf
    have hf:find (jah st0 tr) h=some ob:=hf
    have h1:=(keys hgt hbase h ob hf).1
    have hbn':jal (fun j=>(tab.getD i []).contains j) st0 tr h=true:=by
     simp only[jal]at hbn
     have e:Nat.ble (jaa st0 tr) h=false:=by
      rw[Bool.eq_false_iff]; intro hc; rw[Nat.ble_eq]at hc; omega
     rw[e]at hbn
     exact hbn
    have:=ih hf hbn' hst.2
    split
    ·rw[jam,hn]; exact this
    ·exact this
theorem jkB {bef:List Nat} {t:Nat} {r0:Rec} {tr:List Rec} {o:Oper} (ho:L[tr.length]?=some o) (hl:jav o.op=true):∀{l:List Rec},jdn L tab st0 bef t (l++r0::tr)=true →
  bef.contains tr.length=true∨∃x,loadAt o.op (jaU L (jak L o) (tab.getD tr.length []) st0 tr)=some x∧x≠t∧jdz (find (jah st0 tr) x)=true
 |[],h=>by
  simp only[List.nil_append,jdn,ho,hl,Bool.and_eq_true,Bool.or_eq_true]at h
  rcases h.1 with h1|h1
  ·exact .inl h1
  ·split at h1
   ·cases h1
   ·rename_i x hx
    simp only[Bool.and_eq_true,Bool.not_eq_true']at h1
    refine .inr ⟨x,hx,fun e=>?_,h1.2⟩
    have h2:=h1.1
    rw[e]at h2
    have:Nat.beq t t=true:=by simp
    rw[this]at h2; cases h2
 |r::l,h=>by
  simp only[List.cons_append,jdn,Bool.and_eq_true]at h
  exact jkB ho hl h.2
theorem jlS {D:Nat→Bool} {tr:List Rec} {r0:Rec} {o:Oper} {x:Nat} {xo:O} (ho:L[tr.length]?=some o) (hlo:jav o.op=true) (hns:jap o.op=false) (hx:loadAt o.op (jaU L (jak L o) (tab.getD tr.length []) st0 tr)=some x) (hf:find (jah st0 tr) x=some xo) (hr0:r0.hp=jah st0 tr)
  (hlow:∀i k,k∈tab.getD i []→k<i) (ht:jce L tab) (hc:jb7 L D) (hi:D tr.length=false) (hxl:x<jaa st0 tr) (hin:find (jai D st0 tr) x=some xo) :
  ∀{later:List Rec},GoodTr P sp N L tab st0 (later++r0::tr)→find (jai D st0 (later++r0::tr)) x=some xo ∧
   ((∀k,tr.length<k→k<(later++r0::tr).length→∀ok,L[k]?=some ok→jap ok.op=false→jav ok.op=false→tr.length∈tab.getD k []→False)→True) ∧
   (find (jah st0 (later++r0::tr)) x=some xo∨∃l1 rk trk,later++r0::tr=l1++rk::trk∧tr.length<trk.length∧rk.kd=2∧tr.length∈tab.getD trk.length [])
 |[],_=>by
  refine⟨?_,fun _=>trivial,.inl ?_⟩
  ·simp only[List.nil_append,jai,hi,Bool.false_eq_true,if_false]; exact hin
  ·show find r0.hp x=_
   rw[hr0]; exact hf
 |r::l,hg=>by
  obtain⟨hgt,o',hr⟩:=GoodTr.inv (tr:=l++r0::tr) hg
  obtain⟨ih1,_,ih3⟩:=jlS ho hlo hns hx hf hr0 hlow ht hc hi hxl hin hgt
  have hlen:tr.length<(l++r0::tr).length:=by simp; omega
  by_cases hk:r.kd=2
  ·have hfo:=jbj hr hk
   by_cases hw:tr.length∈tab.getD (l++r0::tr).length []
   ·have hDk:D (l++r0::tr).length=false:=by
     rw[Bool.eq_false_iff]
     intro hD
     have:=jcf ht hc (l++r0::tr).length tr.length (fun o' ho' e he hb=>hc _ o' ho' hD e he hb) hw
     rw[this]at hi; cases hi
    refine⟨?_,fun _=>trivial,.inr ⟨[],r,l++r0::tr,rfl,hlen,hk,hw⟩⟩
    simp only[List.cons_append,jai,hDk,Bool.false_eq_true,if_false]
    exact ih1
   ·have htg:r.tg.isSome=true:=by
     obtain⟨mk,hfm⟩:=hfo.1
     rcases jcr hfm tr.length o ho with h1|h1|h1|h1|h1|h1
     ·omega
     ·rw[hns]at h1; cases h1
     ·rw[Nat.zero_add]at h1; exact absurd h1 hw
     ·rw[Nat.zero_add]at h1; have:=hlow _ _ h1; omega
     ·exact h1.1
     ·have:=h1.2.1; omega
    cases htt:r.tg with
    |none=>rw[htt]at htg; cases htg
    |some t =>
     have hst:=jjF hr hk htt
     have hsp:=jkB ho hlo hst.2
     rcases hsp with hsp|⟨x',hx',hne,hpl⟩
     ·exact absurd (by simpa using hsp) hw
     ·rw[hx]at hx'
      cases hx'
      have hplx:jdz (some xo)=true:=by rw[hf]at hpl; exact hpl
      rcases ih3 with h3|⟨l1,rk,trk,e1,e2,e3,e4⟩
      ·have hr':find r.hp x=some xo:=by
        refine hst.1 x xo hne ?_ hplx h3
        have h2:=jcM (later:=l++[r0]) (tr:=tr) (by simpa using hgt)
        have h4:jaa st0 tr≤jaa st0 (l++r0::tr):=by simpa using h2
        omega
       refine⟨?_,fun _=>trivial,.inl hr'⟩
       simp only[List.cons_append,jai]
       split
       ·first|exact hr' | (rw[if_pos hk]; exact hr')
       ·exact ih1
      ·-- an earlier store waits for the load; this one waits for that one
       have hgk:GoodTr P sp N L tab st0 (rk::trk):=GoodTr.tail (later:=l1) (by rw[←e1]; exact hgt)
       obtain⟨_,ok,hrk⟩:=hgk.inv
       have hkk:=jbj hrk e3
       have hlt:trk.length<(l++r0::tr).length:=by rw[e1]; simp; omega
       have hDk:D (l++r0::tr).length=false:=by
        rw[Bool.eq_false_iff]
        intro hD
        have hdk:D trk.length=true:=by
         obtain⟨mk,hfm⟩:=hfo.1
         rcases jcr hfm trk.length ok hrk.op with h1|h1|h1|h1|h1|h1
         ·omega
         ·rw[hkk.2.1]at h1; cases h1
         ·rw[Nat.zero_add]at h1
          exact jcf ht hc _ trk.length (fun o' ho' e he hb=>hc _ o' ho' hD e he hb) h1
         ·rw[Nat.zero_add]at h1; have:=hlow _ _ h1; omega
         ·rw[hkk.2.2.1]at h1; cases h1.2
         ·have:=h1.2.1; omega
        have:=jcf ht hc trk.length tr.length (fun o' ho' e he hb=>hc _ o' ho' hdk e he hb) e4
        rw[this]at hi; cases hi
       refine⟨?_,fun _=>trivial,.inr ⟨r::l1,rk,trk,by rw[List.cons_append,e1]; rfl,e2,e3,e4⟩⟩
       simp only[List.cons_append,jai,hDk,Bool.false_eq_true,if_false]
       exact ih1
  ·have hoth:=jbx hr hk
   have hnone:find r.nw x=none:=by
    cases hn:find r.nw x with
    |none=>rfl
    |some y =>
     have h1:=(hoth.2.1 x y hn).1
     have h2:=jcM (later:=l++[r0]) (tr:=tr) (by simpa using hgt)
     have h3:jaa st0 tr≤jaa st0 (l++r0::tr):=by simpa using h2
     omega
   refine⟨?_,fun _=>trivial,?_⟩
   ·simp only[List.cons_append,jai]
    split
    ·first|(rw[jam,hnone]; exact ih1)|(rw[if_neg hk,jam,hnone]; exact ih1)
    ·exact ih1
   ·rcases ih3 with h3|⟨l1,rk,trk,e1,e2,e3,e4⟩
    ·left
     show find r.hp x=_
     rw[hoth.1,jam,hnone]; exact h3
    ·right
     exact⟨r::l1,rk,trk,by rw[List.cons_append,e1]; rfl,e2,e3,e4⟩
def jdA [Globs] (P:Program) (sp:jab) (N:Nat) (L:List Oper) (tab:List (List Nat)) (st0:St) (D:Nat→Bool) (later tr:List Rec):Prop :=
 ∀l1 rk l2 ok,later=l1++rk::l2→RecOK P sp N L tab st0 (l2++tr) rk ok→rk.kd=2→D (l2++tr).length=false
theorem jdA.tail {D:Nat→Bool} {r:Rec} {l tr:List Rec} (h:jdA P sp N L tab st0 D (r::l) tr):jdA P sp N L tab st0 D l tr:=fun l1 rk l2 ok e=>h (r::l1) rk l2 ok (by rw[e]; rfl)
theorem jlT {D:Nat→Bool} {tr:List Rec} {h:Nat} (hh:h<jaa st0 tr) :
  ∀{later:List Rec},jdA P sp N L tab st0 D later tr→GoodTr P sp N L tab st0 (later++tr)→find (jai D st0 (later++tr)) h=find (jai D st0 tr) h
 |[],_,_=>rfl
 |r::l,hno,hg=>by
   obtain⟨hgt,o',hr⟩:=GoodTr.inv (tr:=l++tr) hg
   have ih:=jlT hh hno.tail hgt
   simp only[List.cons_append,jai]
   split
   ·rename_i hD
    split
    ·rename_i hk
     rw[hno [] r l o' rfl hr hk]at hD
     cases hD
    ·rename_i hk
     rw[jam]
     have:find r.nw h=none:=by
      cases hn:find r.nw h with
      |none=>rfl
      |some x =>
       have h1:=((jbx hr hk).2.1 h x hn).1
       have h2:=jcM hgt
       omega
     rw[this]
     exact ih
   ·exact ih
theorem jjf {D D':Nat→Bool} {tr:List Rec} {r:Rec} (hi:D tr.length=false) (hbase:jh1 st0)
  (hD1:D' tr.length=true) (hD2:∀j,j≠tr.length→D' j=D j) (hk:r.kd≠2) {h:Nat} :
  ∀{later:List Rec},jdA P sp N L tab st0 D later (r::tr)→GoodTr P sp N L tab st0 (later++r::tr)→find (jai D' st0 (later++r::tr)) h=(find (jai D st0 (later++r::tr)) h).or (find r.nw h)
 |[],_,hg=>by
  cases hg with
  |cons hgt o' hr =>
   simp only[List.nil_append,jai,hD1,hi,if_true,if_neg hk,jam,Bool.false_eq_true,if_false]
   rw[jfW (D:=D) (D':=D') (fun j hj=>hD2 j (by omega))]
   cases hn:find r.nw h with
   |none=>simp
   |some x =>
    have h1:=((jbx hr hk).2.1 h x hn).1
    cases hd:find (jai D st0 tr) h with
    |none=>rfl
    |some y =>
     have:=jqF hbase hgt h y hd
     omega
 |r' :: l,hno,hg=>by
   obtain⟨hgt,o',hr⟩:=GoodTr.inv (tr:=l++r::tr) hg
   have ih:=jjf hi hbase hD1 hD2 hk (h:=h) hno.tail hgt
   simp only[List.cons_append,jai]
   rw[hD2 _ (by simp; omega)]
   split
   ·rename_i hD
    split
    ·rename_i hk'
     rw[hno [] r' l o' rfl hr hk']at hD
     cases hD
    ·simp only[jam,ih,Option.or_assoc]
   ·exact ih
theorem jlU {D D':Nat→Bool} {tr:List Rec} {r:Rec} (hi:D tr.length=false)
  (hD1:D' tr.length=true) (hD2:∀j,j≠tr.length→D' j=D j) (hk:r.kd≠2) (hn:r.nw=[]) :
  ∀{later:List Rec},jai D' st0 (later++r::tr)=jai D st0 (later++r::tr)
 |[]=>by
  simp only[List.nil_append,jai,hD1,hi,if_true,if_neg hk,hn,Bool.false_eq_true,if_false]
  exact jfW (fun j hj=>hD2 j (by omega))
 |r' :: l=>by
  have ih:=jlU hi hD1 hD2 hk hn (later:=l)
  simp only[List.cons_append,jai]
  rw[hD2 _ (by simp; omega),ih]
theorem jd8 {D:Nat→Bool} {i:Nat} (hall:∀j oj,j<i→L[j]?=some oj→(jap oj.op||jav oj.op)=false→D j=true) (hmk:∀j,j<i→jd6 tab j 0 L=true→D j=true) {tr:List Rec} (hg:GoodTr P sp N L tab st0 tr) :
  tr.length≤i→jai D st0 tr=jah st0 tr∧∀h,h<jaa st0 tr→jal D st0 tr h=true:=by
 induction hg with
 |nil=>exact fun _=>⟨rfl,fun _ _=>rfl⟩
 | @cons tr r hgt o hr ih =>
  intro hl
  have hl:tr.length+1≤i:=hl
  have ih:=ih (by omega)
  have key:r.kd≠2→D tr.length=true∨(r.nw=[]∧r.nx=jaa st0 tr):=fun hk=>by
   rcases(jbx hr hk).2.2 with h1|h1|h1
   ·exact .inr h1
   ·exact .inl (hall _ o (by omega) hr.op h1)
   ·exact .inl (hmk _ (by omega) h1.1)
  constructor
  ·simp only[jai]
   show _=r.hp
   by_cases hk:r.kd=2
   ·rw[if_pos (hall _ o (by omega) hr.op (by rw[(jbj hr hk).2.1,(jbj hr hk).2.2.1]; rfl)),if_pos hk]
   ·have h1:=jbx hr hk
    rw[h1.1,if_neg hk,ih.1]
    split
    ·rfl
    ·rename_i hD
     rcases key hk with h2|h2
     ·exact absurd h2 hD
     ·rw[h2.1]; rfl
  ·intro h hh
   have hh:h<r.nx:=hh
   simp only[jal]
   split
   ·rename_i e
    rw[Nat.ble_eq]at e
    by_cases hk:r.kd=2
    ·exact hall _ o (by omega) hr.op (by rw[(jbj hr hk).2.1,(jbj hr hk).2.2.1]; rfl)
    ·rcases key hk with h2|h2
     ·exact h2
     ·omega
   ·rename_i e
    apply ih.2
    rw[Bool.eq_false_iff]at e
    have:¬(jaa st0 tr≤h):=fun hc=>e (Nat.ble_eq_true_of_le hc)
    omega
theorem jgX {D:Nat→Bool} {tr:List Rec}:∀{later:List Rec},(∀l1 rk l2 ok,later=l1++rk::l2→RecOK P sp N L tab st0 (l2++tr) rk ok→D (l2++tr).length=true→rk.kd≠2∧rk.nw=[])→GoodTr P sp N L tab st0 (later++tr)→jai D st0 (later++tr)=jai D st0 tr
 |[],_,_=>rfl
 |r::l,hall,hg=>by
   obtain⟨hgt,o,hr⟩:=GoodTr.inv (tr:=l++tr) hg
   have ih:=jgX (fun l1 rk l2 ok e=>hall (r::l1) rk l2 ok (by rw[e]; rfl)) hgt
   simp only[List.cons_append,jai]
   split
   ·rename_i hD
    have h1:=hall [] r l o rfl hr hD
    rw[if_neg h1.1,h1.2,ih]
    rfl
   ·exact ih
theorem jgY {bef:List Nat} {r:Rec} {tr:List Rec} (hk:r.kd=2):∀{l:List Rec},jcx bef (l++r::tr)=true→tr.length∈bef
 |[],h=>by
  simp only[List.nil_append,jcx,hk,Bool.and_eq_true]at h
  simpa using h.1
 |r' :: l,h=>by
  simp only[List.cons_append,jcx,Bool.and_eq_true]at h
  exact jgY hk h.2
theorem jjg {D:Nat→Bool} {tr:List Rec}:∀{later:List Rec},(∀l1 rk l2 ok,later=l1++rk::l2→RecOK P sp N L tab st0 (l2++tr) rk ok→D (l2++tr).length=true→rk.kd≠2∧rk.nw.all (fun x=>jdU x.2)=true)→GoodTr P sp N L tab st0 (later++tr) →
  ∀x,(x<jaa st0 tr→find (jai D st0 (later++tr)) x=find (jai D st0 tr) x)∧(∀ob,find (jai D st0 (later++tr)) x=some ob→jaa st0 tr≤x→(∀ob,find (jai D st0 tr) x=some ob→x<jaa st0 tr)→jdU ob=true) ∧
   (∀D',(∀j,tr.length≤j→D' j=D j)→jaa st0 tr≤x→(∀ob,find (jai D st0 tr) x=some ob→x<jaa st0 tr)→(∀ob,find (jai D' st0 tr) x=some ob→x<jaa st0 tr)→find (jai D' st0 (later++tr)) x=find (jai D st0 (later++tr)) x) ∧
   (x<jaa st0 tr→∀D',(∀j,tr.length≤j→D' j=D j)→find (jai D' st0 (later++tr)) x=find (jai D' st0 tr) x)
 |[],_,_,x=>⟨fun _=>rfl,fun ob hf hx hk=>absurd (hk ob hf) (by omega),fun D' hD hx h1 h2=>by
   cases hf:find (jai D' st0 tr) x with
   |some ob=>exact absurd (h2 ob hf) (by omega)
   |none=>cases hg:find (jai D st0 tr) x with
    |some ob=>exact absurd (h1 ob hg) (by omega)
    |none=>simp[hf,hg],fun _ _ _=>rfl⟩
 |r::l,hall,hg,x=>by
   obtain⟨hgt,o,hr⟩:=GoodTr.inv (tr:=l++tr) hg
   have ih:=jjg (later:=l) (fun l1 rk l2 ok e=>hall (r::l1) rk l2 ok (by rw[e]; rfl)) hgt x
   have hnx:jaa st0 tr≤jaa st0 (l++tr):=jcM hgt
   simp only[List.cons_append,jai]
   by_cases hD:D (l++tr).length=true
   ·have hk2:r.kd≠2∧r.nw.all (fun x=>jdU x.2)=true:=hall [] r l o rfl hr hD
    have hoth:=jbx hr hk2.1
    have hnone:x<jaa st0 tr→find r.nw x=none:=fun hx=>by
     cases hn:find r.nw x with
     |none=>rfl
     |some y=>have:=(hoth.2.1 x y hn).1; omega
    rw[if_pos hD,if_neg hk2.1]
    refine⟨fun hx=>by rw[jam,hnone hx]; exact ih.1 hx,fun ob hf hx hkey=>?_,fun D' hD' hx h1 h2=>?_,fun hx D' hD'=>?_⟩
    ·rw[jam]at hf
     cases hn:find r.nw x with
     |some y =>
      rw[hn]at hf; cases hf
      exact List.all_eq_true.1 hk2.2 _ (jh4 hn)
     |none=>rw[hn]at hf; exact ih.2.1 ob hf hx hkey
    ·rw[if_pos (by rw[hD' _ (by simp)]; exact hD),if_neg hk2.1,jam,jam,ih.2.2.1 D' hD' hx h1 h2]
    ·rw[if_pos (by rw[hD' _ (by simp)]; exact hD),if_neg hk2.1,jam,hnone hx]; exact ih.2.2.2 hx D' hD'
   ·rw[if_neg hD]
    refine⟨ih.1,ih.2.1,fun D' hD' hx h1 h2=>?_,fun hx D' hD'=>?_⟩
    ·rw[if_neg (by rw[hD' _ (by simp)]; exact hD)]; exact ih.2.2.1 D' hD' hx h1 h2
    ·rw[if_neg (by rw[hD' _ (by simp)]; exact hD)]; exact ih.2.2.2 hx D' hD'
end
end Go.Sx
end

section
open Go.RowKit
namespace Go.Sx
theorem O.ok_eqB {p:Nat→Bool} {ρ ρ':Env} {B:Kd} {h:Nat} {w:World} (ha:∀x,p x=true→ρ' x=ρ x) (hh:ρ' h=ρ h):∀{o:O},o.allB p=true→o.ok ρ B w h→o.ok ρ' B w h
 | .box ty cs,hl,⟨k,h1,h2,h3⟩=>⟨k,hh.trans h1,h2,by
   rw[h3]; congr 3; exact List.map_congr_left fun a ha'=>(C.val_eqB ha (List.all_eq_true.1 hl a ha')).symm⟩
 | .row ty c,_,hr=>by unfold O.ok at *; rw[hh]; exact hr
 | .ext c,_,hr=>by unfold O.ok at *; rw[hh]; exact hr
 | .view r c _,hl,hr=>by
  have hl':p r=true:=hl
  unfold O.ok at *; rw[hh]; simp only; exact hr
 | .lbox ty e n cs,hl,hr=>by
  have e1:cs.map (C.val ρ')=cs.map (C.val ρ):=List.map_congr_left fun a ha'=>C.val_eqB ha (List.all_eq_true.1 hl a ha')
  unfold O.ok at *; simp only; rw[hh,e1]; exact hr
 | .elist e n cs,hl,⟨h1,h2,h3,h4⟩=>by
  unfold O.ok; simp only; rw[hh]
  exact⟨h1,h2,h3,fun m c hc=>by rw[C.val_eqB ha (List.all_eq_true.1 hl c (List.mem_of_getElem? hc))]; exact h4 m c hc⟩
 | .lview r e n cs,hl,⟨h1,h2,h3⟩=>by
  simp only[O.allB,Bool.and_eq_true]at hl
  unfold O.ok; simp only; rw[hh]
  exact⟨h1,h2,fun m c hc=>by rw[C.val_eqB ha (List.all_eq_true.1 hl.2 c (List.mem_of_getElem? hc))]; exact h3 m c hc⟩
 | .dead,_,_=>trivial
 | .nan _,_,hr=>by unfold O.ok at *; rw[hh]; exact hr
 | .err,_,hr=>by unfold O.ok at *; rw[hh]; exact hr
 | .atom,_,hr=>by unfold O.ok at *; rw[hh]; exact hr
 | .ebox cs,hl,⟨k,o,h1,h2,h3⟩=>⟨k,o,hh.trans h1,h2,fun j c hj=>by rw[C.val_eqB ha (List.all_eq_true.1 hl c (List.mem_of_getElem? hj))]; exact h3 j c hj⟩
 | .arr _ _ _ _,_,hr=>by unfold O.ok at *; rw[hh]; exact hr
 | .xext _,_,hr=>by unfold O.ok at *; rw[hh]; exact hr
 | .map _,_,hr=>by unfold O.ok at *; rw[hh]; exact hr
 | .rrow _,_,hr=>by unfold O.ok at *; rw[hh]; exact hr
 | .fext _,_,hr=>by unfold O.ok at *; rw[hh]; exact hr
 | .xrow _ _,_,hr=>by unfold O.ok at *; rw[hh]; exact hr
 | .mrow _ _ _ _,_,hr=>by unfold O.ok at *; rw[hh]; exact hr
 | .sub r i e j ty c,hl,hr=>by
  have hl':p r=true:=hl
  unfold O.ok at *; simp only; rw[hh,ha r hl']; exact hr
def jby (ρ ρ':Env) (lo hi:Nat):Env:=fun h=>match Nat.ble lo h&&Nat.blt h hi with
 |true=>ρ' h
 |false=>ρ h
section
variable [Globs] {P:Program} {sp:jab} {B0 B B2:Kd} {N n0:Nat} {L:List Oper} {tab:List (List Nat)} {st0:St} {ρ0:Env} {w0:World} {ds:List Deferred}
structure At [Globs] (P:Program) (sp:jab) (N:Nat) (L:List Oper) (tab:List (List Nat)) (st0:St) (D D':Nat→Bool) (later:List Rec) (r:Rec) (tr:List Rec) (o:Oper):Prop where
 good:GoodTr P sp N L tab st0 (later++r::tr)
 len:(later++r::tr).length=L.length
 ok:RecOK P sp N L tab st0 tr r o
 slots:jbP L tab 0 L=true
 edges:jcU 0 L=true
 tabok:jce L tab
 closed:jb7 L D
 out:D tr.length=false
 bef:∀j,j∈tab.getD tr.length []→D j=true
 D1:D' tr.length=true
 D2:∀j,j≠tr.length→D' j=D j
 base:jh1 st0
 baseTm:∀t v,jay st0.tm t=some v→v.lt st0.nx
 n0:n0≤st0.nx
variable {D D':Nat→Bool} {later tr:List Rec} {r:Rec} {o:Oper} {a:Act} {w w':World} {ρ ρ':Env}
theorem At.low (h:At (n0:=n0) P sp N L tab st0 D D' later r tr o):∀i k,k∈tab.getD i []→k<i:=jqC h.edges h.tabok
theorem At.gr (h:At (n0:=n0) P sp N L tab st0 D D' later r tr o):GoodTr P sp N L tab st0 (r::tr):=GoodTr.tail h.good
theorem At.gt (h:At (n0:=n0) P sp N L tab st0 D D' later r tr o):GoodTr P sp N L tab st0 tr:=h.gr.inv.1
theorem At.mono (h:At (n0:=n0) P sp N L tab st0 D D' later r tr o):∀j,D j=true→D' j=true:=fun j hj=>by
 by_cases e:j=tr.length
 ·rw[e]; exact h.D1
 ·rw[h.D2 j e]; exact hj
theorem At.nx (h:At (n0:=n0) P sp N L tab st0 D D' later r tr o):r.nx≤jaa st0 (later++r::tr):=jcM (tr:=r::tr) h.good
theorem At.alive_mono (h:At (n0:=n0) P sp N L tab st0 D D' later r tr o) {x:Nat} (hx:jaG st0 (later++r::tr) D x=true):jaG st0 (later++r::tr) D' x=true:=by
 simp only[jaG,Bool.and_eq_true]at hx ⊢
 exact⟨hx.1,jen h.mono _ _ hx.2⟩
theorem At.alive_out (h:At (n0:=n0) P sp N L tab st0 D D' later r tr o) {x:Nat} (hx:jaG st0 (later++r::tr) D x=true):¬(jaa st0 tr≤x∧x<r.nx):=by
 rintro ⟨h1,h2⟩
 simp only[jaG,Bool.and_eq_true]at hx
 rw[joX h.good h1 h2,h.out]at hx
 cases hx.2
theorem At.alive_new (h:At (n0:=n0) P sp N L tab st0 D D' later r tr o) {q:Nat→Bool} (hq:∀j,q j=true→D' j=true) {x:Nat}
  (hx:(Nat.blt x r.nx&&(Nat.ble (jaa st0 tr) x||jal q st0 tr x))=true):jaG st0 (later++r::tr) D' x=true:=by
 simp only[Bool.and_eq_true,Nat.blt_eq,Bool.or_eq_true]at hx
 simp only[jaG,Bool.and_eq_true,Nat.blt_eq]
 refine⟨Nat.lt_of_lt_of_le hx.1 h.nx,?_⟩
 by_cases hle:jaa st0 tr≤x
 ·rw[joX h.good hle hx.1]; exact h.D1
 ·have h1:jal q st0 tr x=true:=by
   rcases hx.2 with h1|h1
   ·rw[Nat.ble_eq]at h1; exact absurd h1 hle
   ·exact h1
  have:later++r::tr=(later++[r])++tr:=by simp
  rw[this,jgU (by rw[←this]; exact h.good) (by omega)]
  exact jen hq _ _ h1
theorem jgZ (h:At (n0:=n0) P sp N L tab st0 D D' later r tr o) {x:Nat} (hx:jaG st0 (later++r::tr) D x=true):jby ρ ρ' (jaa st0 tr) r.nx x=ρ x:=by
 have:=h.alive_out hx
 unfold jby
 split
 ·rename_i e
  simp only[Bool.and_eq_true,Nat.ble_eq,Nat.blt_eq]at e
  exact absurd e this
 ·rfl
theorem jdd {lo hi:Nat} (ha:jac lo ρ ρ'):jac hi ρ' (jby ρ ρ' lo hi):=by
 intro x hx
 unfold jby
 split
 ·rfl
 ·rename_i e
  have:¬lo≤x:=fun hc=>by
   rw[Bool.eq_false_iff]at e
   exact e (by simp only[Bool.and_eq_true,Nat.ble_eq,Nat.blt_eq]; exact⟨hc,hx⟩)
  exact(ha x (by omega)).symm
theorem jh5 {lo hi:Nat} {m:Nat} (hm:m≤lo) (ha:jac m ρ0 ρ):jac m ρ0 (jby ρ ρ' lo hi):=by
 intro x hx
 unfold jby
 split
 ·rename_i e
  simp only[Bool.and_eq_true,Nat.ble_eq,Nat.blt_eq]at e
  omega
 ·exact ha x hx
theorem At.n0le (h:At (n0:=n0) P sp N L tab st0 D D' later r tr o):n0≤jaa st0 tr:=Nat.le_trans h.n0 (jiG h.gt)
theorem jkC:∀{hp:Hp} {x:Nat},find (hp.map fun y=>(y.1,O.atom)) x=(find hp x).map fun _=>O.atom
 |[],_=>rfl
 |(k,o)::hp,x=>by
  simp only[List.map_cons,find]
  split
  ·rfl
  ·exact jkC
theorem jg0 (h:At (n0:=n0) P sp N L tab st0 D D' later r tr o) (hinv:Inv ds L st0 B0 B N n0 ρ0 w0 (later++r::tr) D a w ρ) {ρ2:Env} (hE:∀x,jaG st0 (later++r::tr) D x=true→ρ2 x=ρ x)
  (hnew:∀x,jaa st0 tr≤x→x<r.nx→C.one r.hp (.o x)=true→(ρ2 x).oneCell'=true):∀x,jaG st0 (later++r::tr) D' x=true→jbv st0 (later++r::tr) x=true→(ρ2 x).oneCell'=true:=by
 intro x hx hb
 by_cases hn:jaa st0 tr≤x∧x<r.nx
 ·rw[jpu h.good hn.1 hn.2]at hb
  exact hnew x hn.1 hn.2 hb
 ·have hx2:=hx
  simp only[jaG,Bool.and_eq_true,Nat.blt_eq]at hx2
  have hal:jaG st0 (later++r::tr) D x=true:=by
   simp only[jaG,Bool.and_eq_true,Nat.blt_eq]
   refine⟨hx2.1,?_⟩
   rw[jrM (q:=D') (q':=D) (fun j hj=>(h.D2 j hj).symm) hn h.good hx2.1]
   exact hx2.2
  rw[hE x hal]
  exact hinv.one x hal hb
theorem jg1 (h:At (n0:=n0) P sp N L tab st0 D D' later r tr o) (hinv:Inv ds L st0 B0 B N n0 ρ0 w0 (later++r::tr) D a w ρ) (hk:r.kd≠2) (hn:r.nw=[]) (hnx:r.nx=jaa st0 tr)
  (hv:r.v.allB (fun x=>Nat.blt x r.nx&&(Nat.ble (jaa st0 tr) x||jal (fun j=>(tab.getD tr.length []).contains j) st0 tr x))=true) :
  Inv ds L st0 B0 B N n0 ρ0 w0 (later++r::tr) D' (a.put o.dst (r.v.val ρ)) w ρ:=by
 have he:=jlU (st0:=st0) (later:=later) h.out h.D1 h.D2 hk hn
 have hv':r.v.allB (jaG st0 (later++r::tr) D')=true:=V.allB_mono (fun x hx=>h.alive_new (fun j hj=>h.mono j (h.bef j (by simpa using hj))) hx) hv
 refine⟨jiH h.slots h.tabok h.closed h.out h.ok.op h.ok.dst h.D1 h.D2 hinv (fun _ _=>rfl) hv',by rw[jdT]; exact hinv.size,by rw[jcS]; exact hinv.defers,by rw[he]; exact hinv.heap,?_,hinv.le,hinv.agree,hinv.below,jg0 h hinv (fun _ _=>rfl) (fun x h1 h2 _=>by omega),hinv.gr,hinv.le0⟩
 intro x ob hf
 rw[he]at hf
 have:=hinv.hal x ob hf
 exact⟨h.alive_mono this.1,O.allB_mono (fun y hy=>h.alive_mono hy) this.2⟩
theorem jna (h:At (n0:=n0) P sp N L tab st0 D D' later r tr o) (hinv:Inv ds L st0 B0 B N n0 ρ0 w0 (later++r::tr) D a w ρ) (hno:jdA P sp N L tab st0 D later (r::tr)) (hk:r.kd≠2)
  (hv:r.v.allB (fun x=>Nat.blt x r.nx&&(Nat.ble (jaa st0 tr) x||jal (fun j=>(tab.getD tr.length []).contains j) st0 tr x))=true)
  (hnw:∀x ob,find r.nw x=some ob→ob.allB (fun x=>Nat.blt x r.nx&&(Nat.ble (jaa st0 tr) x||jal (fun j=>(tab.getD tr.length []).contains j) st0 tr x))=true)
  (hag:jac (jaa st0 tr) ρ ρ') (hbl:Bel B w w') (hbw:Below w.heap.size w w') (g:Grow B B2 true w w') (hnew:HRel ρ' B2 r.nw r.nx w') (hfresh:∀x ob k,find r.nw x=some ob→ob.blk (ρ' x)=some k→w.heap.size≤k) :
  Inv ds L st0 B0 B2 N n0 ρ0 w0 (later++r::tr) D' (a.put o.dst (r.v.val (jby ρ ρ' (jaa st0 tr) r.nx))) w' (jby ρ ρ' (jaa st0 tr) r.nx):=by
 have hbl0:Bel B0 w w':=hbl.mono hinv.gr.le.kp
 have hq:∀j,(tab.getD tr.length []).contains j=true→D' j=true:=fun j hj=>h.mono j (h.bef j (by simpa using hj))
 have hv':r.v.allB (jaG st0 (later++r::tr) D')=true:=V.allB_mono (fun x hx=>h.alive_new hq hx) hv
 have hE1:∀x,jaG st0 (later++r::tr) D x=true→jby ρ ρ' (jaa st0 tr) r.nx x=ρ x:=fun x hx=>jgZ h hx
 have hE2:jac r.nx ρ' (jby ρ ρ' (jaa st0 tr) r.nx):=jdd hag
 have hins:∀x,find (jai D' st0 (later++r::tr)) x=(find (jai D st0 (later++r::tr)) x).or (find r.nw x):=fun x =>
  jjf h.out h.base h.D1 h.D2 hk hno h.good
 have hkey:∀k ob,find r.nw k=some ob→jaa st0 tr≤k∧k<r.nx:=(jbx h.ok hk).2.1
 have hnew':=hnew.agree hE2
 refine⟨jiH h.slots h.tabok h.closed h.out h.ok.op h.ok.dst h.D1 h.D2 hinv hE1 hv',by rw[jdT]; exact hinv.size,by rw[jcS]; exact hinv.defers,⟨?_,?_,(hinv.heap.glob.bel hbl).sub g.le.kp⟩,?_,g.old (hbl.old hinv.le),jh5 h.n0le hinv.agree,hinv.below.trans hbl0,jg0 h hinv hE1 (fun x h1 h2 h3=>by
  rw[hE2 x h2]
  refine C.one_val (c:=.o x) hnew ?_
  have hh:=(jbx h.ok hk).1
  have hnone:find (jah st0 tr) x=none:=by
   cases hf:find (jah st0 tr) x with
   |none=>rfl
   |some y=>have:=(keys h.gt h.base x y hf).1; omega
  simp only[C.one,hh,jam,hnone]at h3
  simp only[C.one]
  cases hf:find r.nw x with
  |none=>rw[hf]at h3; cases h3
  |some y=>rw[hf]at h3; exact h3),(hinv.gr.trans g.weak (Nat.le_refl _) hbl.size).weak,hbl0.old hinv.le0⟩
 ·intro x ob hf
  rw[hins]at hf
  cases hd:find (jai D st0 (later++r::tr)) x with
  |some y =>
   rw[hd]at hf
   cases hf
   have h1:=hinv.heap.ok x ob hd
   have h2:=hinv.hal x ob hd
   exact⟨h1.1,h1.2.1,O.ok_eqB hE1 (hE1 x h2.1) h2.2 (O.ok_moreB g.le (g.mono rfl).2 (O.ok_below hbw hinv.le h1.2.2) fun k hk hB2=>by
    have hb:=O.blk_lt h1.2.2 hk
    rcases(g.mono rfl).1 k hB2 with h3|h3
    ·exact hb.2 h3
    ·exact absurd hb.1 (by omega))⟩
  |none =>
   rw[hd]at hf
   have hf:find r.nw x=some ob:=hf
   have h1:=hnew'.ok x ob hf
   exact⟨Nat.lt_of_lt_of_le h1.1 h.nx,O.lt_mono h.nx h1.2.1,h1.2.2⟩
 ·intro x ob x' ob' k hf hf' hne hb
  rw[hins]at hf hf'
  have old:∀y oy,find (jai D st0 (later++r::tr)) y=some oy→∀k,oy.blk (jby ρ ρ' (jaa st0 tr) r.nx y)=some k→k<w.heap.size:=fun y oy hy k hk=>by
   rw[hE1 y (hinv.hal y oy hy).1]at hk
   exact(O.blk_lt (hinv.heap.ok y oy hy).2.2 hk).1
  have new:∀y oy,find r.nw y=some oy→∀k,oy.blk (jby ρ ρ' (jaa st0 tr) r.nx y)=some k→w.heap.size≤k:=fun y oy hy k hk=>by
   rw[hE2 y (hkey y oy hy).2]at hk
   exact hfresh y oy k hy hk
  cases hd:find (jai D st0 (later++r::tr)) x with
  |some y =>
   rw[hd]at hf
   cases hf
   cases hd':find (jai D st0 (later++r::tr)) x' with
   |some y' =>
    rw[hd']at hf'
    cases hf'
    rw[hE1 x (hinv.hal x ob hd).1]at hb
    rw[hE1 x' (hinv.hal x' ob' hd').1]
    exact hinv.heap.apart x ob x' ob' k hd hd' hne hb
   |none =>
    rw[hd']at hf'
    intro hb'
    have h1:=old x ob hd k hb
    have h2:=new x' ob' hf' k hb'
    omega
  |none =>
   rw[hd]at hf
   cases hd':find (jai D st0 (later++r::tr)) x' with
   |some y' =>
    rw[hd']at hf'
    cases hf'
    intro hb'
    have h1:=old x' ob' hd' k hb'
    have h2:=new x ob hf k hb
    omega
   |none =>
    rw[hd']at hf'
    exact hnew'.apart x ob x' ob' k hf hf' hne hb
 ·intro x ob hf
  rw[hins]at hf
  cases hd:find (jai D st0 (later++r::tr)) x with
  |some y =>
   rw[hd]at hf
   cases hf
   have:=hinv.hal x ob hd
   exact⟨h.alive_mono this.1,O.allB_mono (fun y hy=>h.alive_mono hy) this.2⟩
  |none =>
   rw[hd]at hf
   have hf:find r.nw x=some ob:=hf
   have h1:=hkey x ob hf
   refine⟨h.alive_new (q:=fun _=>false) (fun _ hj=>by cases hj) ?_,O.allB_mono (fun y hy=>h.alive_new hq hy) (hnw x ob hf)⟩
   simp only[Bool.and_eq_true,Nat.blt_eq,Bool.or_eq_true]
   exact⟨h1.2,.inl (Nat.ble_eq_true_of_le h1.1)⟩
theorem jfI (h:At (n0:=n0) P sp N L tab st0 D D' later r tr o) {lf mk:Bool} (hf:jaT tab tr.length lf mk 0 L=true):∀j oj,j<tr.length→L[j]?=some oj→(jap oj.op||jav oj.op)=false→D j=true:=fun j oj hij hj hs=>by
 simp only[Bool.or_eq_false_iff]at hs
 rcases jcr hf j oj hj with h1|h1|h1|h1|h1|h1
 ·omega
 ·rw[hs.1]at h1; cases h1
 ·rw[Nat.zero_add]at h1; exact h.bef _ h1
 ·rw[Nat.zero_add]at h1; have:=h.low _ _ h1; omega
 ·rw[hs.2]at h1; cases h1.2
 ·have:=h1.2.1; omega
theorem jfJ (h:At (n0:=n0) P sp N L tab st0 D D' later r tr o) (hns:jap o.op=false) (hnl:jav o.op=false) (hna:jfF o.op=false):∀j,j<tr.length→jd6 tab j 0 L=true→D j=true:=fun j hij hm=>by
 rcases jgW hm tr.length o h.ok.op with h1|h1|h1|h1
 ·omega
 ·rw[hns,hnl]at h1; cases h1
 ·rw[Nat.zero_add]at h1; exact h.bef _ h1
 ·rw[hna]at h1; cases h1
theorem joZ (h:At (n0:=n0) P sp N L tab st0 D D' later r tr o) (hns:jap o.op=false) (hnl:jav o.op=false):jdA P sp N L tab st0 D later (r::tr):=fun l1 rk l2 ok e hr hk=>by
 obtain⟨mk,hf⟩:=(jbj hr hk).1
 exact jqG hns hnl h.ok.op h.low h.tabok h.closed h.out (by simp; omega) hf
theorem js4 (h:At (n0:=n0) P sp N L tab st0 D D' later r tr o) (hm:jd6 tab tr.length 0 L=true):jdA P sp N L tab st0 D later (r::tr):=fun l1 rk l2 ok e hr hk=>by
 have hke:=jbj hr hk
 rcases jgW hm _ ok hr.op with h1|h1|h1|h1
 ·simp at h1; omega
 ·rw[hke.2.1,hke.2.2.1]at h1; cases h1
 rotate_left
 ·rw[hke.2.2.2]at h1; cases h1
 ·rw[Nat.zero_add]at h1
  rw[Bool.eq_false_iff]
  intro hD
  have:=jcf h.tabok h.closed _ tr.length (fun o' ho' e he hb=>h.closed _ o' ho' hD e he hb) h1
  rw[h.out]at this
  cases this
def jkD (B:Kd) (E:Nat→Prop) (hE:∀k,E k→¬B.all k):Kd :=
 ⟨fun k=>B.kp k∨E k,B.fr,B.mu,fun k h=>.inl (B.sub k h),fun k h=>h.elim (B.dis k) fun h=>by
  cases hm:B.mu k with
  |none=>rfl
  |some g=>exact absurd (.inr (by rw[hm]; simp)) (hE k h)⟩
def jgk (B:Kd) (E:Nat→Prop) (hE:∀k,B.fr k→¬E k):Kd :=
 ⟨fun k=>B.kp k∧¬E k,B.fr,B.mu,fun k h=>⟨B.sub k h,hE k h⟩,fun k h=>B.dis k h.1⟩
theorem O.ok_minus {E:Nat→Prop} {hE:∀k,B.fr k→¬E k} {x:Nat} (hn:∀k,¬B.all k→¬(jgk B E hE).all k):∀{o:O},o.ok ρ B w x→jgR o=false→o.ok ρ (jgk B E hE) w x
 | .box _ _,⟨k,h1,h2,h3⟩,_=>⟨k,h1,hn k h2,h3⟩
 | .row _ _,⟨h1,h2⟩,_=>⟨h1,fun k hk=>hn k (h2 k hk)⟩
 | .ext _,_,hd=>by cases hd
 | .view _ _ _,h,_=>h
 | .dead,_,_=>trivial
 | .nan _,h,_=>h
 | .ebox _,_,hd=>by cases hd
 | .arr _ _ _ _,⟨b,h1,h2,h3⟩,_=>⟨b,h1,hn b h2,h3⟩
 | .xext _,_,hd=>by cases hd
 | .map _,⟨b,e,c,h1,h2,h3⟩,_=>⟨b,e,c,h1,hn b h2,h3⟩
 | .rrow _,⟨h1,h2⟩,_=>⟨h1,fun k hk=>⟨hn k (h2 k hk).1,(h2 k hk).2⟩⟩
 | .fext _,h,_=>h
 | .xrow _ _,⟨us,h1,h2,h3⟩,_=>⟨us,h1,h2,fun k hk=>hn k (h3 k hk)⟩
 | .mrow _ _ _ _,⟨us,h1,h2,h3,h4⟩,_=>⟨us,h1,fun i j a b c=>let ⟨u,p,q⟩:=h2 i j a b c; ⟨u,p,NC.own_mono (B:=B) (B':=jgk B E hE) (fun _ _ h=>h) q⟩,h3,fun k hk=>hn k (h4 k hk)⟩
 | .sub _ _ _ _ _ _,h,_=>h
 | .lbox _ _ _ _,⟨h1,h2⟩,_=>⟨h1,fun k hk=>hn k (h2 k hk)⟩
 | .lview _ _ _ _,h,_=>h
 | .elist _ _ _,_,hd=>by cases hd
 | .err,h,_=>h
 | .atom,h,_=>h
theorem jpw {o:O} {x:Nat} (hd:jgR o=true) (hb:Bel B.kp w w') (hs:∀k,B.kp k→B2.kp k) (h:o.ok ρ B w x):o.ok ρ B2 w' x:=by
 cases o with
 |ext c=>exact⟨h.1.below hb h.2,jaC hs h.2⟩
 |ebox cs =>
  obtain⟨k,o,h1,h2,h3⟩:=h
  exact⟨k,o,h1,hs k h2,fun j c hj=>(hb.cell (p:=⟨k,o+j,none⟩) h2).trans (h3 j c hj)⟩
 |xext X=>exact(IsX.bel h hb).mono hs
 |elist e n cs =>
  obtain⟨⟨q,cap,h0,h1,h2⟩,h3,h4,h5⟩:=h
  refine⟨⟨q,cap,h0,h1,h2⟩,jaC hs h3,h4,fun m c hc=>?_⟩
  have hn:0<n:=by
   rcases Nat.eq_zero_or_pos n with e0|e0
   ·subst e0
    rw[Nat.zero_mul]at h4
    rw[List.length_eq_zero_iff.1 h4]at hc
    cases hc
   ·exact e0
  obtain⟨b,off,rfl⟩:=h2 hn
  have hB:=h3 _ _ _ h0 hn
  refine(hb.cell ?_).trans (h5 m c hc)
  rw[h0]
  exact hB
 |_=>cases hd
theorem jrO {o:O} {x:Nat} (ho:jdU o=true) (hw:∀k,o.blk (ρ x)=some k→w'.heap[k]?=w.heap[k]?) (hB:∀k,o.blk (ρ x)=some k→¬B2.all k) (h:o.ok ρ B w x):o.ok ρ B2 w' x:=by
 have own:∀{ty e n:Nat} {v:Value} {cs:List Value},(∀k,v.ownBlock=some k→w'.heap[k]?=w.heap[k]?)→w.ownsRow 0 ty e v n cs→w'.ownsRow 0 ty e v n cs:=fun hw hr=>by
  refine⟨hr.1,?_⟩
  rcases hr.2 with hn|⟨g,cap,cur,h1,h2,h3,h4⟩
  ·exact .inl hn
  ·exact .inr ⟨g,cap,cur,h1,h2,(hw g (by rw[h1]; rfl)).trans h3,h4⟩
 cases o with
 |row ty c=>exact⟨own (fun k hk=>hw k hk) h.1,fun k hk=>hB k hk⟩
 |box ty cs=>obtain⟨k,h1,h2,h3⟩:=h; exact⟨k,h1,hB k (by simp[O.blk,h1,base]),(hw k (by simp[O.blk,h1,base])).trans h3⟩
 |lbox ty e n cs=>exact⟨own (fun k hk=>hw k hk) h.1,fun k hk=>hB k hk⟩
 |arr ty k e r=>obtain⟨g,h1,h2,h3⟩:=h; exact⟨g,h1,hB g (by simp[O.blk,h1,base]),(hw g (by simp[O.blk,h1,base])).trans h3⟩
 |_=>cases ho
def jc8 (st0:St) (T:List Rec) (D:Nat→Bool) (ρ:Env) (n k:Nat):Prop:=∃x ob,n≤x∧find (jai D st0 T) x=some ob∧ob.blk (ρ x)=some k
theorem jlt (h:At (n0:=n0) P sp N L tab st0 D D' later r tr o) (hk:r.kd=2) (hns:jap o.op=false) (hnl:jav o.op=false) {lf mk:Bool} (hf:jaT tab tr.length lf mk 0 L=true) :
  ∀l1 rk l2 ok,later=l1++rk::l2→RecOK P sp N L tab st0 (l2++r::tr) rk ok→D (l2++r::tr).length=true→rk.kd≠2∧rk.nw.all (fun x=>jdU x.2)=true∧(mk=false→rk.nw=[]):=by
 intro l1 rk l2 ok e hr hD
 have hlt:tr.length<(l2++r::tr).length:=by simp; omega
 have hk2:rk.kd≠2:=fun hk2=>by
  rw[joZ h hns hnl l1 rk l2 ok e hr hk2]at hD
  cases hD
 refine⟨hk2,?_⟩
 have mkr:jap ok.op=false→jav ok.op=false→mk=true∧jgQ ok.op=true∧tr.length∉tab.getD (l2++r::tr).length []:=fun h1 h2=>jpv hr.op h1 h2 h.low h.tabok h.closed h.out hlt hf hD
 cases hr.kind with
 |skip g e=>rw[e]; exact⟨rfl,fun _=>rfl⟩
 |pure g ob hs ho hk e=>rw[e]; exact⟨rfl,fun _=>rfl⟩
 |built g hb0 ob hs ho hk e=>rw[e]; exact⟨rfl,fun _=>rfl⟩
 |load g hp hl x xo hx hf hb hst ob hs ho hk e=>rw[e]; exact⟨rfl,fun _=>rfl⟩
 |mono g hp hl hm res hs ho hk hnk e =>
  have hlm:=mkr hp hl
  rw[e]
  refine⟨?_,fun hc=>by rw[hlm.1]at hc; cases hc⟩
  unfold jkz at hnk
  split at hnk
  ·rename_i hal
   exact absurd (jgY ‹r.kd=2› hal) hlm.2.2
  ·exact hnk
 |mload g hp hl hmk hal hm res hs ho hk e =>
  have h1:=jgY ‹r.kd=2› hal
  have:=jcf h.tabok h.closed _ tr.length (fun o' ho' e he hb=>h.closed _ o' ho' hD e he hb) h1
  rw[h.out]at this
  cases this
 |effect g hp hl hmo mk hf res hs ho hk hmk e=>exact absurd (by rw[e]) hk2
theorem jnb (h:At (n0:=n0) P sp N L tab st0 D D' later r tr o) (hk:r.kd=2) (hns:jap o.op=false) (hnl:jav o.op=false) {lf mk:Bool} (hf:jaT tab tr.length lf mk 0 L=true) (hkey:∀x ob,find r.hp x=some ob→x<r.nx) (x:Nat) :
  (x<r.nx→find (jai D st0 (later++r::tr)) x=find (jah st0 tr) x)∧(x<r.nx→find (jai D' st0 (later++r::tr)) x=find r.hp x) ∧
   (r.nx≤x→find (jai D' st0 (later++r::tr)) x=find (jai D st0 (later++r::tr)) x∧∀ob,find (jai D st0 (later++r::tr)) x=some ob→jdU ob=true):=by
 have e1:jai D st0 (r::tr)=jah st0 tr:=by
  simp only[jai,h.out,Bool.false_eq_true,if_false]
  exact(jd8 (jfI h hf) (jfJ h hns hnl (jbj h.ok hk).2.2.2) h.gt (Nat.le_refl _)).1
 have e2:jai D' st0 (r::tr)=r.hp:=by simp only[jai,h.D1,hk,if_true]
 have hm:=jjg (D:=D) (tr:=r::tr) (later:=later) (fun l1 rk l2 ok e hr hD=>let q:=jlt h hk hns hnl hf l1 rk l2 ok e hr hD; ⟨q.1,q.2.1⟩) h.good x
 have hD':∀j,(r::tr).length≤j→D' j=D j:=fun j hj=>h.D2 j (by simp at hj; omega)
 have hk1:∀ob,find (jai D st0 (r::tr)) x=some ob→x<r.nx:=fun ob hf=>by
  rw[e1]at hf
  exact Nat.lt_of_lt_of_le (keys h.gt h.base x ob hf).1 h.ok.nx_le
 have hk2:∀ob,find (jai D' st0 (r::tr)) x=some ob→x<r.nx:=fun ob hf=>by
  rw[e2]at hf
  exact hkey x ob hf
 refine⟨fun hx=>by rw[←e1]; exact hm.1 hx,fun hx=>by rw[←e2]; exact hm.2.2.2 hx D' hD',fun hx=>⟨hm.2.2.1 D' hD' hx hk1 hk2,fun ob hob=>hm.2.1 ob hob hx hk1⟩⟩
theorem jde (hinv:Inv ds L st0 B0 B N n0 ρ0 w0 (later++r::tr) D a w ρ):∀k,jc8 st0 (later++r::tr) D ρ r.nx k→¬B.all k:=fun k ⟨x,ob,_,hf,hb⟩=>(O.blk_lt (hinv.heap.ok x ob hf).2.2 hb).2
theorem jrP (h:At (n0:=n0) P sp N L tab st0 D D' later r tr o) (hinv:Inv ds L st0 B0 B N n0 ρ0 w0 (later++r::tr) D a w ρ) (hk:r.kd=2) (hns:jap o.op=false) (hnl:jav o.op=false) {lf mk:Bool} (hf:jaT tab tr.length lf mk 0 L=true) (hkey:∀x ob,find r.hp x=some ob→x<r.nx) :
  HRel ρ (jkD B (jc8 st0 (later++r::tr) D ρ r.nx) (jde hinv)) (jah st0 tr) (jaa st0 tr) w∧Old (jkD B (jc8 st0 (later++r::tr) D ρ r.nx) (jde hinv)) w:=by
 have at1:∀x ob,find (jah st0 tr) x=some ob→find (jai D st0 (later++r::tr)) x=some ob:=fun x ob hx=>by
  rw[(jnb h hk hns hnl hf hkey x).1 (Nat.lt_of_lt_of_le (keys h.gt h.base x ob hx).1 h.ok.nx_le)]
  exact hx
 constructor
 ·refine⟨fun x ob hx=>⟨(keys h.gt h.base x ob hx).1,(keys h.gt h.base x ob hx).2,?_⟩,fun x ob x' ob' k hx hx'=>hinv.heap.apart x ob x' ob' k (at1 x ob hx) (at1 x' ob' hx'),hinv.heap.glob.sub fun k hk=>.inl hk⟩
  have h1:=(hinv.heap.ok x ob (at1 x ob hx)).2.2
  refine O.ok_moreB (B2:=jkD B (jc8 st0 (later++r::tr) D ρ r.nx) (jde hinv)) ⟨fun k hk=>.inl hk,fun k hk=>hk⟩ (fun k g hg=>hg) h1 fun k hk' hc=>?_
  have h2:=O.blk_lt h1 hk'
  rcases hc with (hc|⟨x',ob',hx',hf',hb'⟩)|hc
  ·exact h2.2 (.inl hc)
  ·refine hinv.heap.apart x ob x' ob' k (at1 x ob hx) hf' (fun e=>?_) hk' hb'
   have:=(keys h.gt h.base x ob hx).1
   have:=h.ok.nx_le
   omega
  ·exact h2.2 (.inr hc)
 ·intro k hc
  rcases hc with (hc|⟨x',ob',hx',hf',hb'⟩)|hc
  ·exact hinv.le k (.inl hc)
  ·exact(O.blk_lt (hinv.heap.ok x' ob' hf').2.2 hb').1
  ·exact hinv.le k (.inr hc)
theorem jom {B3:Kd} (h:At (n0:=n0) P sp N L tab st0 D D' later r tr o) (hinv:Inv ds L st0 B0 B N n0 ρ0 w0 (later++r::tr) D a w ρ) (hk:r.kd=2) (hns:jap o.op=false) (hnl:jav o.op=false) {lf mk:Bool} (hf:jaT tab tr.length lf mk 0 L=true)
  (hv:r.v.allB (fun x=>Nat.blt x r.nx&&(Nat.ble (jaa st0 tr) x||jal (fun j=>(tab.getD tr.length []).contains j) st0 tr x))=true)
  (hnw:∀x ob,find r.hp x=some ob→x<r.nx∧ob.allB (fun x=>Nat.blt x r.nx&&(Nat.ble (jaa st0 tr) x||jal (fun j=>(tab.getD tr.length []).contains j) st0 tr x))=true)
  (hdep:∀x ob,find r.hp x=some ob→jgR ob=true→find (jah st0 tr) x=some ob)
  (hag:jac (jaa st0 tr) ρ ρ') (hbl:Bel (jkD B (jc8 st0 (later++r::tr) D ρ r.nx) (jde hinv)).kp w w') (g:Grow (jkD B (jc8 st0 (later++r::tr) D ρ r.nx) (jde hinv)) B3 false w w') (hnew:HRel ρ' B3 r.hp r.nx w') :
  ∃B2,Inv ds L st0 B0 B2 N n0 ρ0 w0 (later++r::tr) D' (a.put o.dst (r.v.val (jby ρ ρ' (jaa st0 tr) r.nx))) w' (jby ρ ρ' (jaa st0 tr) r.nx):=by
 have hkey:∀x ob,find r.hp x=some ob→x<r.nx:=fun x ob hx=>(hnw x ob hx).1
 have hps:=jnb h hk hns hnl hf hkey
 have hq:∀j,(tab.getD tr.length []).contains j=true→D' j=true:=fun j hj=>h.mono j (h.bef j (by simpa using hj))
 have hv':r.v.allB (jaG st0 (later++r::tr) D')=true:=V.allB_mono (fun x hx=>h.alive_new hq hx) hv
 have hE1:∀x,jaG st0 (later++r::tr) D x=true→jby ρ ρ' (jaa st0 tr) r.nx x=ρ x:=fun x hx=>jgZ h hx
 have hE2:jac r.nx ρ' (jby ρ ρ' (jaa st0 tr) r.nx):=jdd hag
 have hE3:∀k,B3.fr k→¬jc8 st0 (later++r::tr) D ρ r.nx k:=fun k hfr hc=>by
  rcases g.out k hfr with h1|h1
  ·exact jde hinv k hc (.inl (B.sub k h1))
  ·exact h1 (.inr hc)
 have hbB:Bel B.kp w w':=hbl.mono fun k hk=>.inl hk
 have hbl0:Bel B0 w w':=hbB.mono hinv.gr.le.kp
 have g':Grow B (jgk B3 (jc8 st0 (later++r::tr) D ρ r.nx) hE3) false w w':=by
  refine⟨⟨fun k hk=>⟨g.le.kp k (.inl hk),fun hc=>jde hinv k hc (.inl hk)⟩,fun k hk=>g.le.fr k hk⟩,fun k hk=>?_,fun k hk=>?_,fun hc=>by cases hc⟩
  ·have h3:B3.all k:=hk.elim (fun hk=>.inl hk.1) .inr
   rcases g.new k h3 with ((h4|⟨x',ob',hx',hf',hb'⟩)|h4)|h4
   ·exact .inl (.inl h4)
   ·exact .inr (Nat.lt_of_lt_of_le (O.blk_lt (hinv.heap.ok x' ob' hf').2.2 hb').1 hbl.size)
   ·exact .inl (.inr h4)
   ·exact .inr h4
  ·rcases g.out k hk with h4|h4
   ·exact .inl h4
   ·exact .inr fun hc=>h4 (.inl hc)
 have hnew':=hnew.agree hE2
 have hn:∀k,¬B3.all k→¬(jgk B3 (jc8 st0 (later++r::tr) D ρ r.nx) hE3).all k:=fun k hk hc=>hk (hc.elim (fun hc=>.inl hc.1) .inr)
 have lateB:∀x ob k,r.nx≤x→find (jai D st0 (later++r::tr)) x=some ob→ob.blk (jby ρ ρ' (jaa st0 tr) r.nx x)=some k→jc8 st0 (later++r::tr) D ρ r.nx k:=fun x ob k hx hfx hb=>by
  rw[hE1 x (hinv.hal x ob hfx).1]at hb
  exact⟨x,ob,hx,hfx,hb⟩
 refine⟨jgk B3 (jc8 st0 (later++r::tr) D ρ r.nx) hE3,jiH h.slots h.tabok h.closed h.out h.ok.op h.ok.dst h.D1 h.D2 hinv hE1 hv',by rw[jdT]; exact hinv.size,by rw[jcS]; exact hinv.defers,⟨?_,?_,(hinv.heap.glob.bel hbB).sub g'.le.kp⟩,?_,g'.old (hbB.old hinv.le),jh5 h.n0le hinv.agree,hinv.below.trans hbl0,jg0 h hinv hE1 (fun x h1 h2 h3=>by rw[hE2 x h2]; exact C.one_val (c:=.o x) hnew h3),(hinv.gr.trans g' (Nat.le_refl _) hbl.size).weak,hbl0.old hinv.le0⟩
 ·intro x ob hfx
  by_cases hx:x<r.nx
  ·rw[(hps x).2.1 hx]at hfx
   have h1:=hnew'.ok x ob hfx
   refine⟨Nat.lt_of_lt_of_le h1.1 h.nx,O.lt_mono h.nx h1.2.1,?_⟩
   cases hd:jgR ob with
   |false=>exact O.ok_minus hn h1.2.2 hd
   |true =>
    have h2:=hdep x ob hfx hd
    rw[←(hps x).1 hx]at h2
    have h3:=hinv.hal x ob h2
    exact O.ok_eqB hE1 (hE1 x h3.1) h3.2 (jpw hd hbB g'.le.kp (hinv.heap.ok x ob h2).2.2)
  ·have hx:r.nx≤x:=by omega
   rw[((hps x).2.2 hx).1]at hfx
   have h1:=hinv.heap.ok x ob hfx
   have h3:=hinv.hal x ob hfx
   refine⟨h1.1,h1.2.1,O.ok_eqB hE1 (hE1 x h3.1) h3.2 (jrO (((hps x).2.2 hx).2 ob hfx) (fun k hb=>hbl.block k (.inr ⟨x,ob,hx,hfx,hb⟩)) (fun k hb hc=>?_) h1.2.2)⟩
   have hl:jc8 st0 (later++r::tr) D ρ r.nx k:=⟨x,ob,hx,hfx,hb⟩
   rcases hc with hc|hc
   ·exact hc.2 hl
   ·exact hc (B3.dis k (g.le.kp k (.inr hl)))
 ·intro x ob x' ob' k hfx hfx' hne hb
  by_cases hx:x<r.nx
  ·rw[(hps x).2.1 hx]at hfx
   by_cases hx':x'<r.nx
   ·rw[(hps x').2.1 hx']at hfx'
    exact hnew'.apart x ob x' ob' k hfx hfx' hne hb
   ·have hx':r.nx≤x':=by omega
    rw[((hps x').2.2 hx').1]at hfx'
    intro hb'
    exact(O.blk_lt (hnew'.ok x ob hfx).2.2 hb).2 (.inl (g.le.kp k (.inr (lateB x' ob' k hx' hfx' hb'))))
  ·have hx:r.nx≤x:=by omega
   rw[((hps x).2.2 hx).1]at hfx
   by_cases hx':x'<r.nx
   ·rw[(hps x').2.1 hx']at hfx'
    intro hb'
    exact(O.blk_lt (hnew'.ok x' ob' hfx').2.2 hb').2 (.inl (g.le.kp k (.inr (lateB x ob k hx hfx hb))))
   ·have hx':r.nx≤x':=by omega
    rw[((hps x').2.2 hx').1]at hfx'
    rw[hE1 x (hinv.hal x ob hfx).1]at hb
    rw[hE1 x' (hinv.hal x' ob' hfx').1]
    exact hinv.heap.apart x ob x' ob' k hfx hfx' hne hb
 ·intro x ob hfx
  by_cases hx:x<r.nx
  ·rw[(hps x).2.1 hx]at hfx
   refine⟨h.alive_new (q:=D) h.mono ?_,O.allB_mono (fun y hy=>h.alive_new hq hy) (hnw x ob hfx).2⟩
   simp only[Bool.and_eq_true,Nat.blt_eq,Bool.or_eq_true]
   refine⟨hx,?_⟩
   by_cases hle:jaa st0 tr≤x
   ·exact .inl (Nat.ble_eq_true_of_le hle)
   ·exact .inr ((jd8 (jfI h hf) (jfJ h hns hnl (jbj h.ok hk).2.2.2) h.gt (Nat.le_refl _)).2 x (by omega))
  ·have hx:r.nx≤x:=by omega
   rw[((hps x).2.2 hx).1]at hfx
   have:=hinv.hal x ob hfx
   exact⟨h.alive_mono this.1,O.allB_mono (fun y hy=>h.alive_mono hy) this.2⟩
theorem jpx (h:At (n0:=n0) P sp N L tab st0 D D' later r tr o) (hinv:Inv ds L st0 B0 B N n0 ρ0 w0 (later++r::tr) D a w ρ) (hk:r.kd=2) (hns:jap o.op=false) (hnl:jav o.op=false) {lf:Bool} (hf:jaT tab tr.length lf false 0 L=true)
  (hv:r.v.allB (fun x=>Nat.blt x r.nx&&(Nat.ble (jaa st0 tr) x||jal (fun j=>(tab.getD tr.length []).contains j) st0 tr x))=true)
  (hnw:∀x ob,find r.hp x=some ob→ob.allB (fun x=>Nat.blt x r.nx&&(Nat.ble (jaa st0 tr) x||jal (fun j=>(tab.getD tr.length []).contains j) st0 tr x))=true)
  (hag:jac (jaa st0 tr) ρ ρ') (hbl:Bel B w w') (g:Grow B B2 false w w') (hnew:HRel ρ' B2 r.hp r.nx w') :
  Inv ds L st0 B0 B2 N n0 ρ0 w0 (later++r::tr) D' (a.put o.dst (r.v.val (jby ρ ρ' (jaa st0 tr) r.nx))) w' (jby ρ ρ' (jaa st0 tr) r.nx):=by
 have hbl0:Bel B0 w w':=hbl.mono hinv.gr.le.kp
 have hq:∀j,(tab.getD tr.length []).contains j=true→D' j=true:=fun j hj=>h.mono j (h.bef j (by simpa using hj))
 have hv':r.v.allB (jaG st0 (later++r::tr) D')=true:=V.allB_mono (fun x hx=>h.alive_new hq hx) hv
 have hE1:∀x,jaG st0 (later++r::tr) D x=true→jby ρ ρ' (jaa st0 tr) r.nx x=ρ x:=fun x hx=>jgZ h hx
 have hE2:jac r.nx ρ' (jby ρ ρ' (jaa st0 tr) r.nx):=jdd hag
 have hall:∀l1 rk l2 ok,later=l1++rk::l2→RecOK P sp N L tab st0 (l2++r::tr) rk ok→D' (l2++r::tr).length=true→rk.kd≠2∧rk.nw=[]:=fun l1 rk l2 ok e hr hD=>by
  rw[h.D2 _ (by simp; omega)]at hD
  have q:=jlt h hk hns hnl hf l1 rk l2 ok e hr hD
  exact⟨q.1,q.2.2 rfl⟩
 have hbefore:=jfI h hf
 have hhp:jai D' st0 (later++r::tr)=r.hp:=by
  rw[jgX (tr:=r::tr) hall h.good]
  simp only[jai,h.D1,hk,if_true]
 have hnew':=hnew.agree hE2
 refine⟨jiH h.slots h.tabok h.closed h.out h.ok.op h.ok.dst h.D1 h.D2 hinv hE1 hv',by rw[jdT]; exact hinv.size,by rw[jcS]; exact hinv.defers,by rw[hhp]; exact hnew'.mono_nx h.nx,?_,g.old (hbl.old hinv.le),jh5 h.n0le hinv.agree,hinv.below.trans hbl0,jg0 h hinv hE1 (fun x h1 h2 h3=>by rw[hE2 x h2]; exact C.one_val (c:=.o x) hnew h3),(hinv.gr.trans g (Nat.le_refl _) hbl.size).weak,hbl0.old hinv.le0⟩
 intro x ob hf
 rw[hhp]at hf
 refine⟨h.alive_new (q:=D) h.mono ?_,O.allB_mono (fun y hy=>h.alive_new hq hy) (hnw x ob hf)⟩
 have h1:=(hnew.ok x ob hf).1
 simp only[Bool.and_eq_true,Nat.blt_eq,Bool.or_eq_true]
 refine⟨h1,?_⟩
 by_cases hle:jaa st0 tr≤x
 ·exact .inl (Nat.ble_eq_true_of_le hle)
 ·exact .inr ((jd8 hbefore (jfJ h hns hnl (jbj h.ok hk).2.2.2) h.gt (Nat.le_refl _)).2 x (by omega))
theorem jnc (h:At (n0:=n0) P sp N L tab st0 D D' later r tr o) (hinv:Inv ds L st0 B0 B N n0 ρ0 w0 (later++r::tr) D a w ρ) (hno:jdA P sp N L tab st0 D later (r::tr)):HRel ρ B (jcL (tab.getD tr.length []) st0 tr) (jaa st0 tr) w:=by
 have key:∀x ob,find (jcL (tab.getD tr.length []) st0 tr) x=some ob→find (jai D st0 (later++r::tr)) x=some ob∧x<jaa st0 tr∧ob.lt (jaa st0 tr):=by
  intro x ob hf
  have sub:find (jah st0 tr) x=some ob∧(find (jah st0 tr) x=some ob→find (jai D st0 tr) x=some ob):=by
   unfold jcL at hf
   split at hf
   ·rename_i hal
    rw[jd7 (p:=fun x=>jal (fun j=>(tab.getD tr.length []).contains j) st0 tr x)]at hf
    split at hf
    ·rename_i hb
     exact⟨hf,fun hf=>js3 h.base h.bef h.gt hal (Nat.le_refl _) x ob hf hb⟩
    ·cases hf
   ·rw[jd7 (p:=fun x=>jal (fun j=>(tab.getD tr.length []).contains j) st0 tr x&&jbd st0 (tab.getD tr.length []) x tr)]at hf
    split at hf
    ·rename_i hb
     simp only[Bool.and_eq_true]at hb
     exact⟨hf,fun hf=>joY h.low h.base h.bef h.gt hf hb.1 hb.2⟩
    ·cases hf
  have hf:=sub.1
  ·have h1:=keys h.gt h.base x ob hf
   refine⟨?_,h1⟩
   have h2:=sub.2 hf
   rw[jlT (tr:=r::tr) (show x<r.nx from Nat.lt_of_lt_of_le h1.1 h.ok.nx_le) hno h.good]
   simp only[jai,h.out,Bool.false_eq_true,if_false]
   exact h2
 exact⟨fun x ob hf=>⟨(key x ob hf).2.1,(key x ob hf).2.2,(hinv.heap.ok x ob (key x ob hf).1).2.2⟩,
  fun x ob x' ob' k hf hf'=>hinv.heap.apart x ob x' ob' k (key x ob hf).1 (key x' ob' hf').1,hinv.heap.glob⟩
theorem jqH (h:At (n0:=n0) P sp N L tab st0 D D' later r tr o) (hk:r.kd=2) (hinv:Inv ds L st0 B0 B N n0 ρ0 w0 (later++r::tr) D a w ρ) (hns:jap o.op=false) (hnl:jav o.op=false) {lf:Bool} (hf:jaT tab tr.length lf false 0 L=true):HRel ρ B (jah st0 tr) (jaa st0 tr) w:=by
 have hbefore:=jfI h hf
 have hall:∀l1 rk l2 ok,later=l1++rk::l2→RecOK P sp N L tab st0 (l2++r::tr) rk ok→D (l2++r::tr).length=true→rk.kd≠2∧rk.nw=[]:=fun l1 rk l2 ok e hr hD=>by
  have q:=jlt h hk hns hnl hf l1 rk l2 ok e hr hD
  exact⟨q.1,q.2.2 rfl⟩
 have e:jai D st0 (later++r::tr)=jah st0 tr:=by
  rw[jgX (tr:=r::tr) hall h.good]
  simp only[jai,h.out,Bool.false_eq_true,if_false]
  exact(jd8 hbefore (jfJ h hns hnl (jbj h.ok hk).2.2.2) h.gt (Nat.le_refl _)).1
 have h1:=hinv.heap
 rw[e]at h1
 exact⟨fun x ob hf=>⟨(keys h.gt h.base x ob hf).1,(keys h.gt h.base x ob hf).2,(h1.ok x ob hf).2.2⟩,h1.apart,h1.glob⟩
theorem jts (hsp:jad P sp) (h:At (n0:=n0) P sp N L tab st0 D D' later r tr o) (hinv:Inv ds L st0 B0 B N n0 ρ0 w0 (later++r::tr) D a w ρ) {K:Act→World→Prop} {Q:Exit→Act→World→Prop}
  (hK:∀ρ' a' w' B2,Inv ds L st0 B0 B2 N n0 ρ0 w0 (later++r::tr) D' a' w' ρ'→K a' w'):wpOp P L.toArray Q tr.length K a w:=by
 have hgt:=h.gt
 have hreads:=jrN h.good h.slots h.tabok h.closed h.out h.ok.op h.bef h.baseTm hinv
 have ho:L.toArray[tr.length]?=some o:=by simpa using h.ok.op
 unfold wpOp
 rw[ho]
 dsimp only
 cases h.ok.kind with
 |skip g e =>
  rw[jcN h.slots h.tabok h.closed h.out h.ok.op h.bef hinv g]
  refine hK ρ _ _ B ?_
  have:=jg1 h hinv (by rw[e]; exact(by decide:(0:Nat)≠2)) (by rw[e]) (by rw[e]) (by rw[e]; rfl)
  rw[show r.v.val ρ=undef by rw[e]; rfl]at this
  exact this
 |pure g ob hs ob' hk e =>
  rw[jcN h.slots h.tabok h.closed h.out h.ok.op h.bef hinv g]
  left
  have hh:HRel ρ B [] (jaa st0 tr) w:=⟨(fun _ _ hf=>by cases hf),(fun _ _ _ _ _ hf=>by cases hf),hinv.heap.glob⟩
  have hrun:=jeg hh hreads hs ob'
  unfold Oper.wp
  rw[hrun.1]
  refine hK ρ _ _ B (jg1 h hinv (by rw[e]; exact(by decide:(0:Nat)≠2)) (by rw[e]) (by rw[e]) ?_)
  have:=jjE hk
  have e2:r.nx=jaa st0 tr:=by rw[e]
  rw[e2]
  exact this
 |built g hbo ob hs ob' hk e =>
  rw[jcN h.slots h.tabok h.closed h.out h.ok.op h.bef hinv g]
  left
  have hfo:∀x ob,find (jem (tab.getD tr.length []) st0 tr) x=some ob→ob=.atom∧x<jaa st0 tr∧jal (fun j=>(tab.getD tr.length []).contains j) st0 tr x=true∧jbv st0 tr x=true:=by
   intro x ob hf
   unfold jem at hf
   rw[jkC]at hf
   cases hy:find ((jah st0 tr).filter fun x=>jal (fun j=>(tab.getD tr.length []).contains j) st0 tr x.1&&jbv st0 tr x.1) x with
   |none=>rw[hy]at hf; cases hf
   |some y =>
    rw[hy]at hf
    cases hf
    rw[jd7 (p:=fun x=>jal (fun j=>(tab.getD tr.length []).contains j) st0 tr x&&jbv st0 tr x)]at hy
    split at hy
    ·rename_i hp
     simp only[Bool.and_eq_true]at hp
     exact⟨rfl,(keys h.gt h.base x y hy).1,hp.1,hp.2⟩
    ·cases hy
  have hh:HRel ρ B (jem (tab.getD tr.length []) st0 tr) (jaa st0 tr) w:=by
   refine⟨fun x ob hf=>?_,fun x ob x' ob' k hf hf' _ hb=>?_,hinv.heap.glob⟩
   ·obtain⟨rfl,h1,h2,h3⟩:=hfo x ob hf
    refine⟨h1,trivial,?_⟩
    have e1:later++r::tr=(later++[r])++tr:=by simp
    refine hinv.one x ?_ ?_
    ·simp only[jaG,Bool.and_eq_true,Nat.blt_eq]
     refine⟨Nat.lt_of_lt_of_le h1 (Nat.le_trans h.ok.nx_le h.nx),?_⟩
     rw[e1,jgU (by rw[←e1]; exact h.good) h1]
     exact jen (fun j hj=>h.bef j (by simpa using hj)) _ _ h2
    ·rw[e1,jhp (by rw[←e1]; exact h.good) h1]
     exact h3
   ·obtain⟨rfl,_⟩:=hfo x ob hf
    cases hb
  have hrun:=jeg hh hreads hs ob'
  unfold Oper.wp
  rw[hrun.1]
  refine hK ρ _ _ B (jg1 h hinv (by rw[e]; exact(by decide:(0:Nat)≠2)) (by rw[e]) (by rw[e]) ?_)
  have:=jjE hk
  have e2:r.nx=jaa st0 tr:=by rw[e]
  rw[e2]
  exact this
 |load g hp hl x xo hx hf hb hst ob hs ob' hk e =>
  rw[jcN h.slots h.tabok h.closed h.out h.ok.op h.bef hinv g]
  left
  have hxl:=(keys h.gt h.base x xo hf).1
  have hin:=joY h.low h.base h.bef h.gt hf hb hst
  have htl:=(jlS h.ok.op hl hp hx hf (by rw[e]) h.low h.tabok h.closed h.out hxl hin h.good).1
  have hok:=hinv.heap.ok x xo htl
  have hh:HRel ρ B [(x,xo)] (jaa st0 tr) w:=by
   refine⟨fun y oy hy=>?_,fun y oy y' oy' k hy hy' hne hby=>?_,hinv.heap.glob⟩
   ·simp only[find]at hy
    split at hy
    ·rename_i e1; subst e1; cases hy
     exact⟨hxl,(keys h.gt h.base x xo hf).2,hok.2.2⟩
    ·cases hy
   ·simp only[find]at hy hy'
    split at hy
    ·rename_i e1; subst e1
     rw[if_neg hne]at hy'
     cases hy'
    ·cases hy
  have hrun:=jeg hh hreads hs ob'
  unfold Oper.wp
  rw[hrun.1]
  refine hK ρ _ _ B (jg1 h hinv (by rw[e]; exact(by decide:(0:Nat)≠2)) (by rw[e]) (by rw[e]) ?_)
  have:=jjE hk
  have e2:r.nx=jaa st0 tr:=by rw[e]
  rw[e2]
  exact this
 |mono g hp hnl hm res hs ob hk hnk e =>
  have hno:=joZ h hp hnl
  rw[jcN h.slots h.tabok h.closed h.out h.ok.op h.bef hinv g]
  left
  have hsnd:=jcR hsp (jnc h hinv hno) hinv.le hreads hs ob
  rw[hm]at hsnd
  refine hsnd K Q fun ρ' w' hl=>?_
  have ev:r.v=res.v:=by rw[e]
  have en:r.nw=jaH (jaa st0 tr) res.hp:=by rw[e]
  have ex:r.nx=res.nx:=by rw[e]
  have hsub:∀x ob,find r.nw x=some ob→find res.hp x=some ob∧jaa st0 tr≤x:=fun x ob hf=>by
   rw[en,jfH]at hf
   split at hf
   ·rename_i hle; exact⟨hf,by simpa [Nat.ble_eq]using hle⟩
   ·cases hf
  obtain⟨B2,g,hhB⟩:=hl.heap
  have:=jna h hinv hno (by rw[e]; exact(by decide:(1:Nat)≠2)) (by rw[ev,ex]; exact jjE hk) (fun x ob hf=>by rw[ex]; rw[en]at hf; exact(jeJ hk hf).2) hl.agree hl.below (hl.mono rfl) g
   (by rw[ex]; exact hhB.sub fun k o hf=>(hsub k o hf).1) (fun x ob k hf hb=>hl.fresh rfl x ob k (hsub x ob hf).2 (hsub x ob hf).1 hb)
  have e3:res.v.val ρ'=r.v.val (jby ρ ρ' (jaa st0 tr) r.nx):=by
   rw[ev]
   exact(V.val_agree (jdd hl.agree) (by rw[ex]; exact hl.lt)).symm
  rw[e3]
  exact hK _ _ _ _ this
 |mload g hp hnl hmk hal hm res hs ob hk e =>
  have hno:=js4 h hmk
  rw[jcN h.slots h.tabok h.closed h.out h.ok.op h.bef hinv g]
  left
  have hsnd:=jcR hsp (jnc h hinv hno) hinv.le hreads hs ob
  rw[hm]at hsnd
  refine hsnd K Q fun ρ' w' hl=>?_
  have ev:r.v=res.v:=by rw[e]
  have en:r.nw=jaH (jaa st0 tr) res.hp:=by rw[e]
  have ex:r.nx=res.nx:=by rw[e]
  have hsub:∀x ob,find r.nw x=some ob→find res.hp x=some ob∧jaa st0 tr≤x:=fun x ob hf=>by
   rw[en,jfH]at hf
   split at hf
   ·rename_i hle; exact⟨hf,by simpa [Nat.ble_eq]using hle⟩
   ·cases hf
  obtain⟨B2,g,hhB⟩:=hl.heap
  have:=jna h hinv hno (by rw[e]; exact(by decide:(1:Nat)≠2)) (by rw[ev,ex]; exact jjE hk) (fun x ob hf=>by rw[ex]; rw[en]at hf; exact(jeJ hk hf).2) hl.agree hl.below (hl.mono rfl) g
   (by rw[ex]; exact hhB.sub fun k o hf=>(hsub k o hf).1) (fun x ob k hf hb=>hl.fresh rfl x ob k (hsub x ob hf).2 (hsub x ob hf).1 hb)
  have e3:res.v.val ρ'=r.v.val (jby ρ ρ' (jaa st0 tr) r.nx):=by
   rw[ev]
   exact(V.val_agree (jdd hl.agree) (by rw[ex]; exact hl.lt)).symm
  rw[e3]
  exact hK _ _ _ _ this
 |effect g hp hnl hmo mk hf res hs ob hk hmk e =>
  rw[jcN h.slots h.tabok h.closed h.out h.ok.op h.bef hinv g]
  left
  have ev:r.v=res.v:=by rw[e]
  have eh:r.hp=res.hp:=by rw[e]
  have ex:r.nx=res.nx:=by rw[e]
  have ekd:r.kd=2:=by rw[e]
  cases mk with
  |false =>
   have hsnd:=jcR hsp (jqH h ekd hinv hp hnl hf) hinv.le hreads hs ob
   refine hsnd K Q fun ρ' w' hl=>?_
   obtain⟨B2,g0,hhB⟩:=hl.heap
   have g:=g0.weak (w1:=w)
   have:=jpx h hinv ekd hp hnl hf (by rw[ev,ex]; exact jjE hk) (fun x ob hf=>by rw[ex]; rw[eh]at hf; exact(jeJ hk hf).2) hl.agree hl.below g (by rw[ex,eh]; exact hhB)
   have e3:res.v.val ρ'=r.v.val (jby ρ ρ' (jaa st0 tr) r.nx):=by
    rw[ev]
    exact(V.val_agree (jdd hl.agree) (by rw[ex]; exact hl.lt)).symm
   rw[e3]
   exact hK _ _ _ _ this
  |true =>
   have hnw:∀x ob,find r.hp x=some ob→x<r.nx∧ob.allB (fun x=>Nat.blt x r.nx&&(Nat.ble (jaa st0 tr) x||jal (fun j=>(tab.getD tr.length []).contains j) st0 tr x))=true:=fun x ob hf=>by rw[ex]; rw[eh]at hf; exact jeJ hk hf
   have hdep:∀x ob,find r.hp x=some ob→jgR ob=true→find (jah st0 tr) x=some ob:=fun x ob hf hd=>by
    have hmk:jlq (jah st0 tr) (jaa st0 tr) (jbi L tab st0 o tr) res.hp=true:=hmk
    unfold jlq at hmk
    split at hmk
    ·cases hmk
    ·rename_i t ht
     have htg:r.tg=some t:=by rw[e]; exact ht
     rw[eh]at hf
     have h1:=List.all_eq_true.1 hmk _ (jh4 hf)
     simp only[hd,Bool.not_true,Bool.false_or,Bool.and_eq_true,Nat.blt_eq]at h1
     obtain⟨⟨h2,h3⟩,h4⟩:=h1
     split at h4
     ·rename_i ob' hob
      have hne:x≠t:=fun e=>by subst e; simp at h2
      have h5:=(jjF h.ok ekd htg).1 x ob' hne h3 (by cases ob' <;> first|rfl|cases h4) hob
      rw[eh,hf]at h5
      cases h5
      exact hob
     ·cases h4
   have hpl:=jrP h hinv ekd hp hnl hf (fun x ob hf=>(hnw x ob hf).1)
   have hsnd:=jcR hsp hpl.1 hpl.2 hreads hs ob
   refine hsnd K Q fun ρ' w' hl=>?_
   obtain⟨B2,g0,hhB⟩:=hl.heap
   have g:=g0.weak (w1:=w)
   obtain⟨B4,this⟩:=jom h hinv ekd hp hnl hf (by rw[ev,ex]; exact jjE hk) hnw hdep hl.agree hl.below g (by rw[ex,eh]; exact hhB)
   have e3:res.v.val ρ'=r.v.val (jby ρ ρ' (jaa st0 tr) r.nx):=by
    rw[ev]
    exact(V.val_agree (jdd hl.agree) (by rw[ex]; exact hl.lt)).symm
   rw[e3]
   exact hK _ _ _ _ this
def DL (l:Array Bool) (j:Nat):Bool:=l.getD j false
theorem jpy {l:Array Bool} {i:Nat} (hc:jb7 L (DL l)) (hb:∀o,L[i]?=some o→∀e∈o.after.toList,Region.binds .any e=true→DL l e.on=true):jb7 L (DL (l.setIfInBounds i true)):=by
 intro j o ho hD e he hbd
 by_cases hij:j=i
 ·subst hij
  exact getD_set_true (hb o ho e he hbd)
 ·unfold DL at hD
  rw[getD_set_ne false (Ne.symm hij)]at hD
  exact getD_set_true (hc j o ho hD e he hbd)
theorem jkE {l:Array Bool} (hl:l.size=L.length) (he:jcU 0 L=true) (hr:Region.ready .any L.toArray l=[]):∀j,j<L.length→DL l j=true:=by
 intro j
 induction j using Nat.strongRecOn with
 |_ j ih =>
  intro hj
  cases hD:DL l j with
  |true=>rfl
  |false =>
   exfalso
   have hmem:j∈Region.ready .any L.toArray l:=by
    rw[mem_ready]
    refine⟨?_,L[j],by simp[hj],fun e hem hb=>?_⟩
    ·unfold DL at hD
     simp only[Array.getD_eq_getD_getElem?,Array.getElem?_eq_getElem (show j<l.size by omega),Option.getD_some]at hD ⊢
     exact hD
    ·have:=jgV he j L[j] (by simp[hj]) e (by simpa using hem) hb
     exact ih e.on (by omega) (by omega)
   rw[hr]at hmem
   cases hmem
theorem count_set {l:Array Bool} {i:Nat} (hi:i<l.size) (h:l[i]=false):(l.setIfInBounds i true).toList.count false+1=l.toList.count false:=by
 have h1:(l.setIfInBounds i true).toList=l.toList.set i true:=by simp
 rw[h1,List.count_set (by simpa using hi)]
 have h2:l.toList[i]'(by simpa using hi)=false:=by simpa using h
 have h3:0<l.toList.count false:=List.count_pos_iff.2 (by rw[←h2]; exact List.getElem_mem _)
 rw[show l.toList[i]'(by simpa using hi)=false from h2]
 simp only[beq_self_eq_true,if_true,show(true==false)=false from rfl,Bool.false_eq_true,if_false]
 omega
theorem jtt (hsp:jad P sp) {T:List Rec} (hg:GoodTr P sp N L tab st0 T) (hlen:T.length=L.length) (hs:jbP L tab 0 L=true) (he:jcU 0 L=true) (ht:jce L tab) (hbase:jh1 st0)
  (hbt:∀t v,jay st0.tm t=some v→v.lt st0.nx) (hn0:n0≤st0.nx) {Q:Exit→Act→World→Prop}
  (hQ:∀D ρ a w B,(∀j,j<L.length→D j=true)→Inv ds L st0 B0 B N n0 ρ0 w0 T D a w ρ→Q .normal a w) :
  ∀(fuel:Nat) (l:Array Bool) (a:Act) (w:World) (ρ:Env) (B:Kd),l.size=L.length→jb7 L (DL l)→l.toList.count false≤fuel→Inv ds L st0 B0 B N n0 ρ0 w0 T (DL l) a w ρ→wpAny P .any L.toArray Q fuel l a w:=by
 intro fuel
 induction fuel with
 |zero =>
  intro l a w ρ B hl hc hcount hinv
  have hall:∀j,j<l.size→l[j]?≠some false:=fun j hj h=>by
   have hm:false∈l.toList:=by rw[Array.mem_toList_iff]; exact Array.mem_of_getElem? h
   have:=List.count_pos_iff.2 hm
   omega
  have hr:Region.ready .any L.toArray l=[]:=by
   apply List.eq_nil_iff_forall_not_mem.2
   intro j hj
   obtain⟨h0,o,ho,_⟩:=mem_ready.1 hj
   have hlt:j<l.size:=by
    have:=(Array.getElem?_eq_some_iff.1 ho).1
    simp at this
    omega
   apply hall j hlt
   simp only[Array.getD_eq_getD_getElem?,Array.getElem?_eq_getElem hlt,Option.getD_some]at h0
   rw[Array.getElem?_eq_getElem hlt,h0]
  exact⟨hr,hQ _ ρ a w B (jkE hl he hr) hinv⟩
 |succ fuel ih =>
  intro l a w ρ B hl hc hcount hinv
  refine⟨fun hr=>hQ _ ρ a w B (jkE hl he hr) hinv,fun i hi=>?_⟩
  obtain⟨h0,o,ho,hed⟩:=mem_ready.1 hi
  have ho':L[i]?=some o:=by simpa using ho
  have hiL:i<L.length:=(List.getElem?_eq_some_iff.1 ho').1
  have hil:i<l.size:=by omega
  have hlf:l[i]=false:=by simpa [hil]using h0
  have hedge:∀o',L[i]?=some o'→∀e∈o'.after.toList,Region.binds .any e=true→DL l e.on=true:=fun o' ho'' e hem hb=>by
   rw[ho']at ho''
   cases ho''
   exact hed e (by simpa using hem) hb
  obtain⟨later,r,tr,o2,rfl,htl,hrec⟩:=js2 hg (show i<T.length by omega)
  subst htl
  have hoo:o2=o:=by
   have:=hrec.op
   rw[ho']at this
   exact(Option.some.inj this).symm
  subst hoo
  have hat:At (n0:=n0) P sp N L tab st0 (DL l) (DL (l.setIfInBounds tr.length true)) later r tr o2:=by
   refine⟨hg,hlen,hrec,hs,he,ht,hc,?_,fun j hj=>jcf ht hc _ j hedge hj,?_,fun j hj=>?_,hbase,hbt,hn0⟩
   ·unfold DL; simp[hil,hlf]
   ·unfold DL; simp[hil]
   ·unfold DL; exact getD_set_ne false (Ne.symm hj)
  refine jts hsp hat hinv fun ρ' a' w' B2 hinv'=>?_
  have:=count_set hil hlf
  exact ih _ a' w' ρ' B2 (by simpa using hl) (jpy hc hedge) (by omega) hinv'
end
end Go.Sx
end

section
open Go.RowKit
namespace Go.Sx
section
variable [Globs] {P:Program} {sp:jab} {B:Kd} {N n0:Nat} {L:List Oper} {tab:List (List Nat)} {st0:St} {ρ0:Env} {w0:World} {ds:List Deferred}
theorem jnd {D:Nat→Bool} {t:Nat}:∀{T:List Rec},(∀j,j<T.length→D j=true)→jbe L D st0 t T=jay (jdc L st0 T) t
 |[],_=>rfl
 |r::tr,h=>by
  have ih:=jnd (D:=D) (t:=t) (T:=tr) (fun j hj=>h j (by simp; omega))
  simp only[jbe,jdc]
  rw[h tr.length (by simp)]
  cases hd:jbr L tr.length with
  |none=>simp[ih]
  |some d =>
   simp only[jay]
   by_cases e:d=t
   ·simp[e]
   ·simp[e,ih]
theorem jrQ {D:Nat→Bool} {T:List Rec} (hg:GoodTr P sp N L tab st0 T):(∀j,j<T.length→D j=true)→jai D st0 T=jah st0 T:=by
 induction hg with
 |nil=>exact fun _=>rfl
 | @cons tr r hgt o hr ih =>
  intro h
  have ih:=ih (fun j hj=>h j (by simp; omega))
  simp only[jai]
  show _=r.hp
  rw[if_pos (h tr.length (by simp))]
  by_cases hk:r.kd=2
  ·rw[if_pos hk]
  ·rw[if_neg hk,ih,(jbx hr hk).1]
theorem jlV (hm:P.follows .mixedOrders=true) (hsp:jad P sp) {ops:Array Oper} {st:St} {k:St→Prop} {ρ:Env} {a:Act} {w:World} {Q:Exit→Act→World→Prop} (hd:jhX P sp N ops st k) (hr:RelD ds ρ B N n0 st a w) (hag:jac n0 ρ0 ρ) (hbl:Bel B w0 w)
  (hK:∀(ρ':Env) (st':St) (a':Act) (w':World),RelD ds ρ' B N n0 st' a' w'→jac n0 ρ0 ρ'→Bel B w0 w'→k st'→Q .normal a' w') :
  wpAny P .any ops Q ops.size (Array.replicate ops.size false) a { w with drawn:=w.drawn+1 }:=by
 unfold jhX at hd
 split at hd
 ·rename_i hok
  simp only[Bool.and_eq_true]at hok
  have htab:jce ops.toList (je8 ops.toList []):=joW _ _ [] (by simp) (by intro i k hk; simp[List.getD]at hk)
  obtain⟨T,hk,hg,hlen⟩:=jlP ops.toList [] _ hd .nil (by simp) (by simp)
  obtain⟨B1,g1,hh1⟩:=hr.heap
  have hB1:Old B1 w:=g1.old hr.le
  have hbase:jh1 st:=fun x o hf=>⟨(hh1.ok x o hf).1,(hh1.ok x o hf).2.1⟩
  have hbt:∀t v,jay st.tm t=some v→v.lt st.nx:=fun t v h=>(hr.tm t v h).1
  have hnx:=jiG hg
  have hal:∀x,x<st.nx→jaG st T (DL (Array.replicate ops.size false)) x=true:=fun x hx=>by
   simp only[jaG,Bool.and_eq_true,Nat.blt_eq]
   exact⟨Nat.lt_of_lt_of_le hx hnx,jlQ hx hg⟩
  have hF:∀j,DL (Array.replicate ops.size false) j=false:=fun j=>by
   unfold DL
   simp only[Array.getD_eq_getD_getElem?,Array.getElem?_replicate]
   split<;>rfl
  have hslot:∀t (T:List Rec),jbe ops.toList (DL (Array.replicate ops.size false)) st t T=jay st.tm t:=fun t T=>by
   induction T with
   |nil=>rfl
   |cons r tr ih=>simp only[jbe,hF]; simpa using ih
  have hheap:∀(T:List Rec),jai (DL (Array.replicate ops.size false)) st T=st.hp:=fun T=>by
   induction T with
   |nil=>rfl
   |cons r tr ih=>simp only[jai,hF]; simpa using ih
  have hbw:Below w.heap.size w { w with drawn:=w.drawn+1 }:=⟨rfl,rfl,rfl,Nat.le_refl _,fun _ _=>rfl⟩
  have hinv:Inv ds ops.toList st B B1 N n0 ρ0 w0 T (DL (Array.replicate ops.size false)) a { w with drawn:=w.drawn+1 } ρ:=by
   refine⟨fun t v hv=>?_,hr.size,hr.defers,?_,fun x o hf=>?_,hB1,hag,⟨hbl.os,hbl.tape,hbl.output,hbl.size,hbl.block⟩,fun x=>?_,g1.later (Nat.le_refl _),hr.le⟩
   ·rw[hslot]at hv
    exact⟨V.allB_of_lt hal (hr.tm t v hv).1,(hr.tm t v hv).2⟩
   ·rw[hheap]
    exact(hh1.below hbw hB1).mono_nx hnx
   ·rw[hheap]at hf
    exact⟨hal x (hbase x o hf).1,O.allB_of_lt hal (hbase x o hf).2⟩
   ·have hfb:∀(T:List Rec),GoodTr P sp N ops.toList (je8 ops.toList []) st T→x<jaa st T→jal (DL (Array.replicate ops.size false)) st T x=true→x<st.nx:=fun T hg=>by
     induction hg with
     |nil=>exact fun h _=>h
     | @cons tr r h' o hr ih =>
      intro hlt hb
      simp only[jal]at hb
      split at hb
      ·rw[hF]at hb; cases hb
      ·rename_i hb'
       exact ih (Nat.lt_of_not_le fun hc=>by rw[Nat.ble_eq_true_of_le hc]at hb'; cases hb') hb
    intro hx hb
    simp only[jaG,Bool.and_eq_true,Nat.blt_eq]at hx
    have hlt:=hfb T hg hx.1 hx.2
    rw[jhY hlt hg]at hb
    exact C.one_val (c:=.o x) hh1 hb
  have:=jtt (Q:=Q) (n0:=n0) (B0:=B) (ρ0:=ρ0) (w0:=w0) hsp hg hlen hok.1 hok.2 htab hbase hbt hr.n0 (fun D ρ' a' w' B2 hall hi=>?_) ops.size (Array.replicate ops.size false) a _ ρ B1 (by simp) (fun j o _ hD=>by rw[hF]at hD; cases hD) (by simp) hinv
  ·simpa using this
  ·have hall':∀j,j<T.length→D j=true:=fun j hj=>hall j (by omega)
   refine hK ρ' (jsC ops.toList st T) a' w' ⟨fun t v hv=>?_,hi.size,hi.defers,?_,hi.le0,Nat.le_trans hr.n0 hnx⟩ hi.agree hi.below hk
   ·have h1:=hi.tm t v (by rw[jnd hall']; exact hv)
    refine⟨V.lt_of_allB (fun x hx=>?_) h1.1,h1.2⟩
    simp only[jaG,Bool.and_eq_true,Nat.blt_eq]at hx
    exact hx.1
   ·have:=hi.heap
    rw[jrQ hg hall']at this
    exact⟨B2,hi.gr,this⟩
 ·exact hd.elim
end
end Go.Sx
end

section
open Go.RowKit
namespace Go.Sx
def jpz [Globs] (t:Nat):Option Operand→Option Operand→Bool
 |some _,none=>Globs.cutT t
 |_,_=>false
def jne [Globs] (P:Program) (op:Op) (rd:Operand→Option V) (hp:Hp) (nx:Nat):Option Res :=
 match op with
 | .move x=>(rd x).map fun v=>⟨True,v,hp,nx⟩
 | .slice t x lo hi none=>match jpz t lo hi with
  |true=>jcv P (.slice t x lo hi none) rd hp nx
  |false=>match P.underlying t,rd x,jax rd lo,jax rd hi with
   |some (.slice elem),some (.w (.c (.o h))),some l,some m=>match find hp h,szT P elem with
    |some ob,some (e+1)=>match ob.cont with
     |some c=>match Nat.beq c.e (e+1)with
      |true=>some ⟨0≤l.getD 0∧l.getD 0≤m.getD (c.n:Int)∧m.getD (c.n:Int)≤(c.n:Int),.w (.c (.o nx)),(nx,jfR h ob (c.sub (l.getD 0).toNat (m.getD (c.n:Int)).toNat))::hp,nx+1⟩
      |false=>none
     |none=>none
    |_,_=>none
   |_,_,_,_=>none
 |_=>none
def jqI:Op→Bool
 | .slice _ _ _ _ none=>true
 |_=>false
def jqJ:Op→Bool
 | .store _ _ _=>true
 |_=>false
def jtu (L:List Oper) (tab:List (List Nat)) (j:Nat):Bool :=
 match L[j]? with
 |some o=>jqI o.op&&(List.range L.length).any fun i=>match L[i]? with
  |some s=>jqJ s.op && !((tab.getD i []).contains j) && !((tab.getD j []).contains i)
  |none=>false
 |none=>false
def jnf (L:List Oper):List Nat :=
 let tab:=je8 L []
 let bad:=(List.range L.length).filter (jtu L tab)
 (List.range L.length).filter fun i=>bad.contains i||bad.any fun j=>(tab.getD j []).contains i
def jeo (o:Oper) (t:Nat):Oper:={ o with op:=.move (.tmp t) }
def jb8 (ops:Array Oper) (i t:Nat) (o:Oper):Array Oper:=ops.setIfInBounds i (jeo o t)
def jmq (ops:Array Oper) (listed:Array Bool) (i:Nat):Bool :=
 Region.noSelect ops&&Region.free .any ops listed i&&(Region.ready .any ops listed).contains i
def jkF [Globs] (P:Program) (sp:jab) (N:Nat) (ops:Array Oper):List Nat→Array Bool→Array Oper→St→(St→Prop)→Prop
 |[],_,ops',st,k=>jhX P sp N ops' st k
 |i::F,listed,ops',st,k=>match ops[i]?,jmq ops listed i with
  |some o,true=>match o.guard,o.dst with
   |none,some t=>match jne P o.op (jbL st) st.hp st.nx,Nat.blt t N with
    |some r,true=>Ob r.ob∧jkF P sp N ops F (listed.setIfInBounds i true) (jb8 ops' i t o) (st.put (some t) r) k
    |_,_=>False
   |_,_=>False
  |_,_=>False
def jcz [Globs] (P:Program) (sp:jab) (N:Nat) (ops:Array Oper) (st:St) (k:St→Prop):Prop :=
 match jnf ops.toList with
 |[]=>jhX P sp N ops st k
 |i::F=>match Nat.ble (i::F).length ops.size with
  |false=>False
  |true=>jkF P sp N ops (i::F) (Array.replicate ops.size false) ops st k
section
variable {P:Program} {ops ops':Array Oper} {Q:Exit→Act→World→Prop}
theorem jjG {l:Array Bool} (h1:ops'.size=ops.size) (h2:∀j:Nat,(ops'[j]?).map Oper.after=(ops[j]?).map Oper.after):Region.ready .any ops' l=Region.ready .any ops l:=by
 unfold Region.ready
 rw[h1]
 refine List.filter_congr fun i _=>?_
 have:=h2 i
 cases ha:ops'[i]? <;> cases hb:ops[i]? <;> simp[ha,hb]at this ⊢
 rw[this]
theorem jpA (h2:∀j:Nat,(ops'[j]?).map Oper.dst=(ops[j]?).map Oper.dst) (tmps:Array Value):yielded ops' tmps=yielded ops tmps:=by
 funext g
 unfold yielded
 have:(ops'[g]?).bind Oper.dst=(ops[g]?).bind Oper.dst:=by
  have:=h2 g
  cases ha:ops'[g]? <;> cases hb:ops[g]? <;> simp[ha,hb]at this ⊢
  exact this
 rw[this]
theorem jkG (h1:ops'.size=ops.size) (h2:∀j:Nat,(ops'[j]?).map Oper.after=(ops[j]?).map Oper.after) (h3:∀j:Nat,(ops'[j]?).map Oper.dst=(ops[j]?).map Oper.dst) :
  ∀(n:Nat) (l:Array Bool) (a:Act) (w:World),(∀j:Nat,l.getD j true=false→ops'[j]?=ops[j]?)→wpAny P .any ops' Q n l a w→wpAny P .any ops Q n l a w
 |0,l,a,w,_,h=>by
  rw[wpAny]at h ⊢
  rw[jjG h1 h2]at h
  exact h
 |n+1,l,a,w,hs,h=>by
  rw[wpAny]at h ⊢
  rw[jjG h1 h2]at h
  refine⟨h.1,fun i hi=>?_⟩
  have hk:=h.2 i hi
  have hun:=(mem_ready.1 hi).1
  have ih:=fun a w=>jkG h1 h2 h3 n (l.setIfInBounds i true) a w (fun j hj=>by
   refine hs j ?_
   by_cases e:i=j
   ·subst e; exact hun
   ·rwa [getD_set_ne true e]at hj)
  have hk2:=wpOp_mono ih hk
  unfold wpOp at hk2 ⊢
  rw[hs i hun]at hk2
  simp only[jpA h3]at hk2
  exact hk2
theorem jrR {a:Act} {t:Nat}:a.put (some t) (a.tmps.getD t undef)=a:=by
 obtain⟨tmps,d⟩:=a
 simp only[Act.put]
 congr 1
 apply Array.ext
 ·simp
 ·intro i h1 h2
  rw[Array.getElem_setIfInBounds]
  split
  ·rename_i e; subst e; simp[h2]
  ·rfl
theorem jqK {n i t:Nat} {o:Oper} {l:Array Bool} {a:Act} {w:World} (hi:ops'[i]?=some (jeo o t)) (hg:o.guard=none) (hd:o.dst=some t) (hr:i∈Region.ready .any ops' l)
  (h:wpAny P .any ops' Q (n+1) l a w):wpAny P .any ops' Q n (l.setIfInBounds i true) a w:=by
 rw[wpAny]at h
 have hk:=h.2 i hr
 unfold wpOp at hk
 have hw:Region.wanted (jeo o t) (yielded ops' a.tmps)=true:=by simp[Region.wanted,jeo,hg]
 simp only[hi,hw,if_true]at hk
 have hrun:(execOp a.eval (jeo o t)).run P w=.ok (.value (a.tmps.getD t undef)) w:=by
  unfold execOp jeo
  simp[Act.eval]
 rcases hk with hk|hk
 ·unfold Oper.wp at hk
  rw[hrun]at hk
  simp only[Oper.upon]at hk
  have hdst:(jeo o t).dst=some t:=hd
  rw[hdst,jrR]at hk
  exact hk
 ·have hk:=hk.1.1
  change noRoomEvent∈(#[]:Array Event)at hk
  simp at hk
end
section
variable [Globs] {P:Program} {sp:jab} {B:Kd} {N n0:Nat} {ρ:Env} {a:Act} {w:World} {hp:Hp} {nx:Nat} {rd:Operand→Option V} {ds:List Deferred}
theorem jqL {o:Oper} {r:Res} {t:Nat} (hh:HRel ρ B hp nx w) (hB:Old B w) (hr:jaq ρ nx rd a) (h:jne P o.op rd hp nx=some r) (hob:r.ob) (hd:o.dst=some t) (ht:t<a.tmps.size) :
  ∃ρ' M,Left ρ B nx w r M ρ' w∧∀w',(execOp a.eval o).run P w'=.ok (.value (r.v.val ρ')) w':=by
 unfold jne at h
 split at h
 ·rename_i x hop
  cases hx:rd x with
  |none=>simp[hx]at h
  |some v =>
   simp only[hx,Option.map_some,Option.some.injEq]at h
   subst h
   have:=hr x v hx
   refine⟨ρ,true,⟨jac.refl _ _,this.1,Nat.le_refl _,hh.gr,Bel.refl _ _,fun _=>Below.refl _ _,fun _ h o k hn hf _=>absurd (hh.ok h o hf).1 (by omega)⟩,fun w'=>?_⟩
   unfold execOp
   simp[hop,this.2]
 ·rename_i ty x lo hi hop
  split at h
  ·rename_i hcut
   cases lo with
   |none=>simp[jpz]at hcut
   |some lo =>
   cases hi with
   |some hi=>simp[jpz]at hcut
   |none =>
   unfold jcv at h
   dsimp only at h
   split at h
   ·split at h
    ·rename_i elem hh' k l hu hx hl
     split at h
     ·rename_i c e hfc hs
      split at h
      ·rename_i hce
       cases h
       cases hf:find hp hh' with
       |none=>simp[hf]at hfc
       |some ob =>
        simp only[hf,Option.bind_some]at hfc
        obtain⟨v,hrun,hl⟩:=jhn hh hr hop hu hx hl hf hfc hs (Nat.eq_of_beq_eq_true hce) hob
        exact⟨upd ρ nx v,false,hl,fun w'=>by rw[hrun w']; show Result.ok (Next.value v) w'=.ok (.value (upd ρ nx v nx)) w'; rw[upd_same]⟩
      ·cases h
     ·cases h
    ·cases h
   ·cases h
  rename_i hcut
  split at h
  ·rename_i elem hh' l m hu hx hl hm
   split at h
   ·rename_i ob e hf hs
    split at h
    ·rename_i c hc
     split at h
     ·rename_i hce
      cases h
      have hce:c.e=e+1:=Nat.eq_of_beq_eq_true hce
      obtain⟨h0,h1,h2⟩:=hob
      have hok:=hh.ok hh' ob hf
      obtain⟨a2,cap,hv,⟨hcap,_⟩,_⟩:=jaM hok.2.2 hc
      obtain⟨k1,hlv⟩:=jdl hr hl
      obtain⟨k2,hmv⟩:=jdl hr hm
      have hxv:a.eval x=.slice a2 c.n cap:=by rw[(hr _ _ hx).2]; exact hv
      have hrun:∀w',(execOp a.eval o).run P w'=.ok (.value (.slice (if cap=(l.getD 0).toNat then a2 else a2.map (·.add ((l.getD 0).toNat*c.e))) ((m.getD (c.n:Int)).toNat-(l.getD 0).toNat) (cap-(l.getD 0).toNat))) w':=fun w'=>by
       have hsb:=jbT (P:=P) (w:=w') (len:=c.n) (cap:=cap) (l:=l) (m:=m) (k:=k1) (k':=k2) h0 h1 h2 hcap
       unfold execOp
       simp only[hop,hxv,hlv,hmv,Option.map_none,Instr.sliceAt,Instr.slice,Sem.run_bind,run_underlying hu,Result.andThen_ok,hsb,jau w' hs,Sem.run_pure]
       simp[hce]
      have hS:=je2 (P:=P) hh hB hr hop hu hx hl hm hf hs hc hce ⟨h0,h1,h2⟩ ⟨0≤l.getD 0∧l.getD 0≤m.getD (c.n:Int)∧m.getD (c.n:Int)≤(c.n:Int),.w (.c (.o nx)),(nx,jfR hh' ob (c.sub (l.getD 0).toNat (m.getD (c.n:Int)).toNat))::hp,nx+1⟩ rfl rfl rfl
       (fun a' w'=>∃ρ',Left ρ B nx w ⟨0≤l.getD 0∧l.getD 0≤m.getD (c.n:Int)∧m.getD (c.n:Int)≤(c.n:Int),.w (.c (.o nx)),(nx,jfR hh' ob (c.sub (l.getD 0).toNat (m.getD (c.n:Int)).toNat))::hp,nx+1⟩ true ρ' w'∧a'=a.put o.dst (ρ' nx)) (fun _ _ _=>False) (fun ρ' w' hl'=>⟨ρ',hl',rfl⟩)
      unfold Oper.wp at hS
      rw[hrun w]at hS
      simp only[Oper.upon]at hS
      obtain⟨ρ',hl',he⟩:=hS
      refine⟨ρ',true,hl',fun w'=>?_⟩
      rw[hrun w']
      have e2:=congrArg (fun x:Act=>x.tmps.getD t undef) he
      rw[hd]at e2
      simp only[Act.put,Array.getD_eq_getD_getElem?,Array.getElem?_setIfInBounds_self_of_lt ht,Option.getD_some]at e2
      rw[e2]
      rfl
     ·cases h
    ·cases h
   ·cases h
  ·cases h
 ·cases h
theorem jpB {ops ops':Array Oper} {i t:Nat} {o:Oper} (h:∀j:Nat,(ops'[j]?).map Oper.after=(ops[j]?).map Oper.after) (hi:ops[i]?=some o) (j:Nat):((jb8 ops' i t o)[j]?).map Oper.after=(ops[j]?).map Oper.after:=by
 unfold jb8
 rw[Array.getElem?_setIfInBounds]
 split
 ·rename_i e
  subst e
  have:=h i
  rw[hi]at this ⊢
  split
  ·rfl
  ·rename_i hlt
   rw[Array.getElem?_eq_none (by omega)]at this
   cases this
 ·exact h j
theorem jrS {ops ops':Array Oper} {i t:Nat} {o:Oper} (h:∀j:Nat,(ops'[j]?).map Oper.dst=(ops[j]?).map Oper.dst) (hi:ops[i]?=some o) (j:Nat):((jb8 ops' i t o)[j]?).map Oper.dst=(ops[j]?).map Oper.dst:=by
 unfold jb8
 rw[Array.getElem?_setIfInBounds]
 split
 ·rename_i e
  subst e
  have:=h i
  rw[hi]at this ⊢
  split
  ·rfl
  ·rename_i hlt
   rw[Array.getElem?_eq_none (by omega)]at this
   cases this
 ·exact h j
inductive Taken (ops:Array Oper):Array Bool→Array Oper→Nat→Prop where
 |nil:Taken ops (Array.replicate ops.size false) ops 0
 |cons {l:Array Bool} {ops':Array Oper} {n i t:Nat} {o:Oper}:Taken ops l ops' n→ops[i]?=some o→jmq ops l i=true→o.guard=none→o.dst=some t →
   Taken ops (l.setIfInBounds i true) (jb8 ops' i t o) (n+1)
theorem jg2 {ops:Array Oper} {l:Array Bool} {i:Nat} (h:jmq ops l i=true):Region.noSelect ops=true∧Region.free .any ops l i=true∧i∈Region.ready .any ops l:=by
 simp only[jmq,Bool.and_eq_true]at h
 exact⟨h.1.1,h.1.2,by simpa using h.2⟩
theorem Taken.facts {ops:Array Oper} {l:Array Bool} {ops':Array Oper} {n:Nat} (h:Taken ops l ops' n) :
  ops'.size=ops.size∧(∀j:Nat,(ops'[j]?).map Oper.after=(ops[j]?).map Oper.after)∧(∀j:Nat,(ops'[j]?).map Oper.dst=(ops[j]?).map Oper.dst) ∧
   (∀j:Nat,l.getD j true=false→ops'[j]?=ops[j]?)∧l.size=ops.size:=by
 induction h with
 |nil=>exact⟨rfl,fun _=>rfl,fun _=>rfl,fun _ _=>rfl,by simp⟩
 | @cons l ops' n i t o h hi ht hg hd ih =>
  obtain⟨h1,h2,h3,h4,h5⟩:=ih
  refine⟨by simp[jb8,h1],jpB h2 hi,jrS h3 hi,fun j hj=>?_,by simp[h5]⟩
  by_cases e:i=j
  ·subst e
   have hlt:i<l.size:=by rw[h5]; exact(Array.getElem?_eq_some_iff.1 hi).1
   simp[hlt]at hj
  ·rw[getD_set_ne true e]at hj
   unfold jb8
   rw[Array.getElem?_setIfInBounds_ne e]
   exact h4 j hj
theorem Taken.idle {ops:Array Oper} {Q:Exit→Act→World→Prop} {a:Act} {w:World} {l:Array Bool} {ops':Array Oper} {n:Nat} (h:Taken ops l ops' n) :
  ∀(opsF:Array Oper) (m:Nat),opsF.size=ops.size→(∀j:Nat,(opsF[j]?).map Oper.after=(ops[j]?).map Oper.after)→(∀j:Nat,l.getD j true=true→opsF[j]?=ops'[j]?) →
   wpAny P .any opsF Q (m+n) (Array.replicate ops.size false) a w→wpAny P .any opsF Q m l a w:=by
 induction h with
 |nil=>exact fun _ _ _ _ _ h=>h
 | @cons l ops' n i t o h hi ht hg hd ih =>
  intro opsF m h1 h2 h3 hw
  obtain⟨f1,f2,f3,f4,f5⟩:=h.facts
  have hlt:i<ops.size:=(Array.getElem?_eq_some_iff.1 hi).1
  have hself:opsF[i]?=some (jeo o t):=by
   rw[h3 i (by simp[hlt,f5])]
   unfold jb8
   simp[f1,hlt]
  refine jqK hself hg hd ?_ (ih opsF (m+1) h1 h2 (fun j hj=>?_) (by rwa [Nat.add_assoc,Nat.add_comm 1 n]))
  ·rw[jjG h1 h2]
   exact(jg2 ht).2.2
  ·by_cases e:i=j
   ·subst e
    have:=(mem_ready.1 (jg2 ht).2.2).1
    rw[this]at hj
    cases hj
   ·rw[h3 j (by rw[getD_set_ne true e]; exact hj)]
    unfold jb8
    rw[Array.getElem?_setIfInBounds_ne e]
variable {w0:World} {ρ0:Env} in
theorem jng (hm:P.follows .mixedOrders=true) (hsp:jad P sp) {ops:Array Oper} {k:St→Prop} {Q:Exit→Act→World→Prop} (hQ:∀c a w,¬Q (.panic c) a w)
  (hK:∀(ρ':Env) (st':St) (a':Act) (w':World),RelD ds ρ' B N n0 st' a' w'→jac n0 ρ0 ρ'→Bel B w0 w'→k st'→Q .normal a' w') :
  ∀(F:List Nat) (l:Array Bool) (ops':Array Oper) (n m:Nat) (st:St) (ρ:Env) (a:Act) (w:World),jkF P sp N ops F l ops' st k→Taken ops l ops' n→m+n=ops.size→F.length≤m→RelD ds ρ B N n0 st a w→jac n0 ρ0 ρ→Bel B w0 w →
   wpAny P .any ops Q m l a { w with drawn:=w.drawn+1 }
 |[],l,ops',n,m,st,ρ,a,w,h,ht,hn,_,hr,hag,hbl=>by
  unfold jkF at h
  obtain⟨f1,f2,f3,f4,f5⟩:=ht.facts
  have h1:=jlV (Q:=Q) hm hsp h hr hag hbl hK
  rw[f1,←hn]at h1
  have h2:=ht.idle (Q:=Q) ops' m f1 f2 (fun _ _=>rfl) (by rw[←hn]; exact h1)
  exact jkG f1 f2 f3 m l a _ f4 h2
 |i::F,l,ops',n,m,st,ρ,a,w,h,ht,hn,hF,hr,hag,hbl=>by
  unfold jkF at h
  split at h
  ·rename_i o hi htb
   split at h
   ·rename_i t hg hd
    split at h
    ·rename_i r hr2 hlt
     obtain⟨B1,g1,hh1⟩:=hr.heap
     obtain⟨ρ',M,hl,hrun⟩:=jqL hh1 (g1.old hr.le) hr.reads hr2 h.1.h hd (by rw[hr.size]; simpa [Nat.blt_eq]using hlt)
     have hput:=hr.put1 g1 (o:=o) (by rw[hd]; simpa [jbK]using hlt) hl
     rw[hd]at hput
     obtain⟨m',rfl⟩:∃m',m=m' + 1:=⟨m-1,by simp at hF; omega⟩
     have ih:=jng hm hsp hQ hK F (l.setIfInBounds i true) (jb8 ops' i t o) (n+1) m' (st.put (some t) r) ρ' _ w h.2 (ht.cons hi htb hg hd) (by omega) (by simpa using hF) hput (hag.trans hl.agree hr.n0) hbl
     obtain⟨t1,t2,t3⟩:=jg2 htb
     refine wpAny_take (v:=r.v.val ρ') hi t1 t2 (by simpa using t3) (fun c a w hq=>absurd hq (hQ c _ w)) (.inl ⟨by simp[Region.wanted,hg],hrun⟩) ?_
     rw[hd]
     exact ih
    ·exact h.elim
   ·exact h.elim
  ·exact h.elim
theorem jpC {w0:World} {ρ0:Env} (hm:P.follows .mixedOrders=true) (hsp:jad P sp) {ops:Array Oper} {st:St} {k:St→Prop} {ρ:Env} {a:Act} {w:World} {Q:Exit→Act→World→Prop} (hQ:∀c a w,¬Q (.panic c) a w) (hd:jcz P sp N ops st k) (hr:RelD ds ρ B N n0 st a w) (hag:jac n0 ρ0 ρ) (hbl:Bel B w0 w)
  (hK:∀(ρ':Env) (st':St) (a':Act) (w':World),RelD ds ρ' B N n0 st' a' w'→jac n0 ρ0 ρ'→Bel B w0 w'→k st'→Q .normal a' w') :
  wpAny P .any ops Q ops.size (Array.replicate ops.size false) a { w with drawn:=w.drawn+1 }:=by
 unfold jcz at hd
 split at hd
 ·exact jlV hm hsp hd hr hag hbl hK
 ·rename_i i F _
  split at hd
  ·exact hd.elim
  ·rename_i hle
   exact jng hm hsp hQ hK (i::F) _ ops 0 ops.size st ρ a w hd .nil rfl (Nat.le_of_ble_eq_true hle) hr hag hbl
theorem jcg {w0:World} {ρ0:Env} (hm:P.follows .mixedOrders=true) (hsp:jad P sp):jeQ P B N n0 ρ0 w0 (jcz P sp N):=by
 intro ds id ops st k ρ a w Q hd hr hag hbl hK
 have h1:=wp_region_any (id:=id) hm (jpC (Q:=fun e a w=>match e with | .normal=>Q .normal a w|_=>False) hm hsp (fun _ _ _ h=>h) hd hr hag hbl hK)
 refine wp_mono h1 ?_
 intro e a w h
 cases e<;>first|exact h|exact h.elim
end
end Go.Sx
end

section
open Go.RowKit
namespace Go.Sx
inductive A where
 |d (x:D)
 |s (l:List D)
 |r (c:Cont)
 |f (n:Nat)
inductive RV where
 |d (x:D)
 |s (l:List D)
 |row (ty:Nat) (c:Cont)
def toA (hp:Hp):V→Option A
 | .w (.c (.d x))=>some (.d x)
 | .w (.a l)=>(jbl l).map .s
 | .w (.c (.fn n []))=>some (.f n)
 | .w (.c (.o h))=>match(find hp h).bind O.cont with
  |some c=>match c.e with
   |0=>none
   |_+1=>some (.r c)
  |none=>none
 |_=>none
def jlu (n:Nat):A→V
 | .d x=>.w (.c (.d x))
 | .s l=>.w (.a (l.map C.d))
 | .r _=>.w (.c (.o n))
 | .f g=>.w (.c (.fn g []))
def jeK:Nat→List A→List V
 |_,[]=>[]
 |n,a::l=>jlu n a::jeK (n+1) l
def jcA:Nat→List A→Hp
 |_,[]=>[]
 |n,.r c::l=>(n,.ext c)::jcA (n+1) l
 |n,_::l=>jcA (n+1) l
def rvW:Nat→List RV→List W
 |_,[]=>[]
 |n,.d x::l=>.c (.d x)::rvW n l
 |n,.s c::l=>.a (c.map C.d)::rvW n l
 |n,.row _ _::l=>.c (.o n)::rvW (n+1) l
def jjH:Nat→List RV→Hp→Hp
 |_,[],hp=>hp
 |n,.row ty c::l,hp=>jjH (n+1) l ((n,.row ty c)::hp)
 |n,.d _::l,hp=>jjH n l hp
 |n,.s _::l,hp=>jjH n l hp
def jfX:Nat→List RV→Nat
 |n,[]=>n
 |n,.row _ _::l=>jfX (n+1) l
 |n,.d _::l=>jfX n l
 |n,.s _::l=>jfX n l
def jnh:List D→List D→Prop→Prop
 |[],[],k=>k
 |x::l,y::m,k=>mD y x∧jnh l m k
 |_,_,_=>False
theorem jjh [Globs] {k:Prop}:∀{l m:List D},jnh l m k→l=m∧k
 |[],[],h=>⟨rfl,h⟩
 |x::l,y::m,h=>by
  have:=jjh h.2
  exact⟨by rw[jiF h.1,this.1],this.2⟩
 |[],_::_,h=>h.elim
 |_::_,[],h=>h.elim
def jdB (hp:Hp):List RV→List W→List Nat→Prop
 |[],[],_=>True
 | .d x::rs,.c (.d y)::ws,us=>mD x y∧jdB hp rs ws us
 | .s l::rs,.a cs::ws,us=>match jbl cs with
  |some ds=>jnh ds l (jdB hp rs ws us)
  |none=>False
 | .row ty c::rs,.c (.o h)::ws,us=>match us.contains h with
  |true=>False
  |false=>match find hp h with
   |some (.row ty' c')=>match Nat.beq ty' ty with
    |true=>jc6 c c'∧jdB hp rs ws (h::us)
    |false=>False
   |_=>False
 | .row _ c::rs,.c (.d (.v (.slice none 0 0)))::ws,us=>Ob (c.n=0)∧jdB hp rs ws us
 |_,_,_=>False
def jsD (rs:List RV) (v:V) (hp:Hp):Prop:=match v with
 | .w u=>jdB hp rs [u] []
 | .t [_]=>False
 | .t l=>jdB hp rs l []
theorem jbY {P:Program} {f:Nat} {fn:Func} {body:Code} (hf:P.funcs[f]?=some fn) (hb:fn.body=some body) (hn:(fn.name == "runtime.NumGoroutine")=false) (args:Array Value) (w:World) :
  (callFunc f args).run P w=.ok (.enter f args) w:=by
 unfold callFunc
 simp only[Sem.run_bind,run_program,Result.andThen_ok,hf,hn,Bool.false_eq_true,if_false,hb,Option.isNone_some]
 rfl
theorem jan.sound [Globs] {P:Program} {f:Nat} {fn:Func} {body:Code} {M:Bool} {S:Spec} (h:jan P f M S) (hf:P.funcs[f]?=some fn) (hb:fn.body=some body) (hn:(fn.name == "runtime.NumGoroutine")=false):RunOK P f M S:=by
 rcases h with h|h
 ·exact h
 ·refine⟨jbY hf hb hn,fun ρ B w args hp nx t hS hob hlt hh hB=>?_⟩
  obtain⟨ob,v,_,_,hrun⟩:=h ρ B w args hp nx t hS hob hlt hh hB
  rw[jbY hf hb hn]at hrun
  cases hrun
section
variable [Globs] {P:Program} {sp:jab} {ρ:Env} {B:Kd} {nx:Nat} {hp:Hp} {w w':World}
theorem jfb (h:ja8 B w) (hB:Old B w):ja8 (fun k=>k<w.heap.size) w:=h.sub fun k hk=>hB k (.inl hk)
theorem HRel.add1 (h:HRel ρ B hp nx w) {v:Value} {o:O} (hl:o.lt (nx+1)) (ho:o.ok (upd ρ nx v) B w nx) (hap:∀k o' b,find hp k=some o'→o'.blk (ρ k)=some b→o.blk v≠some b) :
  HRel (upd ρ nx v) B ((nx,o)::hp) (nx+1) w:=by
 have h1:=(h.agree (jag ρ nx v)).mono_nx (Nat.le_succ nx)
 refine⟨?_,?_,h1.glob⟩
 ·intro k o' hf
  simp only[find]at hf
  split at hf
  ·rename_i e; subst e; cases hf; exact⟨by omega,hl,ho⟩
  ·exact h1.ok k o' hf
 ·intro k o1 k' o2 b hf hf' hne hb hb'
  simp only[find]at hf hf'
  split at hf
  ·rename_i e
   subst e
   cases hf
   rw[if_neg hne]at hf'
   rw[upd_same]at hb
   rw[jag ρ nx v k' (h.ok k' o2 hf').1]at hb'
   exact hap k' o2 b hf' hb' hb
  ·split at hf'
   ·rename_i e
    subst e
    cases hf'
    rw[upd_same]at hb'
    rw[jag ρ nx v k (h.ok k o1 hf).1]at hb
    exact hap k o1 b hf hb hb'
   ·exact h1.apart k o1 k' o2 b hf hf' hne hb hb'
theorem jgl {B0:Kd} {hp':Hp} {nx':Nat} {ρ':Env} {m:Nat} {us0:List Nat} (hB0:∀k,k<m→B0.all k∨∀u o b,us0.contains u=false→find hp' u=some o→(∃ty c,o=.row ty c)→o.blk (ρ' u)=some b→b≠k) (hBm:∀k,B.all k→k<m) (hh':HRel ρ' B0 hp' nx' w') :
  ∀(rs:List RV) (ws:List W) (us:List Nat) (nx:Nat) (hp:Hp) (ρ:Env),(∀x,us0.contains x=true→us.contains x=true)→jdB hp' rs ws us→HRel ρ B hp nx w' →
   (∀k o b,find hp k=some o→o.blk (ρ k)=some b→b<m∨∃u∈us,∃ou,find hp' u=some ou∧ou.blk (ρ' u)=some b) →
   ∃ρ'',jac nx ρ ρ''∧HRel ρ'' B (jjH nx rs hp) (jfX nx rs) w'∧nx≤jfX nx rs∧(∀x∈rvW nx rs,W.lt (jfX nx rs) x)∧ws.map (W.val ρ')=(rvW nx rs).map (W.val ρ'') ∧
    ∀h o k,find (jjH nx rs hp) h=some o→(nx≤h→o.blk (ρ'' h)=some k→m≤k)∧(h<nx→find hp h=some o)
 |[],ws,us,nx,hp,ρ,_,hf,hh,_=>by
  cases ws with
  |nil=>exact⟨ρ,jac.refl _ _,hh,Nat.le_refl _,(fun _ h=>by cases h),rfl,fun h o k hf=>⟨fun hle _=>absurd (hh.ok h o hf).1 (by omega),fun _=>hf⟩⟩
  |cons w ws=>cases w<;>exact hf.elim
 | .d x::rs,ws,us,nx,hp,ρ,hsu,hf,hh,hinv=>by
  match ws,hf with
  | .c (.d y)::ws,hf =>
   obtain⟨ρ'',h1,h2,h3,h4,h5,h6⟩:=jgl hB0 hBm hh' rs ws us nx hp ρ hsu hf.2 hh hinv
   refine⟨ρ'',h1,h2,h3,fun u hu=>?_,?_,h6⟩
   ·rcases List.mem_cons.1 hu with rfl|hu
    ·trivial
    ·exact h4 u hu
   ·rw[←jiF hf.1]
    simp only[List.map_cons,rvW,h5]
    rfl
 | .s l::rs,ws,us,nx,hp,ρ,hsu,hf,hh,hinv=>by
  match ws,hf with
  | .a cs::ws,hf =>
   simp only[jdB]at hf
   split at hf
   ·rename_i ds hds
    obtain⟨hl,hf2⟩:=jjh hf
    subst hl
    obtain⟨ρ'',h1,h2,h3,h4,h5,h6⟩:=jgl hB0 hBm hh' rs ws us nx hp ρ hsu hf2 hh hinv
    refine⟨ρ'',h1,h2,h3,fun u hu=>?_,?_,h6⟩
    ·rcases List.mem_cons.1 hu with rfl|hu
     ·intro x hx
      obtain⟨y,_,rfl⟩:=List.mem_map.1 hx
      trivial
     ·exact h4 u hu
    ·rw[jbO hds]
     simp only[List.map_cons,rvW,h5]
     congr 1
     simp[W.val,C.val,Function.comp_def]
   ·exact hf.elim
 | .row ty c::rs,ws,us,nx,hp,ρ,hsu,hf,hh,hinv=>by
  match ws,hf with
  | .c (.o h)::ws,hq =>
   rw[jdB]at hq
   split at hq
   ·exact hq.elim
   ·rename_i hus
    split at hq
    ·rename_i ty' c' hfind
     split at hq
     ·rename_i hty
      have hty:ty'=ty:=Nat.eq_of_beq_eq_true hty
      subst hty
      have hc:=(jbq hq.1).symm
      subst hc
      have hok:=(hh'.ok h _ hfind).2.2
      have hblk:∀b,(ρ' h).ownBlock=some b→m≤b:=fun b hb=>by
       rcases Nat.lt_or_ge b m with hlt|hge
       ·rcases hB0 b hlt with h1|h1
        ·exact absurd h1 (hok.2 b hb)
        ·have hu0:us0.contains h=false:=by
          cases hc:us0.contains h with
          |false=>rfl
          |true=>rw[hsu h hc]at hus; cases hus
         exact absurd rfl (h1 h _ b hu0 hfind ⟨_,_,rfl⟩ hb)
       ·exact hge
      have hadd:=hh.add1 (v:=ρ' h) (o:=.row ty' c') trivial (by
       refine⟨by rw[upd_same]; exact hok.1,fun b hb hBb=>?_⟩
       rw[upd_same]at hb
       have:=hblk b hb
       have:=hBm b hBb
       omega) (fun k o' b hk hb hb2=>by
        rcases hinv k o' b hk hb with h1|⟨u,hu,ou,h1,h2⟩
        ·have:=hblk b hb2; omega
        ·refine hh'.apart h _ u ou b hfind h1 (fun e=>?_) hb2 h2
         subst e
         rw[List.contains_iff_mem.2 hu]at hus
         cases hus)
      obtain⟨ρ'',h1,h2,h3,h4,h5,h6⟩:=jgl hB0 hBm hh' rs ws (h::us) (nx+1) ((nx,.row ty' c')::hp) (upd ρ nx (ρ' h)) (fun x hx=>by have:=hsu x hx; simp at this ⊢; exact .inr this) hq.2 hadd (fun k o b hk hb=>by
       simp only[find]at hk
       split at hk
       ·rename_i e
        subst e
        cases hk
        rw[upd_same]at hb
        exact .inr ⟨h,List.mem_cons_self,_,hfind,hb⟩
       ·rw[jag ρ nx (ρ' h) k (hh.ok k o hk).1]at hb
        rcases hinv k o b hk hb with h1|⟨u,hu,ou,h1,h2⟩
        ·exact .inl h1
        ·exact .inr ⟨u,List.mem_cons_of_mem _ hu,ou,h1,h2⟩)
      have hnx:ρ'' nx=ρ' h:=by rw[h1 nx (Nat.lt_succ_self nx),upd_same]
      refine⟨ρ'',fun k hk=>by rw[h1 k (by omega),jag ρ nx (ρ' h) k hk],h2,by unfold jfX; omega,fun u hu=>?_,?_,fun k o b hk=>?_⟩
      ·rcases List.mem_cons.1 hu with rfl|hu
       ·exact Nat.lt_of_lt_of_le (Nat.lt_succ_self nx) h3
       ·exact h4 u hu
      ·simp only[List.map_cons,rvW,h5]
       congr 1
       exact hnx.symm
      ·have h7:=h6 k o b hk
       refine⟨fun hle hb=>?_,fun hlt=>?_⟩
       ·by_cases hle2:nx+1≤k
        ·exact h7.1 hle2 hb
        ·have e:k=nx:=by omega
         subst e
         have h8:=h7.2 (Nat.lt_succ_self k)
         simp only[find,if_true]at h8
         cases h8
         rw[hnx]at hb
         exact hblk b hb
       ·have h8:=h7.2 (by omega)
        simp only[find]at h8
        rw[if_neg (by omega)]at h8
        exact h8
     ·exact hq.elim
    ·exact hq.elim
  | .c (.d (.v (.slice none 0 0)))::ws,hf =>
   simp only[jdB]at hf
   have hn:=hf.1.h
   have hfl:c.flat=[]:=List.eq_nil_of_length_eq_zero (by rw[Cont.flat_length,hn,Nat.zero_mul])
   have hadd:=hh.add1 (v:=.slice none 0 0) (o:=.row ty c) trivial (by
    refine⟨?_,fun b hb=>?_⟩
    ·rw[upd_same,hfl,hn]
     exact World.ownsRow_nil w' 0 ty c.e
    ·rw[upd_same]at hb; cases hb) (fun k o' b hk hb hb2=>by cases hb2)
   obtain⟨ρ'',h1,h2,h3,h4,h5,h6⟩:=jgl hB0 hBm hh' rs ws us (nx+1) ((nx,.row ty c)::hp) (upd ρ nx (.slice none 0 0)) hsu hf.2 hadd (fun k o b hk hb=>by
    simp only[find]at hk
    split at hk
    ·rename_i e
     subst e
     cases hk
     rw[upd_same]at hb
     cases hb
    ·rw[jag ρ nx _ k (hh.ok k o hk).1]at hb
     exact hinv k o b hk hb)
   have hnx:ρ'' nx=.slice none 0 0:=by rw[h1 nx (Nat.lt_succ_self nx),upd_same]
   refine⟨ρ'',fun k hk=>by rw[h1 k (by omega),jag ρ nx _ k hk],h2,by unfold jfX; omega,fun u hu=>?_,?_,fun k o b hk=>?_⟩
   ·rcases List.mem_cons.1 hu with rfl|hu
    ·exact Nat.lt_of_lt_of_le (Nat.lt_succ_self nx) h3
    ·exact h4 u hu
   ·simp only[List.map_cons,rvW,h5]
    congr 1
    exact hnx.symm
   ·have h7:=h6 k o b hk
    refine⟨fun hle hb=>?_,fun hlt=>?_⟩
    ·by_cases hle2:nx+1≤k
     ·exact h7.1 hle2 hb
     ·have e:k=nx:=by omega
      subst e
      have h8:=h7.2 (Nat.lt_succ_self k)
      simp only[find,if_true]at h8
      cases h8
      rw[hnx]at hb
      cases hb
    ·have h8:=h7.2 (by omega)
     simp only[find]at h8
     rw[if_neg (by omega)]at h8
     exact h8
end
end Go.Sx
end

section
open Go.RowKit
namespace Go.Sx
def O.own:O→Bool
 | .box _ cs=>cs.all fun c=>match c with
  | .d _=>true
  |_=>false
 | .row _ _=>true
 |_=>false
section
variable [Globs] {P:Program} {sp:jab}
end
end Go.Sx
end

section
open Go.RowKit
namespace Go.Sx
def toAK (q:Option Cont) (hp:Hp) (v:V):Option A :=
 match q with
 |none=>toA hp v
 |some c0=>match v.nils?,c0.n,c0.e with
  |true,0,_+1=>some (.r c0)
  |_,_,_=>toA hp v
def jiI:List (Option Cont)→Hp→List V→Option (List A)
 |_,_,[]=>some []
 |qs,hp,v::l=>match toAK (qs.headD none) hp v,jiI qs.tail hp l with
  |some a,some r=>some (a::r)
  |_,_=>none
def ja4 (qs:List (Option Cont)) (g:List A→Option (Prop × List RV)):Spec:=fun vs hp nx =>
 match jiI qs hp vs with
 |some asq=>match g asq with
  |some (ob,rs)=>some (.leaf ⟨ob,jaK (rvW nx rs),jjH nx rs hp,jfX nx rs⟩)
  |none=>none
 |none=>none
section
variable [Globs] {P:Program} {sp:jab} {ρ:Env} {B:Kd} {nx:Nat} {hp:Hp} {w w':World}
theorem js5 {v:V} (h:v.nils?=true):v=.w (.c (.d (.v (.slice none 0 0)))):=by
 unfold V.nils? at h
 split at h
 ·rfl
 ·cases h
theorem jni (hh:HRel ρ B hp nx w) {v:V} {a:A} (ha:toA hp v=some a) (n m:Nat) (ρ0:Env) (h0:ρ0 n=v.val ρ) :
  (jlu n a).val ρ0=v.val ρ∧V.lt (n+(m+1)) (jlu n a)∧∀c,a=.r c→jaE w (ρ0 n) c∧jbB (fun k=>k<w.heap.size) (ρ0 n):=by
 unfold toA at ha
 split at ha
 ·cases ha; exact⟨rfl,trivial,fun _ h=>by cases h⟩
 ·rename_i l
  cases hd:jbl l with
  |none=>simp[hd]at ha
  |some ds =>
   simp only[hd,Option.map_some,Option.some.injEq]at ha
   subst ha
   rw[jbO hd]
   refine⟨?_,(fun x hx=>?_),fun _ h=>by cases h⟩
   ·simp[jlu,V.val,W.val,C.val,Function.comp_def]
   ·obtain⟨y,_,rfl⟩:=List.mem_map.1 hx
    trivial
 ·cases ha
  exact⟨rfl,(fun _ h=>by cases h),fun _ h=>by cases h⟩
 ·rename_i k
  split at ha
  ·rename_i c hc
   split at ha
   ·cases ha
   ·rename_i e he
    cases ha
    cases hf:find hp k with
    |none=>simp[hf]at hc
    |some o =>
     simp only[hf,Option.bind_some]at hc
     have hrow:=jaM (hh.ok k o hf).2.2 hc
     have e0:ρ0 n=ρ k:=h0
     refine⟨e0,(show n<n+(m+1) by omega),fun c' hc'=>?_⟩
     cases hc'
     rw[e0]
     exact⟨hrow,jaE.lt hrow (by omega)⟩
  ·cases ha
 ·cases ha
theorem jqM (hh:HRel ρ B hp nx w) {q:Option Cont} {v:V} {a:A} (ha:toAK q hp v=some a) (n m:Nat) (ρ0:Env) (h0:ρ0 n=v.val ρ) :
  (jlu n a).val ρ0=v.val ρ∧V.lt (n+(m+1)) (jlu n a)∧∀c,a=.r c→jaE w (ρ0 n) c∧jbB (fun k=>k<w.heap.size) (ρ0 n):=by
 unfold toAK at ha
 split at ha
 ·exact jni hh ha n m ρ0 h0
 ·rename_i c0
  split at ha
  ·rename_i e hn hc he
   cases ha
   have hv:=js5 hn
   subst hv
   refine⟨h0,(show n<n+(m+1) by omega),fun c' hc'=>?_⟩
   cases hc'
   rw[h0]
   refine⟨⟨none,0,by rw[hc]; rfl,⟨by omega,fun _=>rfl⟩,fun h=>by omega⟩,fun a n cap h _=>?_⟩
   cases h
  ·exact jni hh ha n m ρ0 h0
theorem jkH (hh:HRel ρ B hp nx w):∀(qs:List (Option Cont)) (vs:List V) (asq:List A) (n:Nat) (ρ0:Env),jiI qs hp vs=some asq→(∀i v,vs[i]?=some v→ρ0 (n+i)=v.val ρ) →
  (jeK n asq).map (V.val ρ0)=vs.map (V.val ρ)∧asq.length=vs.length∧(∀x∈jeK n asq,V.lt (n+asq.length) x) ∧
   ∀h o,find (jcA n asq) h=some o→n≤h∧h<n+asq.length∧∃c,o=.ext c∧jaE w (ρ0 h) c∧jbB (fun k=>k<w.heap.size) (ρ0 h)
 |_,[],asq,n,ρ0,h,_=>by
  simp only[jiI,Option.some.injEq]at h
  subst h
  exact⟨rfl,rfl,(fun _ h=>by cases h),fun _ _ h=>by cases h⟩
 |qs,v::vs,asq,n,ρ0,h,hρ=>by
  simp only[jiI]at h
  split at h
  ·rename_i a r ha hr
   cases h
   have ih:=jkH hh qs.tail vs r (n+1) ρ0 hr (fun i v hv=>by rw[show n+1+i=n+(i+1) by omega]; exact hρ (i+1) v (by simpa using hv))
   have h0:=hρ 0 v rfl
   rw[Nat.add_zero]at h0
   have hv:=jqM hh ha n r.length ρ0 h0
   have hag:∀x,V.lt (n+1+r.length) x→V.lt (n+(r.length+1)) x:=fun x hx=>V.lt_mono (by omega) hx
   refine⟨by simp only[jeK,List.map_cons,hv.1,ih.1],by simp[ih.2.1],fun x hx=>?_,fun h o hf=>?_⟩
   ·rcases List.mem_cons.1 hx with rfl|hx
    ·simpa using hv.2.1
    ·simpa using hag x (ih.2.2.1 x hx)
   ·cases a with
    |r c =>
     simp only[jcA,find]at hf
     split at hf
     ·rename_i e
      subst e
      cases hf
      exact⟨Nat.le_refl _,by simp,c,rfl,hv.2.2 c rfl⟩
     ·have:=ih.2.2.2 h o hf
      simp only[List.length_cons]
      exact⟨by omega,by omega,this.2.2⟩
    |d x=>have:=ih.2.2.2 h o hf; simp only[List.length_cons]; exact⟨by omega,by omega,this.2.2⟩
    |s x=>have:=ih.2.2.2 h o hf; simp only[List.length_cons]; exact⟨by omega,by omega,this.2.2⟩
    |f x=>have:=ih.2.2.2 h o hf; simp only[List.length_cons]; exact⟨by omega,by omega,this.2.2⟩
  ·cases h
theorem jbI {f:Nat} {fn:Func} {body:Code} {qs:List (Option Cont)} {g:List A→Option (Prop × List RV)} (hm:P.follows .mixedOrders=true) (hsp:jad P sp) (hf:P.funcs[f]?=some fn) (hb:fn.body=some body) (hn:(fn.name == "runtime.NumGoroutine")=false)
  (h:∀asq ob rs,g asq=some (ob,rs)→ob→asq.length≤fn.ntmps∧∃fuel loops,sx P sp fn.ntmps asq.length fuel loops (jcz P sp fn.ntmps) body 0 [] ⟨jbV 0 (jeK 0 asq),jcA 0 asq,asq.length⟩ (jdy P fn.results.toList fun v hp _=>jsD rs v hp)) :
  jan P f true (ja4 qs g):=by
 refine .inl ⟨jbY hf hb hn,fun ρ B w args hp nx r hS hob hlt hh hB=>?_⟩
 unfold ja4 at hS
 split at hS
 ·rename_i asq has
  split at hS
  ·rename_i ob rs hg
   cases hS
   obtain⟨hlen,fuel,loops,hx⟩:=h asq ob rs hg hob
   have hto:=jkH hh qs args asq 0 (fun i=>(args[i]?.map (V.val ρ)).getD undef) has (fun i v hv=>by simp[hv])
   have hal:(jeK 0 asq).length=asq.length:=by
    have:∀(l:List A) (n:Nat),(jeK n l).length=l.length:=fun l=>by
     induction l with
     |nil=>exact fun _=>rfl
     |cons a l ih=>exact fun n=>by simp[jeK,ih]
    exact this asq 0
   have hh0:HRel (fun i=>(args[i]?.map (V.val ρ)).getD undef) (kd fun k=>k<w.heap.size) (jcA 0 asq) asq.length w:=by
    refine⟨fun x o hf=>?_,fun x o x' o' k hf hf' _ hb=>?_,jfb hh.glob hB⟩
    ·obtain⟨_,h2,c,rfl,h3,h4⟩:=hto.2.2.2 x o hf
     exact⟨by omega,trivial,h3,h4⟩
    ·obtain⟨_,_,c,rfl,_,_⟩:=hto.2.2.2 x o hf
     cases hb
   have hcalls:=jm9 (n0:=asq.length) (B:=kd fun k=>k<w.heap.size) hsp (fun ρ w=>jcg hm hsp) hf hb (by rw[hal]; exact hlen) hx (fun x hx=>by simpa using hto.2.2.1 x hx) (Nat.le_refl _) _ w hh0 (fun k hk=>jcj.1 hk)
   rw[hto.1]at hcalls
   refine hcalls.mono ?_
   rintro e w' ⟨ρ',v,hp',nx',rfl,hvlt,hag,⟨B',gB,hh'⟩,hbel,_,hfit⟩
   have hbw:Below w.heap.size w w':=hbel.below
   have hh1:=hh.below hbw hB
   obtain⟨ws,hws,hfw⟩:∃ws,(jaK ws).val ρ'=v.val ρ'∧jdB hp' rs ws []:=by
    match v,hfit with
    | .w u,hfit=>exact⟨[u],rfl,hfit⟩
    | .t [],hfit=>exact⟨[],rfl,hfit⟩
    | .t (x::y::l),hfit=>exact⟨x::y::l,rfl,hfit⟩
   obtain⟨ρ'',h1,h2,h3,h4,h5,h6⟩:=jgl (m:=w.heap.size) (us0:=[]) (fun k hk=>.inl (.inl (gB.le.kp k hk))) hB hh' rs ws [] nx hp ρ (fun _ h=>h) hfw hh1 (fun k o b hk hb=>.inl (O.blk_lt (hh.ok k o hk).2.2 hb).1)
   refine⟨ρ'',?_,h1,jeR h4,h3,h2.gr,jbA hbw hB,fun _=>hbw,fun _ h o k hle hf hb=>(h6 h o k hf).1 hle hb⟩
   show Ending.returned _=Ending.returned ((jaK (rvW nx rs)).val ρ'')
   rw[←hws,jcd,jcd]
   simp only[h5]
  ·cases hS
 ·cases hS
end
end Go.Sx
end
