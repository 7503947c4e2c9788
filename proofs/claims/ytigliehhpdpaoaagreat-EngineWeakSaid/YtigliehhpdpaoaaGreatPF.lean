/- Part 6 of the proof of EngineWeak: the executor, the mirrors of the functions, the plain facts. -/
import Derived.Test.YtigliehhpdpaoaaGreatPE
import Derived.Carry
import Derived.ChangeArms
import Derived.OpenShut
import Derived.ChangeShapes
import Derived.ChangeSame
import Derived.SizedLaws
import Derived.WideShapes
set_option maxRecDepth 100000
set_option linter.unusedSectionVars false
set_option linter.unusedSimpArgs false
set_option linter.unusedVariables false
section
open Go.RowKit
namespace Go.Sx
section
variable [Globs]
def qInt (op:BinOp) (k:IntKind) (a b:Int):Option V :=
 match op with
 | .add=>some (vi k (k.wrap (a+b)))
 | .sub=>some (vi k (k.wrap (a-b)))
 | .mul=>some (vi k (k.wrap (a*b)))
 | .eql=>some (vb (a==b))
 | .neq=>some (vb (a != b))
 | .lss=>some (vb (a<b))
 | .leq=>some (vb (a≤b))
 | .gtr=>some (vb (a>b))
 | .geq=>some (vb (a≥b))
 |_=>none
noncomputable def qBin (op:BinOp) (u v:Option V):Option V :=
 match u,v with
 |some (.w (.c (.d (.i k a)))),some (.w (.c (.d (.i k' b))))=>match decide (k=k')with
  |true=>qInt op k a b
  |false=>none
 |_,_=>none
noncomputable def jxN (P:Program) (s:TypeId) (f:Nat) (u:Option V):Option V :=
 match u with
 |some (.w (.c (.p h i e j)))=>match P.underlying s with
  |some (.struct fs)=>match jlh fs.toList f with
   |some g=>match szT P g.type with
    |some (_+1)=>some (.w (.c (.p h i e (j+g.offset))))
    |_=>none
   |none=>none
  |_=>none
 |_=>none
noncomputable def qNil (u:Option V):Option V :=
 match u with
 |some (.w (.c (.p h i e j)))=>some (.w (.c (.p h i e j)))
 |_=>none
noncomputable def qNot (u:Option V):Option V :=
 match u with
 |some (.w (.c (.d (.b b))))=>some (vb (!b))
 |_=>none
noncomputable def jzO (P:Program) (t:TypeId) (hp:Hp) (u:Option V):Option V :=
 match u with
 |some (.w (.c (.p h i e j)))=>match e with
  |0=>none
  |e' + 1=>match jbk P t with
   |some false=>match szT P t with
    |some _=>match jlN hp h with
     |some (.box _ cs)=>match jlh cs (i*(e' + 1)+j)with
      |some c=>some (.w (.c c))
      |none=>none
     |some (.ebox cs)=>match jlh cs (i*(e' + 1)+j)with
      |some c=>some (.w (.c c))
      |none=>none
     |some (.row _ (.ints k l))=>match Nat.beq (e' + 1) 1,Nat.beq j 0,Nat.blt i l.length with
      |true,true,true=>some (vi k (l.getD i 0))
      |_,_,_=>none
     |some (.ext (.ints k l))=>match Nat.beq (e' + 1) 1,Nat.beq j 0,Nat.blt i l.length with
      |true,true,true=>some (vi k (l.getD i 0))
      |_,_,_=>none
     |some (.row _ (.bools l))=>match Nat.beq (e' + 1) 1,Nat.beq j 0,Nat.blt i l.length with
      |true,true,true=>some (vb (l.getD i false))
      |_,_,_=>none
     |some (.ext (.bools l))=>match Nat.beq (e' + 1) 1,Nat.beq j 0,Nat.blt i l.length with
      |true,true,true=>some (vb (l.getD i false))
      |_,_,_=>none
     |_=>none
    |none=>none
   |_=>none
 |_=>none
noncomputable def jzP (c a b:Option V):Option V :=
 match c with
 |some (.w (.c (.d (.b true))))=>a
 |some (.w (.c (.d (.b false))))=>b
 |_=>none
noncomputable def qExt (u:Option V) (i:Nat):Option V :=
 match u with
 |some (.t l)=>match jlh l i with
  |some x=>some (.w x)
  |none=>none
 |_=>none
noncomputable def qFld (P:Program) (t:TypeId) (f:Nat) (u:Option V):Option V :=
 match u with
 |some (.w (.a cs))=>match P.underlying t with
  |some (.struct fs)=>match jlh fs.toList f with
   |some g=>jbM P g.type cs g.offset
   |none=>none
  |_=>none
 |_=>none
noncomputable def qIdx (P:Program) (t:TypeId) (hp:Hp) (u i:Option V):Option V :=
 match i with
 |some (.w (.c (.d (.i _ n))))=>match u with
  |some (.w (.c (.o h)))=>match P.underlying t with
   |some (.slice elem)=>match(jlN hp h).bind O.cont with
    |some c=>match szT P elem with
     |some size=>match decide (size=c.e),decide (0≤n∧n<(c.n:Int))with
      |true,true=>some (.w (.c (.p h n.toNat c.e 0)))
      |_,_=>none
     |none=>none
    |none=>none
   |_=>none
  |_=>none
 |_=>none
noncomputable def qStr (P:Program) (t:TypeId) (u i:Option V):Option V :=
 match u with
 |some (.w (.c (.d (.s s))))=>match i with
  |some (.w (.c (.d (.i _ n))))=>match P.underlying t with
   |some .string=>match decide (0≤n∧n<(s.size:Int))with
    |true=>some (vi .u8 ((s.data.getD n.toNat 0).toNat:Int))
    |false=>none
   |_=>none
  |_=>none
 |_=>none
noncomputable def qLen (P:Program) (t:TypeId) (hp:Hp) (u:Option V):Option V :=
 match P.underlying t with
 |some (.slice _)=>match u with
  |some (.w (.c (.o h)))=>match(jlN hp h).bind O.cont with
   |some c=>some (vi .i64 (c.n:Int))
   |none=>none
  |some (.w (.c (.d (.v (.slice none 0 0)))))=>some (vi .i64 0)
  |_=>none
 |some .string=>match u with
  |some (.w (.c (.d (.s s))))=>some (vi .i64 (s.size:Int))
  |_=>none
 |_=>none
noncomputable def jzQ (P:Program) (c:Call) (rd:Operand→Option V) (hp:Hp):Option V :=
 match c.callee with
 | .builtin .len=>match c.args.toList with
  |[x]=>match c.argTypes.toList with
   |[t]=>qLen P t hp (rd x)
   |_=>none
  |_=>none
 |_=>none
noncomputable def qV (P:Program) (op:Op) (rd:Operand→Option V) (hp:Hp):Option V :=
 match op with
 | .move x=>rd x
 | .assign x=>rd x
 | .binOp o _ x y _=>qBin o (rd x) (rd y)
 | .fieldAddr s x f=>jxN P s f (rd x)
 | .nilCheck x=>qNil (rd x)
 | .unOp .not _ x=>qNot (rd x)
 | .load t x=>jzO P t hp (rd x)
 | .pick c a b=>jzP (rd c) (rd a) (rd b)
 | .extract t i=>qExt (rd t) i
 | .field t x f=>qFld P t f (rd x)
 | .indexAddr t x ix=>qIdx P t hp (rd x) (rd ix)
 | .index t x i=>qStr P t (rd x) (rd i)
 | .call c=>jzQ P c rd hp
 |_=>none
theorem jpz {P:Program} {sp:jaa} {op:Op} {rd:Operand→Option V} {hp:Hp} {nx:Nat} {v:V} (h:qV P op rd hp=some v) :
  jfV P sp op rd hp nx=none∧∃ob,ja1 P op rd hp=some (ob,v)∧ob:=by
 have lift:(∃ob,jaZ P op rd hp=some (ob,v)∧ob)→∃ob,ja1 P op rd hp=some (ob,v)∧ob:=by
  rintro ⟨ob,h1,h2⟩
  exact⟨ob,by unfold ja1; rw[h1],h2⟩
 unfold qV at h
 split at h
 ·rename_i x
  exact⟨rfl,lift ⟨True,by simp[jaZ,h],trivial⟩⟩
 ·rename_i x
  exact⟨rfl,lift ⟨True,by simp[jaZ,h],trivial⟩⟩
 ·rename_i o t x y yt
  unfold qBin at h
  split at h
  ·rename_i k a k' b hx hy
   split at h
   ·rename_i hk
    have hk:=of_decide_eq_true hk
    subst hk
    refine⟨by simp[jfV,hx,hy],lift ?_⟩
    unfold qInt at h
    simp only[jaZ,hx,hy,V.int?,jfh]
    split at h<;>cases h<;>exact⟨_,rfl,trivial⟩
   ·cases h
  ·cases h
 ·rename_i s x f
  unfold jxN at h
  try simp only[jdi,jd9]at h
  split at h
  ·rename_i k i e j hx
   split at h
   ·rename_i fs hu
    split at h
    ·rename_i g hg
     split at h
     ·rename_i sz hs
      cases h
      exact⟨rfl,lift ⟨True,by simp only[jaZ,hu,hx,hg,hs],trivial⟩⟩
     ·cases h
    ·cases h
   ·cases h
  ·cases h
 ·rename_i x
  unfold qNil at h
  split at h
  ·rename_i hx
   cases h
   exact⟨rfl,lift ⟨True,by simp only[jaZ,hx],trivial⟩⟩
  ·cases h
 ·rename_i t x
  unfold qNot at h
  split at h
  ·rename_i b hx
   cases h
   exact⟨rfl,lift ⟨True,by simp[jaZ,hx,V.bool?],trivial⟩⟩
  ·cases h
 ·rename_i t x
  unfold jzO at h
  try simp only[jdi,jd9]at h
  split at h
  ·rename_i k i e j hx
   split at h
   ·cases h
   ·rename_i e'
    split at h
    ·rename_i hag
     split at h
     ·rename_i sz hs
      split at h
      ·rename_i ty cs hf
       split at h
       ·rename_i c hc
        cases h
        exact⟨rfl,lift ⟨True,by simp[jaZ,hx,hf,jcU,hag,hs,jea,hc],trivial⟩⟩
       ·cases h
      ·rename_i cs hf
       split at h
       ·rename_i c hc
        cases h
        exact⟨rfl,lift ⟨True,by simp[jaZ,hx,hf,jcU,hag,hs,jea,hc],trivial⟩⟩
       ·cases h
      all_goals first
       |(cases h; done)
       |(
         rename_i hf
         split at h
         ·rename_i e1 e2 e3
          have e1:=Nat.eq_of_beq_eq_true e1
          have e2:=Nat.eq_of_beq_eq_true e2
          have e3:=of_decide_eq_true (show decide _=true from by simpa using e3)
          cases h
          obtain rfl:e'=0:=by omega
          subst e2
          exact⟨rfl,lift ⟨_,by simp[jaZ,hx,hf,jcU,hag,hs,O.cont,Cont.e,Cont.n,Cont.cell,vi,vb],e3⟩⟩
         ·cases h)
     ·cases h
    ·cases h
  ·cases h
 ·rename_i c x y
  unfold jzP at h
  split at h
  ·rename_i hc
   exact⟨rfl,lift ⟨True,by simp[jaZ,hc,V.bool?,h],trivial⟩⟩
  ·rename_i hc
   exact⟨rfl,lift ⟨True,by simp[jaZ,hc,V.bool?,h],trivial⟩⟩
  ·cases h
 ·rename_i t i
  unfold qExt at h
  try simp only[jdi,jd9]at h
  split at h
  ·rename_i l ht
   split at h
   ·rename_i x hx
    cases h
    exact⟨rfl,lift ⟨True,by simp[jaZ,ht,hx],trivial⟩⟩
   ·cases h
  ·cases h
 ·rename_i t x f
  unfold qFld at h
  try simp only[jdi,jd9]at h
  split at h
  ·rename_i cs hx
   split at h
   ·rename_i fs hu
    split at h
    ·rename_i g hg
     exact⟨rfl,lift ⟨True,by simp[jaZ,hx,hu,hg,V.agg?,h],trivial⟩⟩
    ·cases h
   ·cases h
  ·cases h
 ·rename_i t x ix
  unfold qIdx at h
  try simp only[jdi,jd9]at h
  split at h
  ·rename_i k n hi
   split at h
   ·rename_i h' hx
    split at h
    ·rename_i elem hu
     split at h
     ·rename_i c hc
      split at h
      ·rename_i size hs
       split at h
       ·rename_i e1 e2
        have e1:=of_decide_eq_true e1
        have e2:=of_decide_eq_true e2
        cases h
        exact⟨rfl,lift ⟨_,by simp[jaZ,hx,hi,hu,hc,hs,V.int?,e1],e2⟩⟩
       ·cases h
      ·cases h
     ·cases h
    ·cases h
   ·cases h
  ·cases h
 ·rename_i t x i
  unfold qStr at h
  split at h
  ·rename_i s hx
   split at h
   ·rename_i k n hi
    split at h
    ·rename_i hu
     split at h
     ·rename_i e2
      have e2:=of_decide_eq_true e2
      cases h
      exact⟨rfl,lift ⟨_,by simp[jaZ,hx,hi,hu,V.int?,V.str?],e2⟩⟩
     ·cases h
    ·cases h
   ·cases h
  ·cases h
 ·rename_i c
  unfold jzQ at h
  split at h
  ·rename_i hc
   split at h
   ·rename_i x ha
    split at h
    ·rename_i t hat
     refine⟨by simp[jfV,hc],lift ?_⟩
     unfold qLen at h
     try simp only[jdi,jd9]at h
     simp only[jaZ,hc,ha,hat]
     split at h
     ·rename_i el hu
      split at h
      ·rename_i h' hx
       split at h
       ·rename_i c' hcc
        cases h
        exact⟨True,by simp[hu,hx,hcc],trivial⟩
       ·cases h
      ·rename_i hx
       cases h
       exact⟨True,by simp[hu,hx,V.nils?],trivial⟩
      ·cases h
     ·rename_i hu
      split at h
      ·rename_i s hx
       cases h
       exact⟨True,by simp[hu,hx,V.str?],trivial⟩
      ·cases h
     ·cases h
    ·cases h
   ·cases h
  ·cases h
 ·cases h
end
end Go.Sx
end

section
open Go.RowKit
namespace Go.Sx
noncomputable def stF {α:Type} (j:Nat) (st:St) (k:St→α):α :=
 hpF (fun _=>true) j 0 st.hp fun hp=>fN st.nx fun nx=>k ⟨st.tm,hp,nx⟩
noncomputable def stG {α:Type} (st:St) (k:St→α):α :=
 tmF 0 st.tm fun tm=>fN st.nx fun nx=>k ⟨tm,st.hp,nx⟩
noncomputable def jng {α:Type} (tm:List (Nat × V)) (hp:Hp) (nx:Nat) (k:St→α):α :=
 match hp with
 |(h,o)::r=>fO o fun o=>fN nx fun nx=>k ⟨tm,(h,o)::r,nx⟩
 |[]=>fN nx fun nx=>k ⟨tm,[],nx⟩
noncomputable def jpA {α:Type} (o:Oper) (r:Res) (st:St) (k:St→α):α :=
 fV r.v fun v=>putG o.op (st.put o.dst ⟨True,v,r.hp,r.nx⟩) k
where
 putG (op:Op) (st:St) (k:St→α):α :=
  match op with
  | .store _ _ _=>stF 1 st k
  | .call c=>match c.callee with
   | .value _=>fN st.nx fun nx=>k ⟨st.tm,st.hp,nx⟩
   | .builtin .append=>stF 2 st k
   |_=>k st
  | .box _ _=>jng st.tm st.hp st.nx k
  | .alloc _=>jng st.tm st.hp st.nx k
  | .makeSlice _ _ _=>jng st.tm st.hp st.nx k
  | .buildSlice _ _ _=>jng st.tm st.hp st.nx k
  | .slice _ _ _ _ _=>jng st.tm st.hp st.nx k
  |_=>k st
noncomputable def cOp [Globs] (P:Program) (sp:jaa) (N:Nat) (o:Oper) (st:St):Option St :=
 match jb4 N o.dst with
 |false=>none
 |true =>
  match qV P o.op (rdQ st) st.hp with
  |some v=>fV v fun v=>some (st.put o.dst ⟨True,v,st.hp,st.nx⟩)
  |none=>match jfV P sp o.op (rdQ st) st.hp st.nx with
   |some t=>jpA o t.sel st some
   |none=>match jbK P sp o.op (rdQ st) st.hp st.nx with
    |some r=>match ja6 o.op (rdQ st) st.hp,obB P o.op (rdQ st) st.hp with
     |true,_=>jpA o r st some
     |false,true=>jpA o r st some
     |false,false=>none
    |none=>none
noncomputable def jox (N:Nat) (o:Oper) (st:St):Option St :=
 match jb4 N o.dst with
 |true=>some (st.put o.dst ⟨True,vu,st.hp,st.nx⟩)
 |false=>none
noncomputable def cOne [Globs] (P:Program) (sp:jaa) (N:Nat) (all:List Oper) (o:Oper) (st:St):Option St :=
 match o.guard with
 |none=>cOp P sp N o st
 |some (j,want) =>
  match(jlh all j).bind (·.dst)with
  |none=>none
  |some t=>match jpy st.tm t with
   |some (.w (.c (.d (.b b))))=>match b,want with
    |true,true=>cOp P sp N o st
    |false,false=>cOp P sp N o st
    |true,false=>jox N o st
    |false,true=>jox N o st
   |some (.w (.c (.d (.v (.tuple _)))))=>jox N o st
   |_=>none
noncomputable def cOps [Globs] (P:Program) (sp:jaa) (N:Nat) (all:List Oper) (l:List Oper) (st:St):Option St :=
 List.rec (motive:=fun _=>St→Option St) (fun st=>some st) (fun o _ ih st=>Option.rec (motive:=fun _=>Option St) none (fun st'=>ih st') (cOne P sp N all o st)) l st
noncomputable def obC [Globs] (P:Program) (op:Op) (rd:Operand→Option V) (hp:Hp) (r:Rec):Option Rec :=
 match ja6 op rd hp,obB P op rd hp with
 |true,_=>fV r.v fun v=>some { r with v:=v }
 |false,true=>fV r.v fun v=>some { r with v:=v }
 |false,false=>none
noncomputable def jfd (q:Nat→Bool) (st0:St) (tr:List Rec) (h:Nat):Bool :=
 List.rec (motive:=fun _=>Bool) true (fun _ tr ih=>Bool.rec (motive:=fun _=>Bool) ih (q tr.length) (Nat.ble (jab st0 tr) h)) tr
theorem jgP (q:Nat→Bool) (st0:St):∀(tr:List Rec) (h:Nat),jfd q st0 tr h=jar q st0 tr h
 |[],_=>rfl
 |_::tr,h=>by
  have ih:=jgP q st0 tr h
  simp only[jar,←ih]
  show Bool.rec (motive:=fun _=>Bool) (jfd q st0 tr h) (q tr.length) (Nat.ble (jab st0 tr) h)=_
  cases Nat.ble (jab st0 tr) h<;>rfl
noncomputable def jdy (bef:List Nat) (st0:St) (tr:List Rec) (v:V) (hp:Hp) (nx:Nat):Bool :=
 Nat.ble (jab st0 tr) nx&&v.allB (fun h=>Nat.blt h nx&&(Nat.ble (jab st0 tr) h||jfd (fun j=>bef.contains j) st0 tr h)) &&
  hp.all (fun x=>Nat.blt x.1 nx&&x.2.allB fun h=>Nat.blt h nx&&(Nat.ble (jab st0 tr) h||jfd (fun j=>bef.contains j) st0 tr h))
theorem jli (bef:List Nat) (st0:St) (tr:List Rec) (v:V) (hp:Hp) (nx:Nat):jdy bef st0 tr v hp nx=ja0 bef st0 tr v hp nx:=by
 unfold jdy ja0
 rw[show jfd (fun j=>bef.contains j) st0 tr=jar (fun j=>bef.contains j) st0 tr from funext (jgP _ _ tr)]
noncomputable def jlO (bef:List Nat) (st0:St) (tr:List Rec):Hp :=
 match jcX bef tr with
 |true=>(jam st0 tr).filter fun x=>jfd (fun j=>bef.contains j) st0 tr x.1
 |false=>(jam st0 tr).filter fun x=>jfd (fun j=>bef.contains j) st0 tr x.1&&jbp st0 bef x.1 tr
theorem jy9 (bef:List Nat) (st0:St) (tr:List Rec):jlO bef st0 tr=jda bef st0 tr:=by
 unfold jlO jda
 rw[show jfd (fun j=>bef.contains j) st0 tr=jar (fun j=>bef.contains j) st0 tr from funext (jgP _ _ tr)]
 cases jcX bef tr<;>rfl
def jq3 (L:List Oper) (t:Nat):Nat→Option Nat
 |0=>none
 |i+1=>match jbI L i with
  |some d=>if d=t then some i else jq3 L t i
  |none=>jq3 L t i
def jew (L:List Oper) (bef:List Nat) (i t:Nat):Bool :=
 match jq3 L t i with
 |some j=>bef.contains j
 |none=>true
def jix (L:List Oper) (tab:List (List Nat)):Nat→List Oper→Bool
 |_,[]=>true
 |i,o::r=>(jaq L o).all (fun t=>jew L (tab.getD i []) i t)&&jix L tab (i+1) r
noncomputable def rdF [Globs] (st0:St) (nm:List Nat) (tm:List (Nat × V)):Operand→Option V
 | .tmp t=>match nm.contains t with
  |true=>jpy tm t
  |false=>none
 |x=>jb5 st0 x
def mkF [Globs] (L:List Oper) (tab:List (List Nat)) (st0:St) (o:Oper) (n:Nat) (tr:List Rec):Option Bool :=
 match ja3 tab n false false 0 L with
 |true=>some false
 |false=>jo1 L tab st0 o tr
noncomputable def jwi (P:Program) (op:Op) (rd:Operand→Option V) (bef:List Nat) (st0:St) (tr:List Rec):Option Rec :=
 match qLoadOp op with
 |true=>match loadAt op rd with
  |none=>none
  |some h=>match jlN (jam st0 tr) h with
   |none=>none
   |some x=>match jfd (fun j=>bef.contains j) st0 tr h&&jbp st0 bef h tr with
    |false=>none
    |true=>match qV P op rd [(h,x)]with
     |some v=>fV v fun v=>match jdy bef st0 tr v [] (jab st0 tr)with
      |true=>some ⟨v,jam st0 tr,jab st0 tr,0,[],none⟩
      |false=>none
     |none=>none
 |false=>none
where
 qLoadOp:Op→Bool
  | .load _ _=>true
  | .indexAddr _ _ _=>true
  | .call c=>match c.callee with
   | .builtin .len=>true
   |_=>false
  |_=>false
noncomputable def qdop (P:Program) (op:Op) (rd:Operand→Option V) (hp:Hp) (bef:List Nat) (st0:St) (tr:List Rec):Option Rec :=
 match qV P op rd hp with
 |some v=>fV v fun v=>match jdy bef st0 tr v [] (jab st0 tr)with
  |true=>some ⟨v,jam st0 tr,jab st0 tr,0,[],none⟩
  |false=>none
 |none=>none
noncomputable def jnh [Globs] (P:Program) (sp:jaa) (N:Nat) (L:List Oper) (tab:List (List Nat)) (st0:St) (o:Oper) (n:Nat) (bef:List Nat) (rd:Operand→Option V) (tr:List Rec):Option Rec :=
 match jb4 N o.dst with
 |false=>none
 |true =>
  match qdop P o.op rd [] bef st0 tr with
  |some r=>some r
  |none =>
  match ja1 P o.op rd []with
  |some (_,v)=>match jdy bef st0 tr v [] (jab st0 tr)with
   |true=>obC P o.op rd [] ⟨v,jam st0 tr,jab st0 tr,0,[],none⟩
   |false=>none
  |none =>
   match jav o.op with
   |true=>match jkr o.op with
    |true=>match ja1 P o.op rd (jfq bef st0 tr)with
     |some (_,v)=>match jdy bef st0 tr v [] (jab st0 tr)with
      |true=>obC P o.op rd (jfq bef st0 tr) ⟨v,jam st0 tr,jab st0 tr,0,[],none⟩
      |false=>none
     |none=>none
    |false=>none
   |false =>
    match jaD o.op with
    |true=>match jwi P o.op rd bef st0 tr with
     |some r=>some r
     |none=>match loadAt o.op rd with
     |none=>none
     |some h=>match find (jam st0 tr) h with
      |none=>none
      |some x=>match jfd (fun j=>bef.contains j) st0 tr h&&jbp st0 bef h tr with
       |false=>none
       |true=>match ja1 P o.op rd [(h,x)]with
        |none=>match je6 tab n 0 L&&jcX bef tr&&jao sp o.op rd with
         |false=>none
         |true=>match jbK P sp o.op rd (jlO bef st0 tr) (jab st0 tr)with
          |some res=>match jdy bef st0 tr res.v (jaU (jab st0 tr) res.hp) res.nx with
           |true=>obCall P sp o.op rd (jlO bef st0 tr) ⟨res.v,jaU (jab st0 tr) res.hp++jam st0 tr,res.nx,1,jaU (jab st0 tr) res.hp,none⟩
           |false=>none
          |none=>none
        |some (_,v)=>match jdy bef st0 tr v [] (jab st0 tr)with
         |true=>obC P o.op rd [(h,x)] ⟨v,jam st0 tr,jab st0 tr,0,[],none⟩
         |false=>none
    |false =>
    match jao sp o.op rd with
    |true=>match jbK P sp o.op rd (jlO bef st0 tr) (jab st0 tr)with
     |some res=>match jdy bef st0 tr res.v (jaU (jab st0 tr) res.hp) res.nx&&jnU bef tr (jaU (jab st0 tr) res.hp)with
      |true=>obCall P sp o.op rd (jlO bef st0 tr) ⟨res.v,jaU (jab st0 tr) res.hp++jam st0 tr,res.nx,1,jaU (jab st0 tr) res.hp,none⟩
      |false=>none
     |none=>none
    |false=>match mkF L tab st0 o n tr with
     |none=>none
     |some mk=>match jbK P sp o.op rd (jam st0 tr) (jab st0 tr)with
      |some res=>match jdy bef st0 tr res.v res.hp res.nx&&jo2 L tab st0 o tr mk res.hp with
       |true=>obCall P sp o.op rd (jam st0 tr) ⟨res.v,res.hp,res.nx,2,[],jbv L tab st0 o tr⟩
       |false=>none
      |none=>none
where
 obCall [Globs] (P:Program) (sp:jaa) (op:Op) (rd:Operand→Option V) (hp:Hp) (r:Rec):Option Rec :=
  match op with
  | .call c=>match c.callee with
   | .value _=>fV r.v fun v=>some { r with v:=v }
   |_=>obC P op rd hp r
  |op=>obC P op rd hp r
noncomputable def jlj (N:Nat) (st0:St) (o:Oper) (tr:List Rec):Option Rec :=
 match jb4 N o.dst with
 |false=>none
 |true=>some ⟨vu,jam st0 tr,jab st0 tr,0,[],none⟩
def jjy (o:Oper) (r:Rec) (tm:List (Nat × V)):List (Nat × V) :=
 match o.dst with
 |some d=>(d,r.v)::tm
 |none=>tm
noncomputable def jex [Globs] (P:Program) (sp:jaa) (N:Nat) (L:List Oper) (tab:List (List Nat)) (st0:St):List Oper→Nat→List (Nat × V)→List Rec→Option (List (Nat × V) × List Rec)
 |[],_,tm,tr=>some (tm,tr)
 |o::rest,n,tm,tr =>
  match o.guard with
  |none=>match jnh P sp N L tab st0 o n (tab.getD n []) (rdF st0 (jaq L o) tm) tr with
   |some r=>jex P sp N L tab st0 rest (n+1) (jjy o r tm) (r::tr)
   |none=>none
  |some (g,want) =>
   match jbI L g with
   |none=>none
   |some t =>
    match jpy tm t with
    |some (.w (.c (.d (.b b)))) =>
     match b,want with
     |true,true=>match jnh P sp N L tab st0 o n (tab.getD n []) (rdF st0 (jaq L o) tm) tr with
      |some r=>jex P sp N L tab st0 rest (n+1) (jjy o r tm) (r::tr)
      |none=>none
     |true,false=>match jlj N st0 o tr with
      |some r=>jex P sp N L tab st0 rest (n+1) (jjy o r tm) (r::tr)
      |none=>none
     |false,true=>match jlj N st0 o tr with
      |some r=>jex P sp N L tab st0 rest (n+1) (jjy o r tm) (r::tr)
      |none=>none
     |false,false=>match jnh P sp N L tab st0 o n (tab.getD n []) (rdF st0 (jaq L o) tm) tr with
      |some r=>jex P sp N L tab st0 rest (n+1) (jjy o r tm) (r::tr)
      |none=>none
    |some (.w (.c (.d (.v (.tuple _)))))=>match jlj N st0 o tr with
     |some r=>jex P sp N L tab st0 rest (n+1) (jjy o r tm) (r::tr)
     |none=>none
    |_=>none
noncomputable def jxO [Globs] (P:Program) (sp:jaa) (N:Nat) (ops:Array Oper) (st:St):Option St :=
 match jb9 ops.toList (jgt ops.toList []) 0 ops.toList&&jdm 0 ops.toList&&jix ops.toList (jgt ops.toList []) 0 ops.toList with
 |true=>match jex P sp N ops.toList (jgt ops.toList []) st ops.toList 0 st.tm []with
  |some (tm,tr)=>some ⟨tm,jam st tr,jab st tr⟩
  |none=>none
 |false=>none
noncomputable def jwj [Globs] (P:Program) (sp:jaa) (N:Nat) (ops:Array Oper) (st:St):Option St :=
 match jrM ops.toList with
 |[]=>jxO P sp N ops st
 |_::_=>none
noncomputable def joy (body:St→Option (Ex × St)) (n:Nat) (st:St):Option (Ex × St) :=
 Nat.rec (motive:=fun _=>St→Option (Ex × St)) (fun _=>none) (fun _ ih st=>match body st with
  |some (.normal,st')=>stG st' fun st'=>ih st'
  |x=>x) n st
noncomputable def jwk [Globs] (P:Program) (sp:jaa) (N:Nat) (ops:Array Oper) (draw:Bool) (st:St):Option (Ex × St) :=
 match draw with
 |false=>match cOps P sp N ops.toList ops.toList st with
  |some st'=>some (.normal,st')
  |none=>none
 |true=>match jwj P sp N ops st with
  |some st'=>stF 3 st' fun st'=>some (.normal,st')
  |none=>none
noncomputable def jcI (r:Option (Ex × St)) (y:St→Option (Ex × St)):Option (Ex × St) :=
 match r with
 |some (.normal,st')=>y st'
 |x=>x
noncomputable def jsE [Globs] (c:Operand) (x y:St→Option (Ex × St)) (st:St):Option (Ex × St) :=
 match rdQ st c with
 |some (.w (.c (.d (.b true))))=>x st
 |some (.w (.c (.d (.b false))))=>y st
 |_=>none
noncomputable def jpB (id:Nat) (r:Option (Ex × St)):Option (Ex × St) :=
 match r with
 |some (.exit j,st')=>match Nat.beq j id with
  |true=>some (.normal,st')
  |false=>some (.exit j,st')
 |x=>x
noncomputable def cx [Globs] (P:Program) (sp:jaa) (N fuel:Nat) (c:Code):St→Option (Ex × St) :=
 Code.rec (motive:=fun _=>St→Option (Ex × St)) (fun st=>some (.normal,st)) (fun _ ops draw st=>jwk P sp N ops draw st)
  (fun _ _ x y st=>jcI (x st) y) (fun c _ _ x y st=>jsE c x y st) (fun id _ x st=>jpB id (x st)) (fun _ x st=>joy x fuel st)
  (fun _ _ _ _ _ _ _=>none) (fun id st=>some (.exit id,st)) (fun _ _ _=>none) (fun _ st=>some (.normal,st)) (fun _ _=>none) (fun st=>some (.ret,st)) (fun _ _=>none) c
def jpC (P:Program) (st:St):ResultVar→Option W
 | .tmp t=>match jaE st.tm t with
  |some (.w u)=>some u
  |_=>none
 | .cell t ty=>match jaE st.tm t with
  |some (.w (.c (.p h i e j)))=>match find st.hp h with
   |some o=>match jcU P ty o i e j,jwa P ty o i e j with
    |some (_,.w u),true=>some u
    |_,_=>none
   |none=>none
  |_=>none
def jdp (P:Program) (st:St):List ResultVar→Option (List W)
 |[]=>some []
 |r::rs=>match jpC P st r,jdp P st rs with
  |some x,some l=>some (x::l)
  |_,_=>none
noncomputable def outF {α:Type} (n0:Nat) (v:V) (st:St) (k:Hp→α):α :=
 jiw n0 st.hp 6 (jq2 v 0) fun m=>hpF (fun h=>Nat.blt h n0||Nat.testBit m h) 0 0 st.hp k
def jgQ (hp:Hp) (v:V):V :=
 match v with
 | .w (.c (.o h))=>match find hp h with
  |some (.box _ _)=>.w (.c (.p h 0 1 0))
  |some (.ebox _)=>.w (.c (.p h 0 1 0))
  |some (.arr _ _ _ _)=>.w (.c (.p h 0 1 0))
  |_=>.w (.c (.o h))
 |v=>v
noncomputable def inl [Globs] (P:Program) (sp:jaa) (fn:Func) (body:Code) (fuel:Nat):Spec:=fun args hp nx =>
 match Nat.ble args.length fn.ntmps with
 |false=>none
 |true=>match cx P sp fn.ntmps fuel body ⟨jch 0 (args.map (jgQ hp)),hp,nx⟩with
  |some (e,st)=>match e with
   | .exit _=>none
   |_=>match jdp P st fn.results.toList,Nat.ble nx st.nx with
    |some l,true=>fV (jaV l) fun v=>outF nx v st fun hp'=>some (.leaf ⟨True,v,hp',st.nx⟩)
    |_,_=>none
  |none=>none
def roO:O→O
 | .row _ c=>extR c
 | .ext c=>extR c
 | .view _ c _=>extR c
 | .rrow c=>extR c
 | .fext c=>extR c
 | .sub _ _ _ _ _ c=>extR c
 | .box _ cs=>.ebox cs
 | .ebox cs=>.ebox cs
 | .lbox _ e n cs=>lstR e n cs
 | .lview _ e n cs=>lstR e n cs
 | .elist e n cs=>.elist e n cs
 | .xext x=>.xext x
 |_=>.dead
where
 extR (c:Cont):O:=match c.e with
  |0=>.dead
  |_+1=>.ext c
 lstR (e n:Nat) (cs:List C):O:=match e with
  |0=>.dead
  |e+1=>.elist (e+1) n cs
def jfM (hp:Hp):Hp:=hp.map fun x=>(x.1,roO x.2)
noncomputable def outN {α:Type} (n0:Nat) (v:V) (st:St) (k:Hp→α):α :=
 jiw n0 st.hp 6 (jq2 v 0) fun m=>hpF (fun h=>Nat.ble n0 h&&Nat.testBit m h) 0 0 st.hp k
def jsF (v:V) (hp:Hp) (nx:Nat) (hp':Hp):Option RT :=
 match hp'.all (fun x=>jeI x.2)with
 |true=>some (.leaf ⟨True,v,hp' ++ hp,nx⟩)
 |false=>none
noncomputable def jsG [Globs] (P:Program) (sp:jaa) (fn:Func) (body:Code) (fuel:Nat):Spec:=fun args hp nx =>
 match Nat.ble args.length fn.ntmps with
 |false=>none
 |true=>match cx P sp fn.ntmps fuel body ⟨jch 0 (args.map (jgQ hp)),jfM hp,nx⟩with
  |some (e,st)=>match e with
   | .exit _=>none
   |_=>match jdp P st fn.results.toList,Nat.ble nx st.nx with
    |some l,true=>fV (jaV l) fun v=>outN nx v st (jsF v hp st.nx)
    |_,_=>none
  |none=>none
noncomputable def jni [Globs] (P:Program) (ov:jaa) (ro:Nat→Bool) (fuel:Nat):Nat→jaa
 |0=>fun _=>none
 |n+1=>fun f=>match ov f with
  |some x=>some x
  |none=>match P.funcs[f]? with
   |some fn=>match fn.body,fn.name == "runtime.NumGoroutine" with
    |some body,false=>match ro f with
     |true=>some (true,jsG P (jni P ov ro fuel n) fn body fuel)
     |false=>some (false,inl P (jni P ov ro fuel n) fn body fuel)
    |_,_=>none
   |none=>none
end Go.Sx
end

section
open Go.RowKit
namespace Go.Sx
structure SubSt (s s0:St):Prop where
 tm:∀t v,jaE s.tm t=some v→jaE s0.tm t=some v
 hp:∀h o,find s.hp h=some o→find s0.hp h=some o
 nx:s.nx=s0.nx
theorem SubSt.refl (s:St):SubSt s s:=⟨fun _ _ h=>h,fun _ _ h=>h,rfl⟩
theorem SubSt.trans {a b c:St} (h:SubSt a b) (k:SubSt b c):SubSt a c:=⟨fun t v x=>k.tm t v (h.tm t v x),fun t v x=>k.hp t v (h.hp t v x),h.nx.trans k.nx⟩
theorem jnj {α:Type} (j:Nat) (st:St) (k:St→α):∃s,stF j st k=k s∧SubSt s st:=by
 unfold stF
 obtain⟨hp',h1,h2⟩:=jgO (live:=fun _=>true) st.hp j 0 (fun hp=>fN st.nx fun nx=>k ⟨st.tm,hp,nx⟩)
 exact⟨⟨st.tm,hp',st.nx⟩,by rw[h1,jbu],fun _ _ h=>h,fun h o hf=>(h2 h o hf).1,rfl⟩
theorem jzc {α:Type} (st:St) (k:St→α):∃s,stG st k=k s∧SubSt s st:=by
 unfold stG
 obtain⟨tm',h1,h2⟩:=jnf st.tm 0 (fun tm=>fN st.nx fun nx=>k ⟨tm,st.hp,nx⟩)
 exact⟨⟨tm',st.hp,st.nx⟩,by rw[h1,jbu],fun t v hf=>(h2 t v hf).1,fun _ _ h=>h,rfl⟩
theorem jfy {α:Type} (tm:List (Nat × V)) (hp:Hp) (nx:Nat) (k:St→α):jng tm hp nx k=k ⟨tm,hp,nx⟩:=by
 unfold jng
 cases hp with
 |nil=>exact jbu _ _
 |cons x r =>
  obtain⟨h,o⟩:=x
  show fO o _=_
  rw[jwe,jbu]
theorem jp9 {α:Type} (o:Oper) (r:Res) (st:St) (k:St→α):∃s,jpA o r st k=k s∧SubSt s (st.put o.dst r):=by
 have e:st.put o.dst ⟨True,r.v,r.hp,r.nx⟩=st.put o.dst r:=by cases o.dst<;>rfl
 unfold jpA
 rw[jc1,e]
 unfold jpA.putG
 split
 ·exact jnj _ _ _
 ·split
  ·rw[jbu]; exact⟨_,rfl,SubSt.refl _⟩
  ·exact jnj _ _ _
  ·exact⟨_,rfl,SubSt.refl _⟩
 ·exact⟨_,jfy _ _ _ _,SubSt.refl _⟩
 ·exact⟨_,jfy _ _ _ _,SubSt.refl _⟩
 ·exact⟨_,jfy _ _ _ _,SubSt.refl _⟩
 ·exact⟨_,jfy _ _ _ _,SubSt.refl _⟩
 ·exact⟨_,jfy _ _ _ _,SubSt.refl _⟩
 ·exact⟨_,rfl,SubSt.refl _⟩
def jbL (sp:jaa):Prop:=∀f M S args hp nx t,sp f=some (M,S)→S args hp nx=some t→t.sel.ob
section
variable [Globs] {P:Program} {B:Kd} {N n0:Nat} {sp:jaa} {ρ ρ0:Env} {w w0:World} {a:Act} {st:St} {ds:List Deferred}
theorem RelD.subSt {s:St} (h:RelD ds ρ B N n0 st a w) (hs:SubSt s st):RelD ds ρ B N n0 s a w:=by
 obtain⟨B1,g,hh⟩:=h.heap
 refine⟨fun t v hv=>?_,h.size,h.defers,⟨B1,g,?_⟩,h.le,by rw[hs.nx]; exact h.n0⟩
 ·rw[hs.nx]; exact h.tm t v (hs.tm t v hv)
 ·rw[hs.nx]; exact hh.sub fun k o hf=>hs.hp k o hf
theorem jwm {op:Op} {rd:Operand→Option V} {hp:Hp} {nx:Nat} {t:RT} (hfr:jbL sp) (h:jfV P sp op rd hp nx=some t):t.sel.ob:=by
 unfold jfV at h
 split at h
 ·split at h
  ·split at h
   ·rename_i r _ _
    cases h
    cases r.isSome<;>trivial
   ·cases h
  ·cases h
 ·split at h
  ·rename_i b _ _ _
   cases h
   cases joT b<;>trivial
  ·cases h
 ·split at h
  ·split at h
   ·split at h
    ·rename_i hsg
     exact hfr _ _ _ _ _ _ _ hsg h
    ·cases h
   ·split at h
    ·rename_i hsg
     exact hfr _ _ _ _ _ _ _ hsg h
    ·cases h
   ·cases h
  ·cases h
 ·cases h
theorem RT.sel_run:∀{t:RT} {k:Res→Prop},k t.sel→t.run k
 | .leaf _,_,h=>h
 | .br b x y,k,h=>by
  cases b
  ·exact RT.sel_run (t:=y) h
  ·exact RT.sel_run (t:=x) h
theorem jzd {o:Oper} {st':St} (hfr:jbL sp) (h:cOp P sp N o st=some st'):∃s0,SubSt st' s0∧jgr P sp N o st fun s=>s=s0:=by
 unfold cOp at h
 rw[jxM]at h
 split at h
 ·cases h
 ·rename_i hd
  split at h
  ·rename_i v hq
   rw[jc1]at h
   cases h
   obtain⟨hT,ob,hV,hob⟩:=jpz (P:=P) (sp:=sp) (nx:=st.nx) hq
   refine⟨_,SubSt.refl _,?_⟩
   unfold jgr
   rw[hT]
   have hs:jbK P sp o.op (jb5 st) st.hp st.nx=some ⟨ob,v,st.hp,st.nx⟩:=by unfold jbK; rw[hV]
   simp only[hs,hd]
   have e:st.put o.dst ⟨ob,v,st.hp,st.nx⟩=st.put o.dst ⟨True,v,st.hp,st.nx⟩:=by cases o.dst<;>rfl
   split
   ·exact e
   ·exact⟨⟨hob⟩,e⟩
  ·split at h
   ·rename_i t ht
    obtain⟨s,h1,h2⟩:=jp9 o t.sel st some
    rw[h1]at h
    cases h
    refine⟨_,h2,?_⟩
    unfold jgr
    simp only[ht,hd]
    exact RT.sel_run ⟨⟨jwm hfr ht⟩,rfl⟩
   ·rename_i hT
    split at h
    ·rename_i r hr
     obtain⟨s,h1,h2⟩:=jp9 o r st some
     split at h
     ·rename_i ht
      rw[h1]at h
      cases h
      refine⟨_,h2,?_⟩
      unfold jgr
      simp only[hT,hr,hd,ht]
     ·rename_i ht hb
      rw[h1]at h
      cases h
      refine⟨_,h2,?_⟩
      unfold jgr
      simp only[hT,hr,hd,ht]
      exact⟨⟨b_ob hb hr⟩,trivial⟩
     ·cases h
    ·cases h
theorem jlk {o:Oper} {st':St} {K:Act→World→Prop} {Q:Exit→Act→World→Prop} (hsp:jac P sp) (hfr:jbL sp) (hr:RelD ds ρ B N n0 st a w) (hag:jae n0 ρ0 ρ) (hbl:Bel B w0 w) (h:cOp P sp N o st=some st')
  (hK:∀ρ' a' w',RelD ds ρ' B N n0 st' a' w'→jae n0 ρ0 ρ'→Bel B w0 w'→K a' w'):o.wp P a w K Q:=by
 obtain⟨s0,h1,h2⟩:=jzd hfr h
 refine jeg hsp hr hag hbl h2 fun ρ' s a' w' q1 q2 q3 q4=>?_
 subst q4
 exact hK ρ' a' w' (q1.subSt h1) q2 q3
theorem jhV {o:Oper} {st':St} {K:Act→World→Prop} (hr:RelD ds ρ B N n0 st a w) (hag:jae n0 ρ0 ρ) (hbl:Bel B w0 w) (h:jox N o st=some st')
  (hK:∀ρ' a' w',RelD ds ρ' B N n0 st' a' w'→jae n0 ρ0 ρ'→Bel B w0 w'→K a' w'):K (a.put o.dst undef) w:=by
 unfold jox at h
 split at h
 ·rename_i hd
  cases h
  exact hK ρ _ w (hr.skip hd) hag hbl
 ·cases h
theorem joz {all:List Oper} {st':St} {Q:Exit→Act→World→Prop} (hsp:jac P sp) (hfr:jbL sp)
  (hQ:∀ρ' a' w',RelD ds ρ' B N n0 st' a' w'→jae n0 ρ0 ρ'→Bel B w0 w'→Q .normal a' w') :
  ∀(l:List Oper) (ρ:Env) (st:St) (a:Act) (w:World),RelD ds ρ B N n0 st a w→jae n0 ρ0 ρ→Bel B w0 w→cOps P sp N all l st=some st'→wpList P all.toArray Q l a w
 |[],ρ,st,a,w,hr,hag,hbl,h=>by
  cases (show some st=some st' from h)
  exact hQ ρ a w hr hag hbl
 |o::r,ρ,st,a,w,hr,hag,hbl,h=>by
  have h:Option.rec (motive:=fun _=>Option St) none (fun st1=>cOps P sp N all r st1) (cOne P sp N all o st)=some st':=h
  cases h1:cOne P sp N all o st with
  |none=>rw[h1]at h; cases h
  |some st1 =>
   rw[h1]at h
   have h:cOps P sp N all r st1=some st':=h
   have ih:=fun ρ' a' w' (h1:RelD ds ρ' B N n0 st1 a' w') h2 h3=>joz (all:=all) hsp hfr hQ r ρ' st1 a' w' h1 h2 h3 h
   unfold wpList
   unfold cOne at h1
   split at h1
   ·rename_i hg
    have hw:Region.wanted o (yielded all.toArray a.tmps)=true:=by simp[Region.wanted,hg]
    rw[if_pos hw]
    exact .inl (jlk hsp hfr hr hag hbl h1 ih)
   ·rename_i j want hg
    have hwanted:∀ob,yielded all.toArray a.tmps j=ob→Region.wanted o (yielded all.toArray a.tmps)=(ob==some want):=fun ob hob=>by simp[Region.wanted,hg,hob]
    rw[jd9]at h1
    split at h1
    ·cases h1
    ·rename_i t ht
     rw[jiv]at h1
     split at h1
     ·rename_i b hget
      have hgo:jeG all j st=some (t,.w (.c (.d (.b b)))):=by unfold jeG; rw[ht]; simp[hget]
      obtain⟨hy,_⟩:=jdD hr hgo (.inr rfl)
      have hw:=hwanted _ hy
      have hval:(V.w (.c (.d (.b b)))).val ρ=.bool b:=rfl
      rw[hval]at hw
      cases b<;>cases want<;>dsimp only at h1
      ·rw[if_pos (by rw[hw]; rfl)]
       exact .inl (jlk hsp hfr hr hag hbl h1 ih)
      ·rw[if_neg (by rw[hw]; simp)]
       exact jhV hr hag hbl h1 ih
      ·rw[if_neg (by rw[hw]; simp)]
       exact jhV hr hag hbl h1 ih
      ·rw[if_pos (by rw[hw]; rfl)]
       exact .inl (jlk hsp hfr hr hag hbl h1 ih)
     ·rename_i vs hget
      have hgo:jeG all j st=some (t,.w (.c (.d (.v (.tuple vs))))):=by unfold jeG; rw[ht]; simp[hget]
      obtain⟨hy,_⟩:=jdD hr hgo (.inr rfl)
      have hw:=hwanted _ hy
      have hval:(V.w (.c (.d (.v (.tuple vs))))).val ρ=.tuple vs:=rfl
      rw[hval]at hw
      rw[if_neg (by rw[hw]; simp)]
      exact jhV hr hag hbl h1 ih
     ·cases h1
end
end Go.Sx
end

section
open Go.RowKit
namespace Go.Sx
section
variable [Globs] {P:Program} {B:Kd} {N n0:Nat} {sp:jaa} {ρ ρ0:Env} {w w0:World} {a:Act} {st:St} {ds:List Deferred}
theorem jfz {t:Bool} {ob k:Prop} (h:t=true∨ob) (hk:k):obT t ob k:=by
 cases t with
 |true=>exact hk
 |false=>exact⟨⟨h.elim (fun h=>by cases h) id⟩,hk⟩
theorem jjz {op:Op} {rd:Operand→Option V} {hp:Hp} {r r':Rec} (h:obC P op rd hp r=some r'):r'=r∧(ja6 op rd hp=true∨obB P op rd hp=true):=by
 unfold obC at h
 split at h
 ·rename_i ht
  rw[jc1]at h
  cases h
  exact⟨rfl,.inl ht⟩
 ·rename_i ht hb
  rw[jc1]at h
  cases h
  exact⟨rfl,.inr hb⟩
 ·cases h
theorem jwn {op:Op} {rd:Operand→Option V} {hp:Hp} {ob:Prop} {v:V} (ht:obB P op rd hp=true) (h:ja1 P op rd hp=some (ob,v)):ob:=by
 unfold ja1 at h
 split at h
 ·rename_i p hp0
  cases h
  exact jxK ht hp0
 ·exact jzJ ht h
theorem jhW {op:Op} {rd:Operand→Option V} {hp:Hp} {nx:Nat} {r r':Rec} {res:Res} (hfr:jbL sp) (hs:jbK P sp op rd hp nx=some res) (h:jnh.obCall P sp op rd hp r=some r'):r'=r∧(ja6 op rd hp=true∨res.ob):=by
 unfold jnh.obCall at h
 have gen:obC P op rd hp r=some r'→r'=r∧(ja6 op rd hp=true∨res.ob):=fun h=>by
  obtain⟨h1,h2⟩:=jjz h
  exact⟨h1,h2.imp id fun hb=>b_ob hb hs⟩
 split at h
 ·rename_i c
  split at h
  ·rename_i f hc
   rw[jc1]at h
   cases h
   refine⟨rfl,.inr ?_⟩
   have h1:ja1 P (.call c) rd hp=none:=by simp[ja1,jaZ,je3,hc]
   have h2:jcW P (.call c) rd hp nx=none:=by simp[jcW]
   have h3:jdz P (.call c) rd hp nx=none:=by simp[jdz]
   have h4:jed P (.call c) rd hp nx=none:=by simp[jed,hc]
   have h5:jdB P (.call c) rd hp nx=none:=by simp[jdB,hc]
   have h6:jdA P (.call c) rd hp nx=none:=by simp[jdA,hc]
   unfold jbK at hs
   simp only[h1,h2,h3,h4,h5,h6]at hs
   unfold jg3 at hs
   dsimp only at hs
   simp only[hc]at hs
   split at hs
   ·split at hs
    ·rename_i M S hsg
     obtain⟨t,ht,hl⟩:=Option.bind_eq_some_iff.1 hs
     have:=hfr _ _ _ _ _ _ _ hsg ht
     cases t with
     |leaf r0=>cases hl; exact this
     |br=>cases hl
    ·cases hs
   ·split at hs
    ·rename_i M S hsg
     obtain⟨t,ht,hl⟩:=Option.bind_eq_some_iff.1 hs
     have:=hfr _ _ _ _ _ _ _ hsg ht
     cases t with
     |leaf r0=>cases hl; exact this
     |br=>cases hl
    ·cases hs
   ·cases hs
  ·exact gen h
 ·exact gen h
theorem jxP {op:Op} {rd:Operand→Option V} {hp:Hp} {bef:List Nat} {st0:St} {tr:List Rec} {r:Rec} (h:qdop P op rd hp bef st0 tr=some r) :
  ∃v ob,ja1 P op rd hp=some (ob,v)∧ob∧ja0 bef st0 tr v [] (jab st0 tr)=true∧r=⟨v,jam st0 tr,jab st0 tr,0,[],none⟩:=by
 unfold qdop at h
 split at h
 ·rename_i v hq
  rw[jc1]at h
  split at h
  ·rename_i ho
   cases h
   rw[jli]at ho
   obtain⟨_,ob,h1,h2⟩:=jpz (P:=P) (sp:=fun _=>none) (nx:=0) hq
   exact⟨v,ob,h1,h2,ho,rfl⟩
  ·cases h
 ·cases h
theorem jwo {op:Op} {rd:Operand→Option V} {bef:List Nat} {st0:St} {tr:List Rec} {r:Rec} (h:jwi P op rd bef st0 tr=some r) :
  ∃h x v ob,loadAt op rd=some h∧find (jam st0 tr) h=some x∧(jar (fun j=>bef.contains j) st0 tr h&&jbp st0 bef h tr)=true∧ja1 P op rd [(h,x)]=some (ob,v)∧ob∧ja0 bef st0 tr v [] (jab st0 tr)=true∧r=⟨v,jam st0 tr,jab st0 tr,0,[],none⟩:=by
 unfold jwi at h
 split at h
 ·split at h
  ·cases h
  ·rename_i k hk
   split at h
   ·cases h
   ·rename_i x hx
    rw[jdi]at hx
    split at h
    ·cases h
    ·rename_i hb
     rw[jgP]at hb
     split at h
     ·rename_i v hq
      rw[jc1]at h
      split at h
      ·rename_i ho
       cases h
       rw[jli]at ho
       obtain⟨_,ob,h1,h2⟩:=jpz (P:=P) (sp:=fun _=>none) (nx:=0) hq
       exact⟨k,x,v,ob,hk,hx,hb,h1,h2,ho,rfl⟩
      ·cases h
     ·cases h
 ·cases h
theorem joA {tab:List (List Nat)} {i:Nat} {lf:Bool}:∀{l:List Oper} {k:Nat},ja3 tab i false false k l=true→ja3 tab i lf false k l=true
 |[],_,_=>rfl
 |o::r,k,h=>by
  simp only[ja3,Bool.and_eq_true,Bool.or_eq_true]at h ⊢
  refine⟨?_,joA h.2⟩
  rcases h.1 with ((((h1|h1)|h1)|h1)|h1)|h1
  ·exact .inl (.inl (.inl (.inl (.inl h1))))
  ·exact .inl (.inl (.inl (.inl (.inr h1))))
  ·exact .inl (.inl (.inl (.inr h1)))
  ·exact .inl (.inl (.inr h1))
  ·cases h1.1
  ·cases h1.1.1
theorem jA3 {L:List Oper} {tab:List (List Nat)} {st0:St} {o:Oper} {tr:List Rec}:mkF L tab st0 o tr.length tr=jo1 L tab st0 o tr:=by
 unfold mkF
 split
 ·rename_i h
  unfold jo1
  rw[joA h]
 ·rfl
theorem jlP {L:List Oper} {bef:List Nat} {st0:St} {t:Nat}:∀{tr:List Rec},jew L bef tr.length t=true→jb2 L bef st0 t tr=jaE (jdL L st0 tr) t
 |[],_=>rfl
 |r::tr,h=>by
  unfold jew at h
  simp only[List.length_cons,jq3]at h
  simp only[jb2,jdL]
  cases hd:jbI L tr.length with
  |none =>
   rw[hd]at h
   dsimp only at h ⊢
   exact jlP (by unfold jew; exact h)
  |some d =>
   rw[hd]at h
   dsimp only at h ⊢
   by_cases e:d=t
   ·rw[if_pos e]at h ⊢
    dsimp only at h
    rw[h]
    simp only[jaE,if_pos e]
   ·rw[if_neg e]at h ⊢
    simp only[jaE,if_neg e]
    exact jlP (by unfold jew; exact h)
theorem jll {L:List Oper} {tab:List (List Nat)}:∀{l:List Oper} {k:Nat},jix L tab k l=true→∀m o,l[m]?=some o→∀t∈jaq L o,jew L (tab.getD (k+m) []) (k+m) t=true
 |[],_,_,_,_,h=>by simp at h
 |o' :: r,k,hs,m,o,h=>by
  simp only[jix,Bool.and_eq_true]at hs
  cases m with
  |zero =>
   simp at h
   subst h
   exact fun t ht=>List.all_eq_true.1 hs.1 t ht
  |succ m =>
   intro t ht
   have:=jll hs.2 m o (by simpa using h) t ht
   rw[show k+(m+1)=k+1+m by omega]
   exact this
theorem jA4 {L:List Oper} {tab:List (List Nat)} {st0:St} {o:Oper} {tr:List Rec} (h:∀t∈jaq L o,jew L (tab.getD tr.length []) tr.length t=true) :
  rdF st0 (jaq L o) (jdL L st0 tr)=ja4 L (jaq L o) (tab.getD tr.length []) st0 tr:=by
 funext x
 cases x with
 |tmp t =>
  simp only[rdF,ja4]
  cases hc:(jaq L o).contains t with
  |false=>rfl
  |true =>
   dsimp only
   rw[jiv,jlP (h t (by simpa using hc))]
 |_=>rfl
theorem jqa {L:List Oper} {tab:List (List Nat)} {st0:St} {o:Oper} {tr:List Rec} {r:Rec} {k:Rec→Prop} (hfr:jbL sp) (hrd:∀t∈jaq L o,jew L (tab.getD tr.length []) tr.length t=true) (h:jnh P sp N L tab st0 o tr.length (tab.getD tr.length []) (rdF st0 (jaq L o) (jdL L st0 tr)) tr=some r) (hk:k r):dop P sp N L tab st0 o tr k:=by
 rw[jA4 hrd]at h
 unfold jnh at h
 simp only[jli,jgP,jy9,jA3]at h
 unfold dop
 split at h
 ·cases h
 ·rename_i hd
  rw[hd]
  dsimp only
  split at h
  ·rename_i r' hq
   cases h
   obtain⟨v,ob,h1,h2,h3,rfl⟩:=jxP hq
   rw[h1]
   dsimp only
   rw[h3]
   exact jfz (.inr h2) hk
  ·split at h
   ·rename_i ob v hv
    split at h
    ·rename_i ho
     rw[hv]
     dsimp only
     rw[ho]
     obtain⟨rfl,h2⟩:=jjz h
     exact jfz (h2.imp id fun hb=>jwn hb hv) hk
    ·cases h
   ·rename_i hv
    rw[hv]
    dsimp only
    split at h
    ·rename_i hsp
     rw[hsp]
     dsimp only
     split at h
     ·rename_i hb
      rw[hb]
      dsimp only
      split at h
      ·rename_i ob v hv2
       rw[hv2]
       dsimp only
       split at h
       ·rename_i ho
        rw[ho]
        obtain⟨rfl,h2⟩:=jjz h
        exact jfz (h2.imp id fun hb=>jwn hb hv2) hk
       ·cases h
      ·cases h
     ·cases h
    ·rename_i hsp
     rw[hsp]
     dsimp only
     split at h
     ·rename_i hl
      rw[hl]
      dsimp only
      split at h
      ·rename_i r' hq
       cases h
       obtain⟨k',x,v,ob,q1,q2,q3,q4,q5,q6,rfl⟩:=jwo hq
       rw[q1]
       dsimp only
       rw[q2]
       dsimp only
       rw[q3]
       dsimp only
       rw[q4]
       dsimp only
       rw[q6]
       exact jfz (.inr q5) hk
      ·split at h
       ·cases h
       rename_i h' hla
       rw[hla]
       dsimp only
       split at h
       ·cases h
       ·rename_i x hx
        rw[hx]
        dsimp only
        split at h
        ·cases h
        ·rename_i hb
         rw[hb]
         dsimp only
         split at h
         ·rename_i hv2
          rw[hv2]
          dsimp only
          split at h
          ·cases h
          ·rename_i hmk
           rw[hmk]
           dsimp only
           split at h
           ·rename_i res hs
            rw[hs]
            dsimp only
            split at h
            ·rename_i ho
             rw[ho]
             obtain⟨rfl,h2⟩:=jhW hfr hs h
             exact jfz h2 hk
            ·cases h
           ·cases h
         ·rename_i ob v hv2
          rw[hv2]
          dsimp only
          split at h
          ·rename_i ho
           rw[ho]
           obtain⟨rfl,h2⟩:=jjz h
           exact jfz (h2.imp id fun hb=>jwn hb hv2) hk
          ·cases h
     ·rename_i hl
      rw[hl]
      dsimp only
      split at h
      ·rename_i hm
       rw[hm]
       dsimp only
       split at h
       ·rename_i res hs
        rw[hs]
        dsimp only
        split at h
        ·rename_i ho
         rw[ho]
         obtain⟨rfl,h2⟩:=jhW hfr hs h
         exact jfz h2 hk
        ·cases h
       ·cases h
      ·rename_i hm
       rw[hm]
       dsimp only
       split at h
       ·cases h
       ·rename_i hf
        rw[hf]
        dsimp only
        split at h
        ·rename_i res hs
         rw[hs]
         dsimp only
         split at h
         ·rename_i ho
          rw[ho]
          obtain⟨rfl,h2⟩:=jhW hfr hs h
          exact jfz h2 hk
         ·cases h
        ·cases h
theorem jmx {st0:St} {o:Oper} {tr:List Rec} {r:Rec} {k:Rec→Prop} (h:jlj N st0 o tr=some r) (hk:k r):jiV N st0 o tr k:=by
 unfold jlj at h
 unfold jiV
 split at h
 ·cases h
 ·rename_i hd
  cases h
  rw[hd]
  exact hk
theorem jAi {L:List Oper} {st0:St} {o:Oper} {r:Rec} {tr:List Rec} (h:L[tr.length]?=some o):jjy o r (jdL L st0 tr)=jdL L st0 (r::tr):=by
 simp only[jjy,jdL,jbI,h,Option.bind_some]
 cases o.dst<;>rfl
theorem joB {L:List Oper} {tab:List (List Nat)} {st0:St} (hfr:jbL sp) (hrd:jix L tab 0 L=true):∀(l:List Oper) (tr:List Rec) (tm':List (Nat × V)) (tr':List Rec) (k:List Rec→Prop),L=L.take tr.length++l→tr.length+l.length=L.length →
  jex P sp N L tab st0 l tr.length (jdL L st0 tr) tr=some (tm',tr')→(tm'=jdL L st0 tr'→k tr')→jeJ P sp N L tab st0 l tr k
 |[],tr,tm',tr',k,_,_,h,hk=>by
  unfold jex at h
  cases h
  exact hk rfl
 |o::r,tr,tm',tr',k,hL,hlen,h,hk=>by
  have hlt:tr.length<L.length:=by simp at hlen; omega
  have ho:L[tr.length]?=some o:=by
   rw[hL,List.getElem?_append_right (by simp; omega)]
   simp[Nat.min_eq_left (Nat.le_of_lt hlt)]
  have hro:∀t∈jaq L o,jew L (tab.getD tr.length []) tr.length t=true:=fun t ht=>by
   have:=jll hrd tr.length o ho t ht
   simpa using this
  have next:∀rc,jex P sp N L tab st0 r (tr.length+1) (jjy o rc (jdL L st0 tr)) (rc::tr)=some (tm',tr')→jeJ P sp N L tab st0 r (rc::tr) k:=fun rc hrc=>by
   refine joB hfr hrd r (rc::tr) tm' tr' k ?_ (by simp at hlen ⊢; omega) (by rw[←jAi ho]; exact hrc) hk
   have h1:L.take (tr.length+1)=L.take tr.length++[o]:=by
    rw[List.take_succ_eq_append_getElem hlt]
    congr 2
    have:=List.getElem?_eq_getElem hlt
    rw[this]at ho
    exact Option.some.inj ho
   simp only[List.length_cons,h1,List.append_assoc,List.singleton_append]
   exact hL
  unfold jex at h
  unfold jeJ
  split at h
  ·rename_i hg
   rw[hg]
   dsimp only
   split at h
   ·rename_i rc hc
    exact jqa hfr hro hc (next rc h)
   ·cases h
  ·rename_i g want hg
   rw[hg]
   dsimp only
   split at h
   ·cases h
   ·rename_i t ht
    rw[ht]
    dsimp only
    have hnm:t∈jaq L o:=by
     unfold jaq
     rw[hg]
     simp[ht]
    rw[jiv,←jlP (hro t hnm)]at h
    split at h
    ·rename_i b hs
     have hset:jcY L t (vb b) tr=tr:=jfY hs
     rw[hs]
     dsimp only
     cases b<;>cases want<;>dsimp only[Br]at h ⊢ <;> split at h<;>rw[hset]<;>first
      |(rename_i rc hc; exact jqa hfr hro hc (next rc h))
      |(rename_i rc hc; exact jmx hc (next rc h))
      |cases h
    ·rename_i vs hs
     rw[hs]
     dsimp only
     split at h
     ·rename_i rc hc
      exact jmx hc (next rc h)
     ·cases h
    ·cases h
theorem jwp {ops:Array Oper} {s0:St} (hfr:jbL sp) (h:jwj P sp N ops st=some s0):jcZ P sp N ops st fun s=>s=s0:=by
 unfold jwj at h
 unfold jcZ
 split at h
 ·rename_i hf
  rw[hf]
  dsimp only
  unfold jxO at h
  unfold jks
  split at h
  ·rename_i hs
   rw[Bool.and_eq_true]at hs
   rw[hs.1]
   dsimp only
   split at h
   ·rename_i tm tr htr
    cases h
    exact joB hfr hs.2 ops.toList [] tm tr _ (by simp) (by simp) htr fun e=>by rw[e]; rfl
   ·cases h
  ·cases h
 ·cases h
theorem jcm {fuel:Nat} (hsp:jac P sp) (hfr:jbL sp) (hdr:jgc P B N n0 ρ0 w0 (jcZ P sp N)) :
  ∀(c:Code) (st:St) (ρ:Env) (a:Act) (w:World) (e:Ex) (st':St),cx P sp N fuel c st=some (e,st')→RelD ds ρ B N n0 st a w→jae n0 ρ0 ρ→Bel B w0 w →
   c.wp P (Qx ds ρ0 B N n0 w0 fun e' s=>e'=e∧s=st') a w
 | .skip,st,ρ,a,w,e,st',h,hr,hag,hbl=>by
  cases (show some (Ex.normal,st)=some (e,st')from h)
  exact wp_skip ⟨.normal,ρ,st,rfl,⟨rfl,rfl⟩,hr,hag,hbl⟩
 | .label l,st,ρ,a,w,e,st',h,hr,hag,hbl=>by
  cases (show some (Ex.normal,st)=some (e,st')from h)
  exact wp_label ⟨.normal,ρ,st,rfl,⟨rfl,rfl⟩,hr,hag,hbl⟩
 | .region id ops draw,st,ρ,a,w,e,st',h,hr,hag,hbl=>by
  have h:jwk P sp N ops draw st=some (e,st'):=h
  unfold jwk at h
  cases draw with
  |false =>
   dsimp only at h
   split at h
   ·rename_i s1 hs
    cases h
    refine wp_region_list ?_
    have:=joz (P:=P) (Q:=Qx ds ρ0 B N n0 w0 fun e' s=>e'=.normal∧s=st') (all:=ops.toList) hsp hfr (fun ρ' a' w' h1 h2 h3=>⟨.normal,ρ',st',rfl,⟨rfl,rfl⟩,h1,h2,h3⟩) ops.toList ρ st a w hr hag hbl hs
    simpa using this
   ·cases h
  |true =>
   dsimp only at h
   split at h
   ·rename_i s1 hs
    obtain⟨s2,h1,h2⟩:=jnj 3 s1 (fun s=>some (Ex.normal,s))
    rw[h1]at h
    cases h
    exact hdr id ops st _ ρ a w _ (jwp hfr hs) hr hag hbl (fun ρ' s a' w' q1 q2 q3 q4=>by
     subst q4
     exact⟨.normal,ρ',st',rfl,⟨rfl,rfl⟩,q1.subSt h2,q2,q3⟩)
   ·cases h
 | .seq x y,st,ρ,a,w,e,st',h,hr,hag,hbl=>by
  have h:jcI (cx P sp N fuel x st) (cx P sp N fuel y)=some (e,st'):=h
  unfold jcI at h
  refine wp_seq ?_
  split at h
  ·rename_i s1 hs
   refine wp_mono (jcm hsp hfr hdr x st ρ a w _ _ hs hr hag hbl) ?_
   rintro e1 a1 w1 ⟨ex,ρ1,s2,rfl,⟨rfl,rfl⟩,hr1,hag1,hbl1⟩
   exact jcm hsp hfr hdr y s2 ρ1 a1 w1 _ _ h hr1 hag1 hbl1
  ·rename_i hne
   refine wp_mono (jcm hsp hfr hdr x st ρ a w _ _ h hr hag hbl) ?_
   rintro e1 a1 w1 ⟨ex,ρ1,s2,rfl,⟨rfl,rfl⟩,hr1,hag1,hbl1⟩
   cases ex with
   |normal=>exact(hne _ h).elim
   |exit j=>exact⟨.exit j,ρ1,_,rfl,⟨rfl,rfl⟩,hr1,hag1,hbl1⟩
   |ret=>exact⟨.ret,ρ1,_,rfl,⟨rfl,rfl⟩,hr1,hag1,hbl1⟩
 | .cond c x y,st,ρ,a,w,e,st',h,hr,hag,hbl=>by
  have h:jsE c (cx P sp N fuel x) (cx P sp N fuel y) st=some (e,st'):=h
  unfold jsE at h
  rw[jxM]at h
  split at h
  ·rename_i hc
   exact wp_cond_true (jkn hr (b:=true) (by rw[hc]; rfl)) (jcm hsp hfr hdr x st ρ a w _ _ h hr hag hbl)
  ·rename_i hc
   exact wp_cond_false (jkn hr (b:=false) (by rw[hc]; rfl)) (jcm hsp hfr hdr y st ρ a w _ _ h hr hag hbl)
  ·cases h
 | .block id c,st,ρ,a,w,e,st',h,hr,hag,hbl=>by
  have h:jpB id (cx P sp N fuel c st)=some (e,st'):=h
  unfold jpB at h
  refine wp_block ?_
  split at h
  ·rename_i j s1 hs
   refine wp_mono (jcm hsp hfr hdr c st ρ a w _ _ hs hr hag hbl) ?_
   rintro e1 a1 w1 ⟨ex,ρ1,s2,rfl,⟨rfl,rfl⟩,hr1,hag1,hbl1⟩
   simp only[Ex.toExit,Exit.inBlock]
   split at h
   ·rename_i hj
    cases h
    rw[if_pos (Nat.eq_of_beq_eq_true hj)]
    exact⟨.normal,ρ1,_,rfl,⟨rfl,rfl⟩,hr1,hag1,hbl1⟩
   ·rename_i hj
    cases h
    rw[if_neg (fun e=>by subst e; rw[Nat.beq_refl]at hj; cases hj)]
    exact⟨.exit j,ρ1,_,rfl,⟨rfl,rfl⟩,hr1,hag1,hbl1⟩
  ·rename_i hne
   refine wp_mono (jcm hsp hfr hdr c st ρ a w _ _ h hr hag hbl) ?_
   rintro e1 a1 w1 ⟨ex,ρ1,s2,rfl,⟨rfl,rfl⟩,hr1,hag1,hbl1⟩
   cases ex with
   |normal=>exact⟨.normal,ρ1,_,rfl,⟨rfl,rfl⟩,hr1,hag1,hbl1⟩
   |exit j=>exact(hne _ _ h).elim
   |ret=>exact⟨.ret,ρ1,_,rfl,⟨rfl,rfl⟩,hr1,hag1,hbl1⟩
 | .loop c,st,ρ,a,w,e,st',h,hr,hag,hbl=>by
  have h:joy (cx P sp N fuel c) fuel st=some (e,st'):=h
  refine wp_loop_rounds fuel ?_
  have key:∀(n:Nat) (st:St) (ρ:Env) (a:Act) (w:World),joy (cx P sp N fuel c) n st=some (e,st')→RelD ds ρ B N n0 st a w→jae n0 ρ0 ρ→Bel B w0 w→Code.rounds P c (Qx ds ρ0 B N n0 w0 fun e' s=>e'=e∧s=st') n a w:=by
   intro n
   induction n with
   |zero=>intro st ρ a w h; cases (show none=some (e,st')from h)
   |succ n ih =>
    intro st ρ a w h hr hag hbl
    have h:(match cx P sp N fuel c st with
     |some (.normal,st1)=>stG st1 fun st1=>joy (cx P sp N fuel c) n st1
     |x=>x)=some (e,st'):=h
    rw[rounds_succ]
    split at h
    ·rename_i s1 hs
     obtain⟨s2,h1,h2⟩:=jzc s1 (fun s=>joy (cx P sp N fuel c) n s)
     rw[h1]at h
     refine wp_mono (jcm hsp hfr hdr c st ρ a w _ _ hs hr hag hbl) ?_
     rintro e1 a1 w1 ⟨ex,ρ1,s3,rfl,⟨rfl,rfl⟩,hr1,hag1,hbl1⟩
     exact ih s2 ρ1 a1 w1 h (hr1.subSt h2) hag1 hbl1
    ·rename_i hne
     refine wp_mono (jcm hsp hfr hdr c st ρ a w _ _ h hr hag hbl) ?_
     rintro e1 a1 w1 ⟨ex,ρ1,s2,rfl,⟨rfl,rfl⟩,hr1,hag1,hbl1⟩
     cases ex with
     |normal=>exact(hne _ h).elim
     |exit j=>exact⟨.exit j,ρ1,_,rfl,⟨rfl,rfl⟩,hr1,hag1,hbl1⟩
     |ret=>exact⟨.ret,ρ1,_,rfl,⟨rfl,rfl⟩,hr1,hag1,hbl1⟩
  exact key fuel st ρ a w h hr hag hbl
 | .exit id,st,ρ,a,w,e,st',h,hr,hag,hbl=>by
  cases (show some (Ex.exit id,st)=some (e,st')from h)
  exact wp_exit ⟨.exit id,ρ,st,rfl,⟨rfl,rfl⟩,hr,hag,hbl⟩
 | .ret,st,ρ,a,w,e,st',h,hr,hag,hbl=>by
  cases (show some (Ex.ret,st)=some (e,st')from h)
  exact wp_ret ⟨.ret,ρ,st,rfl,⟨rfl,rfl⟩,hr,hag,hbl⟩
 | .scope c,st,ρ,a,w,e,st',h,_,_,_=>by cases (show none=some (e,st')from h)
 | .goto l,st,ρ,a,w,e,st',h,_,_,_=>by cases (show none=some (e,st')from h)
 | .rangeFunc f ps x y,st,ρ,a,w,e,st',h,_,_,_=>by cases (show none=some (e,st')from h)
 | .refuse s,st,ρ,a,w,e,st',h,_,_,_=>by cases (show none=some (e,st')from h)
end
end Go.Sx
end

section
open Go.RowKit
namespace Go.Sx
section
variable [Globs] {P:Program} {B:Kd} {sp:jaa} {ρ:Env} {w:World} {hp:Hp} {nx:Nat}
theorem jsH {st:St} {r:ResultVar} {u:W} (h:jpC P st r=some u):∃ob,jkp P st r=some (ob,u)∧ob:=by
 unfold jpC at h
 unfold jkp
 split at h
 ·split at h
  ·rename_i u' hg
   cases h
   exact⟨True,by simp only[hg],trivial⟩
  ·cases h
 ·split at h
  ·rename_i k i e j hg
   split at h
   ·rename_i o hf
    split at h
    ·rename_i ob u' hr hb
     cases h
     exact⟨ob,by simp only[hg,hf,hr],juS hr hb⟩
    ·cases h
   ·cases h
  ·cases h
theorem jlm {st:St}:∀{rs:List ResultVar} {l:List W},jdp P st rs=some l→∃l',jei P st rs=some l'∧l'.map (·.2)=l∧∀k:Prop,k→jia l' k
 |[],l,h=>by
  simp only[jdp,Option.some.injEq]at h
  subst h
  exact⟨[],rfl,rfl,fun _ h=>h⟩
 |r::rs,l,h=>by
  simp only[jdp]at h
  split at h
  ·rename_i x l1 h1 h2
   cases h
   obtain⟨ob,q1,q2⟩:=jsH h1
   obtain⟨l',q3,q4,q5⟩:=jlm h2
   refine⟨(ob,x)::l',by simp only[jei,q1,q3],by simp[q4],fun k hk=>⟨⟨q2⟩,q5 k hk⟩⟩
  ·cases h
theorem jqb (hh:HRel ρ B hp nx w) {v:V} (hv:v.lt nx):(jgQ hp v).val ρ=v.val ρ∧(jgQ hp v).lt nx:=by
 unfold jgQ
 split
 ·rename_i h
  split
  ·rename_i ty cs hf
   obtain⟨q1,_,k,q3,_⟩:=hh.ok h _ hf
   exact⟨by simp[V.val,W.val,C.val,q3,base],q1⟩
  ·rename_i cs hf
   obtain⟨q1,_,k,o,q3,_⟩:=hh.ok h _ hf
   exact⟨by simp[V.val,W.val,C.val,q3,base],q1⟩
  ·rename_i ty k e r hf
   obtain⟨q1,_,k,q3,_⟩:=hh.ok h _ hf
   exact⟨by simp[V.val,W.val,C.val,q3,base],q1⟩
  ·exact⟨rfl,hv⟩
 ·exact⟨rfl,hv⟩
theorem jf8 (hh:HRel ρ B hp nx w) {args:List V} (hlt:∀x∈args,V.lt nx x):(args.map (jgQ hp)).map (V.val ρ)=args.map (V.val ρ)∧∀x∈args.map (jgQ hp),V.lt nx x:=by
 refine⟨?_,fun x hx=>?_⟩
 ·rw[List.map_map]
  exact List.map_congr_left fun v hv=>(jqb hh (hlt v hv)).1
 ·obtain⟨v,hv,rfl⟩:=List.mem_map.1 hx
  exact(jqb hh (hlt v hv)).2
theorem jnk {f fuel:Nat} {fn:Func} {body:Code} {args:List V} {e:Ex} {st:St} {l:List W} (hsp:jac P sp) (hfr:jbL sp) (hdr:∀ρ w,jgc P B fn.ntmps nx ρ w (jcZ P sp fn.ntmps))
  (hf:P.funcs[f]?=some fn) (hb:fn.body=some body) (hlen:args.length≤fn.ntmps) (hcx:cx P sp fn.ntmps fuel body ⟨jch 0 args,hp,nx⟩=some (e,st)) (he:∀j,e≠.exit j) (hl:jdp P st fn.results.toList=some l)
  (hlt:∀x∈args,V.lt nx x) (hh:HRel ρ B hp nx w) (hB:Old B w) :
  Calls P f (args.map (V.val ρ)).toArray w fun e w'=>∃ρ',e=.returned ((jaV l).val ρ')∧(jaV l).lt st.nx∧jae nx ρ ρ'∧(∃B',Grow B B' false w' w'∧HRel ρ' B' st.hp st.nx w')∧Bel B w w':=by
 refine calls_of_wp hf hb ?_
 have hrel:=jfp (n0:=nx) hlen hlt (Nat.le_refl _) ρ w hh hB
 refine wp_mono (jcm hsp hfr (hdr ρ w) body _ ρ _ w e st hcx hrel (jae.refl _ _) (Bel.refl _ _)) ?_
 rintro e1 a1 w1 ⟨ex,ρ1,s,rfl,⟨rfl,rfl⟩,hr1,hag1,hbl1⟩
 obtain⟨l',q1,q2,q3⟩:=jlm hl
 have fin:a1.defers=[]∧∃v,(results fn a1.tmps).run P w1=.ok v w1∧∃ρ',Ending.returned v=.returned ((jaV l).val ρ')∧(jaV l).lt s.nx∧jae nx ρ ρ'∧(∃B',Grow B B' false w1 w1∧HRel ρ' B' s.hp s.nx w1)∧Bel B w w1:=by
  have hra:=jfW hr1 _ l' True q1 (q3 True trivial)
  refine⟨hr1.defers,(jaV l).val ρ1,?_,ρ1,rfl,jeH (fun y hy=>?_),hag1,hr1.heap,hbl1⟩
  ·rw[jcy]
   simp only[jiR,Array.mapM_eq_mapM_toList,Sem.run_bind,Sem.run_map,hra.1,Result.andThen_ok,Sem.run_pure,←q2,List.map_map]
   rfl
  ·rw[←q2]at hy
   obtain⟨z,hz,rfl⟩:=List.mem_map.1 hy
   exact hra.2.1 z hz
 cases ex with
 |normal=>exact fin
 |exit j=>exact(he j rfl).elim
 |ret=>exact fin
theorem jqc {α:Type} (n0:Nat) (v:V) (st:St) (k:Hp→α):∃hp',outF n0 v st k=k hp'∧∀h o,find hp' h=some o→find st.hp h=some o:=by
 unfold outF
 obtain⟨m,h1⟩:=jhU (n0:=n0) (hp:=st.hp) 6 (jq2 v 0) (fun m=>hpF (fun h=>Nat.blt h n0||Nat.testBit m h) 0 0 st.hp k)
 rw[h1]
 obtain⟨hp',h2,h3⟩:=jgO (live:=fun h=>Nat.blt h n0||Nat.testBit m h) st.hp 0 0 k
 exact⟨hp',h2,fun h o hf=>(h3 h o hf).1⟩
theorem jqd {α:Type} (n0:Nat) (v:V) (st:St) (k:Hp→α):∃hp',outN n0 v st k=k hp'∧∀h o,find hp' h=some o→find st.hp h=some o∧n0≤h:=by
 unfold outN
 obtain⟨m,h1⟩:=jhU (n0:=n0) (hp:=st.hp) 6 (jq2 v 0) (fun m=>hpF (fun h=>Nat.ble n0 h&&Nat.testBit m h) 0 0 st.hp k)
 rw[h1]
 obtain⟨hp',h2,h3⟩:=jgO (live:=fun h=>Nat.ble n0 h&&Nat.testBit m h) st.hp 0 0 k
 refine⟨hp',h2,fun h o hf=>⟨(h3 h o hf).1,?_⟩⟩
 have:=(h3 h o hf).2.2
 simp only[Bool.and_eq_true]at this
 exact Nat.le_of_ble_eq_true this.1
theorem jze {fn:Func} {body:Code} {fuel:Nat} {args:List V} {t:RT} (h:inl P sp fn body fuel args hp nx=some t):t.sel.ob:=by
 unfold inl at h
 split at h
 ·cases h
 ·split at h
  ·rename_i e st hcx
   split at h
   ·cases h
   ·split at h
    ·rename_i l hl hle
     rw[jc1]at h
     obtain⟨hp',h1,_⟩:=jqc nx (jaV l) st (fun hp'=>some (RT.leaf ⟨True,jaV l,hp',st.nx⟩))
     rw[h1]at h
     cases h
     trivial
    ·cases h
  ·cases h
theorem jA5 {f fuel:Nat} {fn:Func} {body:Code} (hm:P.follows .mixedOrders=true) (hsp:jac P sp) (hfr:jbL sp) (hf:P.funcs[f]?=some fn) (hb:fn.body=some body) (hn:(fn.name == "runtime.NumGoroutine")=false) :
  jaf P f false (inl P sp fn body fuel):=by
 refine .inl ⟨jcB hf hb hn,fun ρ B w args hp nx t hS hob hlt hh hB=>?_⟩
 unfold inl at hS
 split at hS
 ·cases hS
 ·rename_i hlen
  have hlen:=Nat.le_of_ble_eq_true hlen
  split at hS
  ·rename_i e st hcx
   have go:∀l,(∀j,e≠.exit j)→jdp P st fn.results.toList=some l→Nat.ble nx st.nx=true→(fV (jaV l) fun v=>outF nx v st fun hp'=>some (RT.leaf ⟨True,v,hp',st.nx⟩))=some t →
     Calls P f (args.map (V.val ρ)).toArray w fun e w'=>∃ρ',e=.returned (t.sel.v.val ρ')∧Left ρ B nx w t.sel false ρ' w':=by
    intro l he hl hle hS
    rw[jc1]at hS
    obtain⟨hp',h1,h2⟩:=jqc nx (jaV l) st (fun hp'=>some (RT.leaf ⟨True,jaV l,hp',st.nx⟩))
    rw[h1]at hS
    cases hS
    obtain⟨ha1,ha2⟩:=jf8 hh hlt
    have hc:=jnk (f:=f) (args:=args.map (jgQ hp)) hsp hfr (fun ρ w=>jck hm hsp) hf hb (by simpa using hlen) hcx he hl ha2 hh hB
    rw[ha1]at hc
    refine hc.mono ?_
    rintro e' w' ⟨ρ',rfl,q2,q3,⟨B',g,q4⟩,q5⟩
    exact⟨ρ',rfl,q3,q2,Nat.le_of_ble_eq_true hle,⟨B',g.weak,q4.sub h2⟩,q5,(fun h=>by cases h),fun h=>by cases h⟩
   split at hS
   ·cases hS
   ·rename_i hne
    split at hS
    ·rename_i l hl hle
     exact go l (fun j e=>hne j e) hl hle hS
    ·cases hS
  ·cases hS
theorem jpD (hp:Hp) (h:Nat):find (jfM hp) h=(find hp h).map roO:=by
 induction hp with
 |nil=>rfl
 |cons x r ih =>
  obtain⟨k,o⟩:=x
  simp only[jfM,List.map_cons,find]at *
  split
  ·rfl
  ·exact ih
theorem juU (v:Value) (o:O):(roO o).blk v=none:=by
 cases o<;>simp only[roO]<;>first
  |rfl
  |(unfold roO.extR; split<;>rfl)
  |(unfold roO.lstR; split<;>rfl)
theorem jxQ (hh:HRel ρ B hp nx w) (hB:Old B w):HRel ρ (kd fun k=>k<w.heap.size) (jfM hp) nx w:=by
 have row:∀h o c,find hp h=some o→o.cont=some c→h<nx∧(roO.extR c).lt nx∧(roO.extR c).ok ρ (kd fun k=>k<w.heap.size) w h:=by
  intro h o c hf hc
  obtain⟨q1,q2,q3⟩:=hh.ok h o hf
  have hr:=jaS q3 hc
  unfold roO.extR
  split
  ·exact⟨q1,trivial,trivial⟩
  ·rename_i e he
   exact⟨q1,trivial,hr,jaF.lt hr (by omega)⟩
 have lst:∀h o e n cs,find hp h=some o→o.lst=some (e,n,cs)→(∀c∈cs,C.lt nx c)→h<nx∧(roO.lstR e n cs).lt nx∧(roO.lstR e n cs).ok ρ (kd fun k=>k<w.heap.size) w h:=by
  intro h o e n cs hf hl hlt
  obtain⟨q1,q2,q3⟩:=hh.ok h o hf
  obtain⟨h1,h2,h3⟩:=jbQ q3 hl
  unfold roO.lstR
  split
  ·exact⟨q1,trivial,trivial⟩
  ·rename_i e'
   refine⟨q1,hlt,h1,fun a n' cap heq hn=>?_,h2,h3⟩
   obtain⟨a',cap',hv,_,hadr⟩:=h1
   rw[hv]at heq
   cases heq
   obtain⟨b,off,e9⟩:=hadr hn
   cases e9
   have hlen:0<cs.length:=by rw[h2]; exact Nat.mul_pos hn (Nat.succ_pos _)
   have:=h3 0 cs[0] (List.getElem?_eq_getElem hlen)
   rw[hv]at this
   exact World.block_lt_of_cell? w _ this
 refine⟨fun h o' hf=>?_,fun h o k o' b _ hf' _ _ hb'=>?_,hh.glob.sub fun g hg=>hB g (.inl hg)⟩
 ·rw[jpD]at hf
  obtain⟨o,ho,rfl⟩:=Option.map_eq_some_iff.1 hf
  obtain⟨q1,q2,q3⟩:=hh.ok h o ho
  cases o with
  |row ty c=>exact row h _ c ho rfl
  |ext c=>exact row h _ c ho rfl
  |view r c fl=>exact row h _ c ho rfl
  |rrow c=>exact row h _ c ho rfl
  |fext c=>exact row h _ c ho rfl
  |sub r i e j ty c=>exact row h _ c ho rfl
  |box ty cs =>
   obtain⟨k,h1,h2,h3⟩:=q3
   refine⟨q1,q2,k,0,h1,(Array.getElem?_eq_some_iff.1 h3).1,fun j c hj=>?_⟩
   rw[Nat.zero_add,cell_of_row w k _ _ ty (0,0) h3]
   simp[hj]
  |ebox cs =>
   obtain⟨k,o,h1,h2,h3⟩:=q3
   exact⟨q1,q2,k,o,h1,hB k (.inl h2),h3⟩
  |lbox ty e n cs=>exact lst h _ e n cs ho rfl q2
  |lview r e n cs=>exact lst h _ e n cs ho rfl q2.2
  |elist e n cs=>exact⟨q1,q2,q3.1,jaP (fun k hk=>hB k (.inl hk)) q3.2.1,q3.2.2⟩
  |xext X=>exact⟨q1,trivial,IsX.mono (fun k hk=>hB k (.inl hk)) q3⟩
  |_=>exact⟨q1,trivial,trivial⟩
 ·rw[jpD]at hf'
  obtain⟨o1,_,rfl⟩:=Option.map_eq_some_iff.1 hf'
  rw[juU]at hb'
  cases hb'
theorem jnl (l r:Hp) (h:Nat):find (l++r) h=match find l h with|some o=>some o|none=>find r h:=by
 induction l with
 |nil=>rfl
 |cons x l ih =>
  obtain⟨k,o⟩:=x
  simp only[List.cons_append,find]
  split
  ·rfl
  ·exact ih
theorem juV {B1:Kd} {o:O} {h:Nat} (ho:jeI o=true) (hok:o.ok ρ B1 w h) (hB:∀k,¬B1.all k→¬B.all k):o.ok ρ B w h:=by
 cases o with
 |row ty c=>exact⟨hok.1,fun k hk=>hB k (hok.2 k hk)⟩
 |box ty cs=>obtain⟨k,h1,h2,h3⟩:=hok; exact⟨k,h1,hB k h2,h3⟩
 |lbox ty e n cs=>exact⟨hok.1,fun k hk=>hB k (hok.2 k hk)⟩
 |arr ty k e r=>obtain⟨g,h1,h2,h3⟩:=hok; exact⟨g,h1,hB g h2,h3⟩
 |_=>cases ho
theorem jzf {w':World} {ρ':Env} {B1:Kd} {hp1 hp':Hp} {nx1:Nat} (hh:HRel ρ B hp nx w) (hB:Old B w) (hbel:Below w.heap.size w w') (hag:jae nx ρ ρ') (hle:nx≤nx1) (h1:HRel ρ' B1 hp1 nx1 w') (hB1:∀k,¬B1.all k→w.heap.size≤k)
  (hs:∀h o,find hp' h=some o→find hp1 h=some o∧nx≤h) (hk:hp'.all (fun x=>jeI x.2)=true) :
  HRel ρ' B (hp' ++ hp) nx1 w'∧∀h o k,nx≤h→find (hp' ++ hp) h=some o→o.blk (ρ' h)=some k→w.heap.size≤k:=by
 have hold:=(hh.below hbel hB).agree hag
 have hBn:∀k,¬B1.all k→¬B.all k:=fun k hk hc=>by have:=hB k hc; have:=hB1 k hk; omega
 have own:∀h o,find hp' h=some o→jeI o=true:=fun h o hf=>List.all_eq_true.1 hk _ (jiQ hf)
 have new:∀h o k,find hp' h=some o→o.blk (ρ' h)=some k→w.heap.size≤k:=fun h o k hf hb=>hB1 k (O.blk_lt (h1.ok h o (hs h o hf).1).2.2 hb).2
 have oldlt:∀h o k,find hp h=some o→o.blk (ρ' h)=some k→k<w.heap.size:=fun h o k hf hb=>by
  have q:=hh.ok h o hf
  rw[hag h q.1]at hb
  exact(O.blk_lt q.2.2 hb).1
 have part:∀h o,find (hp' ++ hp) h=some o→find hp' h=some o∨find hp h=some o:=fun h o hf=>by
  rw[jnl]at hf
  cases hq:find hp' h with
  |some o1=>simp only[hq]at hf; exact .inl hf
  |none=>simp only[hq]at hf; exact .inr hf
 refine⟨⟨fun h o hf=>?_,fun h o h' o' k hf hf' hne hb hb'=>?_,hold.glob⟩,fun h o k hn hf hb=>?_⟩
 ·rcases part h o hf with hq|hq
  ·have q:=h1.ok h o (hs h o hq).1
   exact⟨q.1,q.2.1,juV (own h o hq) q.2.2 hBn⟩
  ·have q:=hold.ok h o hq
   exact⟨Nat.lt_of_lt_of_le q.1 hle,O.lt_mono hle q.2.1,q.2.2⟩
 ·rcases part h o hf with hq|hq<;>rcases part h' o' hf' with hq' | hq'
  ·exact h1.apart h o h' o' k (hs h o hq).1 (hs h' o' hq').1 hne hb hb'
  ·have:=new h o k hq hb
   have:=oldlt h' o' k hq' hb'
   omega
  ·have:=oldlt h o k hq hb
   have:=new h' o' k hq' hb'
   omega
  ·exact hold.apart h o h' o' k hq hq' hne hb hb'
 ·rcases part h o hf with hq|hq
  ·exact new h o k hq hb
  ·have:=(hh.ok h o hq).1
   omega
theorem jAj {f fuel:Nat} {fn:Func} {body:Code} (hm:P.follows .mixedOrders=true) (hsp:jac P sp) (hfr:jbL sp) (hf:P.funcs[f]?=some fn) (hb:fn.body=some body) (hn:(fn.name == "runtime.NumGoroutine")=false) :
  jaf P f true (jsG P sp fn body fuel):=by
 refine .inl ⟨jcB hf hb hn,fun ρ B w args hp nx t hS hob hlt hh hB=>?_⟩
 unfold jsG at hS
 split at hS
 ·cases hS
 ·rename_i hlen
  have hlen:=Nat.le_of_ble_eq_true hlen
  split at hS
  ·rename_i e st hcx
   split at hS
   ·cases hS
   ·rename_i hne
    split at hS
    ·rename_i l hl hle
     have hle:=Nat.le_of_ble_eq_true hle
     rw[jc1]at hS
     obtain⟨hp',h1,h2⟩:=jqd nx (jaV l) st (jsF (jaV l) hp st.nx)
     rw[h1]at hS
     unfold jsF at hS
     split at hS
     ·rename_i hk
      cases hS
      obtain⟨ha1,ha2⟩:=jf8 hh hlt
      have hro:=jxQ hh hB
      have hc:=jnk (f:=f) (args:=args.map (jgQ hp)) (B:=kd fun k=>k<w.heap.size) hsp hfr (fun ρ w=>jck hm hsp) hf hb (by simpa using hlen) hcx (fun j e=>hne j e) hl ha2 hro (fun k hk=>(jbA.1 hk))
      rw[ha1]at hc
      refine hc.mono ?_
      rintro e' w' ⟨ρ',rfl,q2,q3,⟨B1,g,q4⟩,q5⟩
      have hbel:Below w.heap.size w w':=Bel.below q5
      have hB1:∀k,¬B1.all k→w.heap.size≤k:=fun k hk=>Nat.le_of_not_lt fun hlt=>hk (.inl (g.le.kp k hlt))
      obtain⟨r1,r2⟩:=jzf hh hB hbel q3 hle q4 hB1 h2 hk
      exact⟨ρ',rfl,q3,q2,hle,HRel.gr r1,jcb hbel hB,fun _=>hbel,fun _=>r2⟩
     ·cases hS
    ·cases hS
  ·cases hS
theorem jxR {fn:Func} {body:Code} {fuel:Nat} {args:List V} {t:RT} (h:jsG P sp fn body fuel args hp nx=some t):t.sel.ob:=by
 unfold jsG at h
 split at h
 ·cases h
 ·split at h
  ·rename_i e st hcx
   split at h
   ·cases h
   ·split at h
    ·rename_i l hl hle
     rw[jc1]at h
     obtain⟨hp',h1,_⟩:=jqd nx (jaV l) st (jsF (jaV l) hp st.nx)
     rw[h1]at h
     unfold jsF at h
     split at h
     ·cases h; trivial
     ·cases h
    ·cases h
  ·cases h
theorem jpE {ov:jaa} {ro:Nat→Bool} {fuel:Nat} (hm:P.follows .mixedOrders=true) (hov:jac P ov) (hfo:jbL ov):∀n,jac P (jni P ov ro fuel n)∧jbL (jni P ov ro fuel n)
 |0=>⟨(fun f M S h=>by cases h),(fun f M S args hp nx t h=>by cases h)⟩
 |n+1=>by
  obtain⟨ih1,ih2⟩:=jpE hm hov hfo (ro:=ro) (fuel:=fuel) n
  refine⟨fun f M S h=>?_,fun f M S args hp nx t h hS=>?_⟩
  ·unfold jni at h
   split at h
   ·rename_i x hx
    cases h
    exact hov f M S hx
   ·split at h
    ·rename_i fn hf
     split at h
     ·rename_i body hb hn
      split at h
      ·cases h
       exact jAj hm ih1 ih2 hf hb hn
      ·cases h
       exact jA5 hm ih1 ih2 hf hb hn
     ·cases h
    ·cases h
  ·unfold jni at h
   split at h
   ·rename_i x hx
    cases h
    exact hfo f M S args hp nx t hx hS
   ·split at h
    ·split at h
     ·split at h
      ·cases h
       exact jxR hS
      ·cases h
       exact jze hS
     ·cases h
    ·cases h
end
end Go.Sx
end

section
open Go.RowKit
namespace Go.Sx
section
variable {P:Program} {ρ:Env} {B:Kd} {nx:Nat} {hp:Hp} {w:World}
theorem jxS (I J:Globs) (ht:I.tab=J.tab) (hh:I.held=J.held) {B:Bd} {w:World} (h:@jb0 I B w):@jb0 J B w:=by
 cases I; cases J
 cases ht; cases hh
 exact h
theorem jln (I J:Globs) (ht:I.tab=J.tab) (hd:I.held=J.held) (h:@HRel I ρ B hp nx w):@HRel J ρ B hp nx w :=
 @HRel.mk J _ _ _ _ _ (@HRel.ok I _ _ _ _ _ h) (@HRel.apart I _ _ _ _ _ h) (jxS I J ht hd (@HRel.glob I _ _ _ _ _ h))
theorem jqe (I J:Globs) (ht:I.tab=J.tab) (hd:I.held=J.held) {f:Nat} {M:Bool} {S:Spec} (h:@jaf I P f M S):@jaf J P f M S:=by
 rcases h with h|h
 ·refine .inl (@RunOK.mk J _ _ _ _ (@RunOK.enter I _ _ _ _ h) fun ρ B w args hp nx t hS ho hl hh hB=>?_)
  refine(@RunOK.sound I _ _ _ _ h ρ B w args hp nx t hS ho hl (jln J I ht.symm hd.symm hh) hB).mono ?_
  rintro e w' ⟨ρ',e1,hL⟩
  obtain⟨B',g,q⟩:=@Left.heap I _ _ _ _ _ _ _ _ hL
  exact⟨ρ',e1,@Left.mk J _ _ _ _ _ _ _ _ (@Left.agree I _ _ _ _ _ _ _ _ hL) (@Left.lt I _ _ _ _ _ _ _ _ hL) (@Left.le I _ _ _ _ _ _ _ _ hL) ⟨B',g,jln I J ht hd q⟩ (@Left.below I _ _ _ _ _ _ _ _ hL) (@Left.mono I _ _ _ _ _ _ _ _ hL) (@Left.fresh I _ _ _ _ _ _ _ _ hL)⟩
 ·exact .inr fun ρ B w args hp nx t hS ho hl hh hB=>h ρ B w args hp nx t hS ho hl (jln J I ht.symm hd.symm hh) hB
end
def jwq (hp:Hp) (k:NK) (c:C):Option NC :=
 match c with
 | .d (.v (.slice none 0 0))=>jlC k
 | .d x=>match jbl k (.d x)with
  |true=>some (.d x)
  |false=>none
 | .o h=>match find hp h with
  |some (.ext c)=>match jbl k (.r c)with
   |true=>some (.r c)
   |false=>none
  |_=>none
 |_=>none
def jgR (hp:Hp):List NK→List C→Option (List NC)
 |[],[]=>some []
 |k::ks,c::cs=>match jwq hp k c,jgR hp ks cs with
  |some x,some l=>some (x::l)
  |_,_=>none
 |_,_=>none
def jlQ (hp:Hp) (sh:List NK):Nat→List C→Option (List (List NC))
 |0,cs=>match cs with
  |[]=>some []
  |_=>none
 |n+1,cs=>match jgR hp sh (cs.take sh.length),jlQ hp sh n (cs.drop sh.length)with
  |some r,some l=>some (r::l)
  |_,_=>none
def joC (hp:Hp) (e n:Nat) (cs:List C):List XC→Option XC
 |[]=>none
 |x::l=>match Nat.beq x.e e,Nat.beq e x.sh.length,Nat.blt 0 e with
  |true,true,true=>match jlQ hp x.sh n cs with
   |some rs=>some (x.mk rs)
   |none=>joC hp e n cs l
  |_,_,_=>joC hp e n cs l
def jlR (hp:Hp) (xs:List XC) (o:O):O :=
 match o with
 | .elist e n cs=>match joC hp e n cs xs with
  |some X=>.xext X
  |none=>o
 |_=>o
def hpQ (xs:List XC) (hp:Hp):Hp:=hp.map fun x=>(x.1,jlR hp xs x.2)
noncomputable def fHp {α:Type} (hp:Hp):(Hp→α)→α:=fL (fun x k=>fN x.1 fun n=>fO x.2 fun o=>k (n,o)) hp
def jzR (o:O):O:=match jeI o with
 |true=>o
 |false=>match o with
  | .dead=>.dead
  |_=>.atom
def jlo (hp:Hp):Hp:=hp.map fun x=>(x.1,jzR x.2)
noncomputable def jeY (xs:List XC) (shs:List SV) (g:List Lf→Option (List RR)):Spec:=fun args hp nx =>
 match ji8 (hpQ xs (jfM hp)) shs (args.map (jgQ hp))with
 |some (ls,am)=>match g ls with
  |some rs=>match jb6 am rs nx with
   |b=>fV (jaV b.ws) fun v=>fHp (jlo b.hp) fun hp'=>fN b.n fun n=>match hp'.all (fun x=>Nat.ble nx x.1)with
    |true=>some (.leaf ⟨True,v,hp' ++ hp,n⟩)
    |false=>none
  |none=>none
 |none=>none
section
variable [Globs] {P:Program} {ρ:Env} {B:Kd} {nx:Nat} {hp:Hp} {w:World}
theorem jwr (hh:HRel ρ B hp nx w) {k:NK} {c:C} {x:NC} (h:jwq hp k c=some x):jbl k x=true∧x.at B.kp w (c.val ρ):=by
 unfold jwq at h
 split at h
 ·have:=jiL h
  exact⟨this.1,this.2 _ _⟩
 ·split at h
  ·rename_i hk
   cases h
   exact⟨hk,rfl⟩
  ·cases h
 ·rename_i h0
  split at h
  ·rename_i c0 hf
   split at h
   ·rename_i hk
    cases h
    exact⟨hk,(hh.ok _ _ hf).2.2⟩
   ·cases h
  ·cases h
 ·cases h
theorem jmy (hh:HRel ρ B hp nx w):∀{sh:List NK} {cs:List C} {r:List NC},jgR hp sh cs=some r →
  jcf sh r∧cs.length=sh.length∧∀(j:Nat) (x:NC) (c:C),r[j]?=some x→cs[j]?=some c→x.at B.kp w (c.val ρ)
 |[],[],r,h=>by
  simp only[jgR,Option.some.injEq]at h
  subst h
  exact⟨⟨rfl,fun j k x h=>by simp at h⟩,rfl,fun j x c h=>by simp at h⟩
 |[],c::cs,r,h=>by simp[jgR]at h
 |k::sh,[],r,h=>by simp[jgR]at h
 |k::sh,c::cs,r,h=>by
  simp only[jgR]at h
  split at h
  ·rename_i x l hx hl
   simp only[Option.some.injEq]at h
   subst h
   obtain⟨a1,a3⟩:=jwr hh hx
   obtain⟨b1,b2,b4⟩:=jmy hh hl
   refine⟨⟨by simp[b1.1],fun j k' x' hj hx'=>?_⟩,by simp[b2],fun j x' c' hj hc=>?_⟩
   ·cases j with
    |zero=>simp at hj hx'; subst hj; subst hx'; exact a1
    |succ j=>exact b1.2 j k' x' (by simpa using hj) (by simpa using hx')
   ·cases j with
    |zero =>
     simp at hj hc; subst hj; subst hc
     exact a3
    |succ j=>exact b4 j x' c' (by simpa using hj) (by simpa using hc)
  ·cases h
theorem joD (hh:HRel ρ B hp nx w) {sh:List NK}:∀{n:Nat} {cs:List C} {rs:List (List NC)},jlQ hp sh n cs=some rs →
  rs.length=n∧(∀r∈rs,jcf sh r)∧∀(i j:Nat) (c:C),i<n→j<sh.length→cs[i*sh.length+j]?=some c→((rs.getD i []).getD j (.d (.v undef))).at B.kp w (c.val ρ)
 |0,cs,rs,h=>by
  cases cs with
  |nil =>
   simp only[jlQ,Option.some.injEq]at h
   subst h
   exact⟨rfl,(fun _ h=>by cases h),fun i j c hi=>by omega⟩
  |cons c cs=>simp[jlQ]at h
 |n+1,cs,rs,h=>by
  simp only[jlQ]at h
  split at h
  ·rename_i r l hr hl
   simp only[Option.some.injEq]at h
   subst h
   obtain⟨a1,a2,a3⟩:=jmy hh hr
   obtain⟨b1,b2,b3⟩:=joD hh hl
   refine⟨by simp[b1],fun r' hr'=>?_,fun i j c hi hj hc=>?_⟩
   ·rcases List.mem_cons.1 hr' with e|e
    ·subst e; exact a1
    ·exact b2 r' e
   ·cases i with
    |zero =>
     rw[Nat.zero_mul,Nat.zero_add]at hc
     have hjr:j<r.length:=by rw[a1.1]; exact hj
     have e1:(r.getD j (.d (.v undef)))=r[j]:=by simp[List.getD,hjr]
     show(r.getD j _).at _ _ _
     rw[e1]
     exact a3 j _ c (List.getElem?_eq_getElem hjr) (by rw[List.getElem?_take_of_lt hj]; exact hc)
    |succ i =>
     show((l.getD i []).getD j _).at _ _ _
     refine b3 i j c (by omega) hj ?_
     rw[List.getElem?_drop]
     rw[←hc]
     congr 1
     rw[Nat.add_mul]; omega
  ·cases h
theorem jjA (hh:HRel ρ B hp nx w) {h e n:Nat} {cs:List C} (hok:(O.elist e n cs).ok ρ B w h):∀{xs:List XC} {X:XC},joC hp e n cs xs=some X→IsX B.kp w (ρ h) X
 |[],X,hp=>by cases hp
 |x::l,X,hq=>by
  unfold joC at hq
  split at hq
  ·rename_i h1 h2 h3
   have h1:=Nat.eq_of_beq_eq_true h1
   have h2:=Nat.eq_of_beq_eq_true h2
   split at hq
   ·rename_i rs hrs
    cases hq
    obtain⟨q1,q2,q3,q4⟩:=hok
    obtain⟨a,cap,hv,hc,hadr⟩:=q1
    obtain⟨r1,r2,r3⟩:=joD hh hrs
    obtain⟨m1,m2,m3⟩:=x.cell_mk r2
    refine⟨a,cap,by rw[m1,r1]; exact hv,by rw[m1,r1]; exact hc,fun hn=>?_⟩
    rw[m1,r1]at hn
    obtain⟨b,off,rfl⟩:=hadr hn
    refine⟨b,off,rfl,?_,fun i j hi hj=>?_⟩
    ·exact q2 _ n cap hv hn
    ·rw[m1]at hi
     rw[m2]at hj ⊢
     have hi':i<n:=by rw[←r1]; exact hi
     have hlt:i*x.e+j<cs.length:=by
      rw[q3,←h1]
      calc i*x.e+j<i*x.e+x.e:=by omega
       _=(i+1)*x.e:=by rw[Nat.add_mul]; omega
       _≤n*x.e:=Nat.mul_le_mul_right _ hi'
     have hget:=List.getElem?_eq_getElem hlt
     have:=q4 _ _ hget
     rw[hv]at this
     refine⟨_,this,?_⟩
     rw[m3 i j hi hj]
     exact r3 i j _ hi' (by rw[←h2,←h1]; exact hj) (by rw[←h2,←h1]; exact hget)
   ·exact jjA hh hok hq
  ·exact jjA hh hok hq
theorem jzg (xs:List XC) (hp0 hp:Hp) (h:Nat):find (hp.map fun x=>(x.1,jlR hp0 xs x.2)) h=(find hp h).map (jlR hp0 xs):=by
 induction hp with
 |nil=>rfl
 |cons x r ih =>
  obtain⟨k,o⟩:=x
  simp only[List.map_cons,find]at *
  split
  ·rfl
  ·exact ih
theorem jxT {xs:List XC} (hh:HRel ρ B hp nx w) (hn:∀h o,find hp h=some o→o.blk (ρ h)=none):HRel ρ B (hpQ xs hp) nx w:=by
 have key:∀h o',find (hpQ xs hp) h=some o'→∃o,find hp h=some o∧o'=jlR hp xs o:=fun h o' hf=>by
  unfold hpQ at hf
  rw[jzg]at hf
  obtain⟨o,ho,rfl⟩:=Option.map_eq_some_iff.1 hf
  exact⟨o,ho,rfl⟩
 have nob:∀h o',find (hpQ xs hp) h=some o'→o'.blk (ρ h)=none:=fun h o' hf=>by
  obtain⟨o,ho,rfl⟩:=key h o' hf
  have:=hn h o ho
  unfold jlR
  split
  ·split
   ·rfl
   ·exact this
  ·exact this
 refine⟨fun h o' hf=>?_,fun h o k o' b hf hf' _ hb=>?_,hh.glob⟩
 ·obtain⟨o,ho,rfl⟩:=key h o' hf
  obtain⟨q1,q2,q3⟩:=hh.ok h o ho
  unfold jlR
  split
  ·split
   ·rename_i X hX
    exact⟨q1,trivial,jjA hh q3 hX⟩
   ·exact⟨q1,q2,q3⟩
  ·exact⟨q1,q2,q3⟩
 ·rw[nob h o hf]at hb
  cases hb
theorem jxU {α:Type} (hp:Hp) (k:Hp→α):fHp hp k=k hp:=by
 unfold fHp
 rw[ja2 fun x k=>by rw[jbu,jwe]]
theorem jA6 {h:Nat} {o:O} (hf:find (jfM hp) h=some o) (v:Value):o.blk v=none:=by
 rw[jpD]at hf
 obtain⟨o1,_,rfl⟩:=Option.map_eq_some_iff.1 hf
 exact juU v o1
theorem jzh (f:O→O) (hp:Hp) (h:Nat):find (hp.map fun x=>(x.1,f x.2)) h=(find hp h).map f:=by
 induction hp with
 |nil=>rfl
 |cons x r ih =>
  obtain⟨k,o⟩:=x
  simp only[List.map_cons,find]at *
  split
  ·rfl
  ·exact ih
theorem jxV {w':World} {ρ':Env} {B1:Kd} {hp1 hp':Hp} {nx1:Nat} (hh:HRel ρ B hp nx w) (hB:Old B w) (hbel:Below w.heap.size w w') (hag:jae nx ρ ρ') (hle:nx≤nx1) (h1:HRel ρ' B1 hp1 nx1 w') (hB1:∀k,¬B1.all k→w.heap.size≤k)
  (hs:∀h o,find hp' h=some o→((h<nx1∧o.ok ρ' B w' h∧o.lt nx1∧∀v,o.blk v=none)∨(find hp1 h=some o∧jeI o=true))∧nx≤h) :
  HRel ρ' B (hp' ++ hp) nx1 w'∧∀h o k,nx≤h→find (hp' ++ hp) h=some o→o.blk (ρ' h)=some k→w.heap.size≤k:=by
 have hold:=(hh.below hbel hB).agree hag
 have hBn:∀k,¬B1.all k→¬B.all k:=fun k hk hc=>by have:=hB k hc; have:=hB1 k hk; omega
 have new:∀h o k,find hp' h=some o→o.blk (ρ' h)=some k→w.heap.size≤k:=fun h o k hf hb=>by
  rcases(hs h o hf).1 with ⟨_,_,_,hn⟩|⟨hf1,_⟩
  ·rw[hn]at hb; cases hb
  ·exact hB1 k (O.blk_lt (h1.ok h o hf1).2.2 hb).2
 have oldlt:∀h o k,find hp h=some o→o.blk (ρ' h)=some k→k<w.heap.size:=fun h o k hf hb=>by
  have q:=hh.ok h o hf
  rw[hag h q.1]at hb
  exact(O.blk_lt q.2.2 hb).1
 have part:∀h o,find (hp' ++ hp) h=some o→find hp' h=some o∨find hp h=some o:=fun h o hf=>by
  rw[jnl]at hf
  cases hq:find hp' h with
  |some o1=>simp only[hq]at hf; exact .inl hf
  |none=>simp only[hq]at hf; exact .inr hf
 refine⟨⟨fun h o hf=>?_,fun h o h' o' k hf hf' hne hb hb'=>?_,hold.glob⟩,fun h o k hn hf hb=>?_⟩
 ·rcases part h o hf with hq|hq
  ·rcases(hs h o hq).1 with ⟨hlt,q1,q2,_⟩|⟨hf1,hk⟩
   ·exact⟨hlt,q2,q1⟩
   ·have q:=h1.ok h o hf1
    exact⟨q.1,q.2.1,juV hk q.2.2 hBn⟩
  ·have q:=hold.ok h o hq
   exact⟨Nat.lt_of_lt_of_le q.1 hle,O.lt_mono hle q.2.1,q.2.2⟩
 ·rcases part h o hf with hq|hq<;>rcases part h' o' hf' with hq' | hq'
  ·rcases(hs h o hq).1 with ⟨_,_,_,hn⟩|⟨hf1,_⟩
   ·rw[hn]at hb; cases hb
   rcases(hs h' o' hq').1 with ⟨_,_,_,hn⟩|⟨hf1',_⟩
   ·rw[hn]at hb'; cases hb'
   exact h1.apart h o h' o' k hf1 hf1' hne hb hb'
  ·have:=new h o k hq hb
   have:=oldlt h' o' k hq' hb'
   omega
  ·have:=oldlt h o k hq hb
   have:=new h' o' k hq' hb'
   omega
  ·exact hold.apart h o h' o' k hq hq' hne hb hb'
 ·rcases part h o hf with hq|hq
  ·exact new h o k hq hb
  ·have:=(hh.ok h o hq).1
   omega
theorem jt8 {α:Type} {a b:List α} (h:a++b=b):a=[]:=by
 have:=congrArg List.length h
 rw[List.length_append]at this
 exact List.length_eq_zero_iff.1 (by omega)
theorem jAk {f:Nat} {xs:List XC} {shs:List SV} {g0:List Lf→Option GT} {g:List Lf→Option (List RR)} (hs:jaf P f true (jak shs g0))
  (hg:∀ls rs,g ls=some rs→∃t,g0 ls=some t∧t.sel.2=rs∧t.sel.1):jaf P f true (jeY xs shs g):=by
 have key:∀args hp nx t,jeY xs shs g args hp nx=some t→∃(t0:RT) (b:Rw),jak shs g0 (args.map (jgQ hp)) (hpQ xs (jfM hp)) nx=some t0∧t0.sel.ob∧t0.sel.v=jaV b.ws∧t0.sel.hp=b.hp++hpQ xs (jfM hp)∧t0.sel.nx=b.n ∧
   t=.leaf ⟨True,jaV b.ws,jlo b.hp++hp,b.n⟩∧(jlo b.hp).all (fun x=>Nat.ble nx x.1)=true:=by
  intro args hp nx t h
  unfold jeY at h
  split at h
  ·rename_i ls am hto
   split at h
   ·rename_i rs hrs
    obtain⟨t0,h0,h1,h2⟩:=hg ls rs hrs
    rw[jc1,jxU,jbu]at h
    split at h
    ·rename_i hall
     cases h
     refine⟨t0.toRT am (hpQ xs (jfM hp)) nx,jb6 am rs nx,?_,?_,?_,?_,?_,rfl,hall⟩
     ·unfold jak
      rw[hto]
      simp only[h0]
     all_goals rw[jbr]
     ·exact h2
     all_goals rw[←h1]
    ·cases h
   ·cases h
  ·cases h
 have rel:∀{ρ:Env} {B:Kd} {w:World} {hp:Hp} {nx:Nat},HRel ρ B hp nx w→Old B w→HRel ρ (kd fun k=>k<w.heap.size) (hpQ xs (jfM hp)) nx w:=fun hh hB =>
  jxT (jxQ hh hB) fun h o hf=>jA6 hf _
 rcases hs with hs|hs
 ·refine .inl ⟨hs.enter,fun ρ B w args hp nx t hS hob hlt hh hB=>?_⟩
  obtain⟨t0,b,h0,h1,h2,h3,h4,rfl,h5⟩:=key args hp nx t hS
  obtain⟨ha1,ha2⟩:=jf8 hh hlt
  have hc:=hs.sound ρ (kd fun k=>k<w.heap.size) w _ _ nx t0 h0 h1 ha2 (rel hh hB) (fun k hk=>jbA.1 hk)
  rw[ha1]at hc
  refine hc.mono ?_
  rintro e w' ⟨ρ',rfl,hL⟩
  obtain⟨B1,gB,q4⟩:=hL.heap
  have hbel:Below w.heap.size w w':=hL.mono rfl
  have hB1:∀k,¬B1.all k→w.heap.size≤k:=fun k hk=>Nat.le_of_not_lt fun hlt=>hk (.inl (gB.le.kp k hlt))
  have hall:=List.all_eq_true.1 h5
  rw[h3,h4]at q4
  obtain⟨r1,r2⟩:=jxV (hp':=jlo b.hp) hh hB hbel hL.agree (by have:=hL.le; rw[h4]at this; exact this) q4 hB1 fun h o hf=>by
   have hn:=Nat.le_of_ble_eq_true (hall _ (jiQ hf))
   unfold jlo at hf
   rw[jzh]at hf
   obtain⟨o1,ho1,rfl⟩:=Option.map_eq_some_iff.1 hf
   have hfa:find (b.hp++hpQ xs (jfM hp)) h=some o1:=by rw[jnl,ho1]
   refine⟨?_,hn⟩
   unfold jzR
   split
   ·rename_i hk; exact .inr ⟨hfa,hk⟩
   ·refine .inl ⟨(q4.ok h o1 hfa).1,?_⟩
    split
    ·exact⟨trivial,trivial,fun _=>rfl⟩
    ·rename_i hnd
     refine⟨?_,trivial,fun _=>rfl⟩
     have h1:C.one (b.hp++hpQ xs (jfM hp)) (.o h)=true:=by
      unfold C.one
      simp only[hfa]
     exact C.one_val q4 h1
  refine⟨ρ',by rw[h2]; rfl,hL.agree,?_,?_,HRel.gr r1,jcb hbel hB,fun _=>hbel,fun _=>r2⟩
  ·have:=hL.lt
   rw[h2,h4]at this
   exact this
  ·have:=hL.le
   rw[h4]at this
   exact this
 ·refine .inr fun ρ B w args hp nx t hS hob hlt hh hB=>?_
  obtain⟨t0,b,h0,h1,h2,h3,h4,rfl,h5⟩:=key args hp nx t hS
  obtain⟨ha1,ha2⟩:=jf8 hh hlt
  obtain⟨ob,v,e1,e2,e3⟩:=hs ρ (kd fun k=>k<w.heap.size) w _ _ nx t0 h0 h1 ha2 (rel hh hB) (fun k hk=>jbA.1 hk)
  rw[e1]at h2 h3 h4
  have hb:=jt8 h3.symm
  rw[hb]
  have hv:v=jaV b.ws:=h2
  refine⟨True,v,?_,e2,by rw[←ha1]; exact e3⟩
  show Res.mk _ _ _ _=_
  rw[hv,←h4]
  rfl
theorem jxW {xs:List XC} {shs:List SV} {g:List Lf→Option (List RR)} {args:List V} {t:RT} (h:jeY xs shs g args hp nx=some t):t.sel.ob:=by
 unfold jeY at h
 split at h
 ·split at h
  ·rw[jc1,jxU,jbu]at h
   split at h
   ·cases h; trivial
   ·cases h
  ·cases h
 ·cases h
end
end Go.Sx
end

section
open Go.RowKit
namespace Go.Sx
def jhg:Code→List Code
 | .seq a b=>jhg a++jhg b
 |c=>[c]
section
variable [Globs] {P:Program} {sp:jaa}
noncomputable def cxL (P:Program) (sp:jaa) (N fuel:Nat):List Code→St→Option (Ex × St)
 |[],st=>some (.normal,st)
 |c::l,st=>jcI (cx P sp N fuel c st) (cxL P sp N fuel l)
theorem jzi (r:Option (Ex × St)):jcI r (fun st=>some (.normal,st))=r:=by
 unfold jcI
 split<;>rfl
theorem jt9 (r:Option (Ex × St)) (f g:St→Option (Ex × St)):jcI (jcI r f) g=jcI r fun st=>jcI (f st) g:=by
 unfold jcI
 cases r with
 |none=>rfl
 |some x =>
  obtain⟨e,st⟩:=x
  cases e<;>rfl
theorem joE {N fuel:Nat}:∀(l l2:List Code) (st:St),cxL P sp N fuel (l++l2) st=jcI (cxL P sp N fuel l st) (cxL P sp N fuel l2)
 |[],l2,st=>rfl
 |c::l,l2,st=>by
  simp only[List.cons_append,cxL]
  rw[jt9]
  congr 1
  funext s
  exact joE l l2 s
theorem juW {N fuel:Nat} (c:Code) (st:St):cxL P sp N fuel [c] st=cx P sp N fuel c st:=jzi _
theorem jAl {N fuel:Nat} (c:Code):∀st:St,cxL P sp N fuel (jhg c) st=cx P sp N fuel c st:=by
 induction c with
 |seq a b iha ihb =>
  intro st
  simp only[jhg]
  rw[joE,iha]
  show jcI (cx P sp N fuel a st) _=jcI (cx P sp N fuel a st) (cx P sp N fuel b)
  congr 1
  funext s
  exact ihb s
 |_=>exact fun st=>juW _ st
theorem jdZ {N fuel:Nat} {c:Code} {l:List Code} {st st':St} {r:Option (Ex × St)} (h:cx P sp N fuel c st=some (.normal,st')) (hl:cxL P sp N fuel l st'=r):cxL P sp N fuel (c::l) st=r:=by
 simp only[cxL,h,jcI]
 exact hl
theorem jxX {f fuel:Nat} {fn:Func} {body:Code} {x:D} {e:Ex} {st:St} {g:List Lf→Option GT} (hm:P.follows .mixedOrders=true) (hsp:jac P sp) (hfr:jbL sp) (hf:P.funcs[f]?=some fn) (hb:fn.body=some body) (hn:(fn.name == "runtime.NumGoroutine")=false)
  (hcx:cxL P sp fn.ntmps fuel (jhg body) ⟨[],[],0⟩=some (e,st)) (he:∀j,e≠.exit j) (hl:jdp P st fn.results.toList=some [.c (.d x)])
  (hg:∀ls t,g ls=some t→ls=[]∧∃ob,t=.leaf ob [.c (.d x)]):jaf P f true (jak [] g):=by
 refine jso hf hb hn fun ls t h=>?_
 obtain⟨rfl,ob,rfl⟩:=hg ls t h
 refine⟨ob,x,rfl,fun _ b hbl ρ w hh=>?_⟩
 simp only[je9,Option.some.injEq]at hbl
 subst hbl
 rw[jAl]at hcx
 have hc:=jnk (f:=f) (args:=[]) (B:=kd fun k=>k<w.heap.size) (ρ:=ρ) (w:=w) hsp hfr (fun ρ w=>jck hm hsp) hf hb (Nat.zero_le _) hcx he hl (fun _ h=>by cases h) hh (fun k hk=>jbA.1 hk)
 refine hc.mono ?_
 rintro e' w' ⟨ρ',rfl,q2,q3,q4,q5⟩
 exact⟨rfl,Bel.below q5⟩
end
end Go.Sx
end

section
open Go Go.RowKit
namespace Go.Sx
section
variable [Globs] {P:Program} {sp:jaa} {ρ ρ0:Env} {B:Kd} {nx N n0:Nat} {hp:Hp} {w w0:World} {st:St} {a:Act} {ds:List Deferred}
theorem jA7 {o:Oper} {t yt:TypeId} {x:Operand} {u:V} {aa:Option Addr} {n cap:Nat} {K:Act→World→Prop} {Q:Exit→Act→World→Prop} (hop:o.op=.binOp .eql t x (.const (.slice none 0 0)) yt) (hd:jb4 N o.dst=true) (hit:jlz P t=true)
  (hx:jb5 st x=some u) (hv:u.val ρ=.slice aa n cap) (hr:RelD ds ρ B N n0 st a w)
  (hK:RelD ds ρ B N n0 (st.put o.dst ⟨True,vb aa.isNone,st.hp,st.nx⟩) (a.put o.dst (.bool aa.isNone)) w→K (a.put o.dst (.bool aa.isNone)) w):o.wp P a w K Q:=by
 obtain⟨ms,hms⟩:∃ms,P.underlying t=some (.slice ms):=by
  unfold jlz at hit
  split at hit
  ·rename_i ms h'; exact⟨ms,h'⟩
  ·cases hit
 have h1:=hr.reads _ _ hx
 have e1:a.eval x=.slice aa n cap:=by rw[h1.2,hv]
 have e2:a.eval (.const (.slice none 0 0))=.slice none 0 0:=rfl
 have heq:(Op.equal t (.slice aa n cap) (.slice none 0 0)).run P w=.ok aa.isNone w:=by
  unfold Op.equal
  rw[show Op.maxDepth=9999+1 from rfl,Op.equalIn]
  cases aa<;>simp only[Sem.run_bind,run_underlying hms,Result.andThen_ok,Sem.run_pure]<;>rfl
 have hg:(eqGuard .eql t x (.const (.slice none 0 0)) (.slice aa n cap) (.slice none 0 0)).run P w=.ok () w:=by
  cases x<;>rfl
 have hb:(binOp .eql t (.slice aa n cap) (.slice none 0 0)).run P w=.ok (.bool aa.isNone) w:=by
  simp only[binOp,Sem.run_bind,heq,Result.andThen_ok,Sem.run_pure]
 have hrun:(execOp a.eval o).run P w=.ok (.value (.bool aa.isNone)) w:=by
  unfold execOp
  simp only[hop,e1,e2,Sem.run_bind,hg,hb,Result.andThen_ok,Sem.run_pure]
 obtain⟨B1,g,hh⟩:=hr.heap
 have hl:Left ρ B1 st.nx w ⟨True,vb aa.isNone,st.hp,st.nx⟩ false ρ w:=⟨jae.refl _ _,trivial,Nat.le_refl _,⟨B1,Grow.refl _ _ _ _,hh⟩,Bel.refl _ _,(fun h=>by cases h),fun h=>by cases h⟩
 have:=hr.put1 (o:=o) g hd hl
 unfold Oper.wp
 rw[hrun]
 exact hK this
theorem jua {f:Nat} {fn:Func} {body:Code} {args:List V} {hp0:Hp} {nx0:Nat} {post:V→Hp→Nat→Prop}
  (hf:P.funcs[f]?=some fn) (hb:fn.body=some body) (hlen:args.length≤fn.ntmps)
  (hlt:∀x∈args,V.lt nx0 x) (hn0:n0≤nx0) (ρ:Env) (w:World) (hh:HRel ρ B hp0 nx0 w) (hB:Old B w)
  (h:∀a:Act,Rel ρ B fn.ntmps n0 ⟨jch 0 args,hp0,nx0⟩ a w→body.wp P (Qx [] ρ B fn.ntmps n0 w (jdK P fn.results.toList post)) a w) :
  Calls P f (args.map (V.val ρ)).toArray w fun e w'=>∃ρ' v hp' nx',e=.returned (v.val ρ')∧v.lt nx'∧jae n0 ρ ρ'∧(∃B',Grow B B' false w' w'∧HRel ρ' B' hp' nx' w')∧Bel B w w'∧Old B w'∧post v hp' nx':=by
 refine calls_of_wp hf hb ?_
 have hrel:=jfp (n0:=n0) hlen hlt hn0 ρ w hh hB
 refine wp_mono (h _ hrel) ?_
 rintro e a' w' ⟨x,ρ',st',rfl,hk,hr',hag',hbl'⟩
 have fin:∀l:List (Prop × W),jei P st' fn.results.toList=some l→jia l (post (jaV (l.map (·.2))) st'.hp st'.nx) →
   a'.defers=[]∧∃v,(results fn a'.tmps).run P w'=.ok v w'∧∃ρ' v' hp' nx',Ending.returned v=.returned (v'.val ρ')∧v'.lt nx'∧jae n0 ρ ρ'∧(∃B',Grow B B' false w' w'∧HRel ρ' B' hp' nx' w')∧Bel B w w'∧Old B w'∧post v' hp' nx':=by
  intro l hl ho
  have hra:=jfW hr' _ l _ hl ho
  refine⟨hr'.defers,(jaV (l.map (·.2))).val ρ',?_,ρ',jaV (l.map (·.2)),st'.hp,st'.nx,rfl,jeH (fun y hy=>?_),hag',hr'.heap,hbl',hr'.le,hra.2.2⟩
  ·rw[jcy]
   simp only[jiR,Array.mapM_eq_mapM_toList,Sem.run_bind,Sem.run_map,hra.1,Result.andThen_ok,Sem.run_pure,List.map_map]
   rfl
  ·obtain⟨z,hz,rfl⟩:=List.mem_map.1 hy
   exact hra.2.1 z hz
 cases x with
 |normal =>
  simp only[jdK]at hk
  split at hk
  ·rename_i l hl
   exact fin l hl hk
  ·exact hk.elim
 |exit j=>exact hk.elim
 |ret =>
  simp only[jdK]at hk
  split at hk
  ·rename_i l hl
   exact fin l hl hk
  ·exact hk.elim
theorem jxY {f:Nat} {fn:Func} {body:Code} {shs:List SV} {g:List Lf→Option GT} (hf:P.funcs[f]?=some fn) (hb:fn.body=some body) (hn:(fn.name == "runtime.NumGoroutine")=false)
  (h:∀ls t,g ls=some t→t.sel.1→∀b:Bv,je9 shs 0 ls=some b→(∀x∈b.vs,V.lt b.n x)→∀ρ w,HRel ρ (kd fun k=>k<w.heap.size) b.hp b.n w→Old (kd fun k=>k<w.heap.size) w →
   Calls P f (b.vs.map (V.val ρ)).toArray w fun e w'=>∃ρ' v hp' nx',e=.returned (v.val ρ')∧v.lt nx'∧jae b.n ρ ρ'∧(∃B',Grow (kd fun k=>k<w.heap.size) B' false w' w'∧HRel ρ' B' hp' nx' w')∧Bel (kd fun k=>k<w.heap.size) w w'∧Old (kd fun k=>k<w.heap.size) w'∧jkB b.n t.sel.2 v hp') :
  jaf P f true (jak shs g):=by
 refine .inl ⟨jcB hf hb hn,fun ρ B w args hp nx t hS hob hlt hh hB=>?_⟩
 unfold jak at hS
 split at hS
 ·rename_i ls am hto
  split at hS
  ·rename_i t' hg
   cases hS
   rw[jbr]at hob ⊢
   have hob:t'.sel.1:=hob
   obtain⟨b,ρ0,hbl,q⟩:=jg9 hh hB shs args ls am hto hlt 0 (fun _=>undef) []
   rw[List.append_nil]at hbl
   have hbn:b.n=am.length:=by have:=q.nn; omega
   have hh0:HRel ρ0 (kd fun k=>k<w.heap.size) b.hp b.n w:=by
    refine⟨fun x o hf=>?_,fun x o x' o' k hf hf' _ hb=>?_,ji7 hh.glob hB⟩
    ·obtain⟨_,a2,a3,a4,_⟩:=q.heap x o hf
     exact⟨a2,a3,a4⟩
    ·obtain⟨_,_,_,_,a5⟩:=q.heap x o hf
     rw[a5]at hb
     cases hb
   have hcalls:=h ls t' hg hob b hbl q.lt ρ0 w hh0 (fun k hk=>jbA.1 hk)
   rw[q.val]at hcalls
   refine hcalls.mono ?_
   rintro e w' ⟨ρ',v,hp',nx',rfl,hvlt,hag,⟨Bc,gB,hh'⟩,hbel,hold,hfit⟩
   have hbw:Below w.heap.size w w':=hbel.below
   have hBc:Old Bc w':=gB.old hold
   have hfr:∀k,Bc.fr k→w.heap.size≤k:=fun k hk=>by
    rcases gB.out k hk with h1|h1
    ·exact h1.elim
    ·exact Nat.le_of_not_lt h1
   have hmu:∀k,Bc.mu k≠none→w.heap.size≤k:=fun k hk=>Nat.le_of_not_lt fun hlt=>hk (Bc.dis k (gB.le.kp k hlt))
   let Bn:Kd:=⟨fun k=>B.kp k∨Bc.fr k,fun k=>B.fr k∨Bc.fr k,fun k=>match B.mu k with|some g=>some g|none=>Bc.mu k,fun k hk=>hk.imp (B.sub k) id,fun k hk=>by
    have h1:B.mu k=none:=by
     rcases hk with hk|hk
     ·exact B.dis k hk
     ·have h2:=hfr k hk
      cases hm2:B.mu k with
      |none=>rfl
      |some g=>exact absurd (hB k (.inr (by rw[hm2]; simp))) (Nat.not_lt_of_le h2)
    have h2:Bc.mu k=none:=by
     rcases hk with hk|hk
     ·exact Bc.dis k (gB.le.kp k (hB k (.inl hk)))
     ·exact Bc.dis k (Bc.sub k hk)
    show(match B.mu k with|some g=>some g|none=>Bc.mu k)=none
    rw[h1,h2]⟩
   have hmn:∀k,Bn.mu k=match B.mu k with|some g=>some g|none=>Bc.mu k:=fun _=>rfl
   have hBn:B.Le Bn:=⟨fun k hk=>.inl hk,fun k hk=>.inl hk⟩
   have hBm:B.LeM Bn:=fun k g hk=>by rw[hmn,hk]
   have hna:∀k,Bn.all k→B.all k∨(w.heap.size≤k∧Bc.all k):=fun k hk=>by
    rcases hk with (hk|hk)|hk
    ·exact .inl (.inl hk)
    ·exact .inr ⟨hfr k hk,.inl (Bc.sub k hk)⟩
    ·rw[hmn]at hk
     cases hm2:B.mu k with
     |none=>rw[hm2]at hk; exact .inr ⟨hmu k hk,.inr hk⟩
     |some g=>exact .inl (.inr (by rw[hm2]; simp))
   have gn:Grow B Bn true w w':=⟨hBn,fun k hk=>(hna k hk).imp id fun h=>hBc k h.2,fun k hk=>hk.imp id fun h hb=>absurd (hB k (.inl hb)) (Nat.not_lt_of_le (hfr k h)),fun _=>⟨fun k hk=>(hna k hk).imp id fun h=>h.1,hBm⟩⟩
   have hh1:HRel ρ Bn hp nx w':=(hh.below hbw hB).moreB hBn hBm fun h o k hf hk hb=>by
    have h1:=O.blk_lt (hh.ok h o hf).2.2 hk
    rcases hna k hb with hb|hb
    ·exact h1.2 hb
    ·exact absurd h1.1 (Nat.not_lt_of_le hb.1)
   obtain⟨ws,hws,hfw⟩:∃ws,(jaV ws).val ρ'=v.val ρ'∧jlI b.n hp' t'.sel.2 ws []:=by
    match v,hfit with
    | .w u,hfit=>exact⟨[u],rfl,hfit⟩
    | .t [],hfit=>exact⟨[],rfl,hfit⟩
    | .t (x::y::l),hfit=>exact⟨x::y::l,rfl,hfit⟩
   have hin:CIn ρ ρ' Bn hp hp' nx w.heap.size b.n am w' []:=by
    refine⟨hh1,fun k o b hk hbk=>.inl (O.blk_lt (hh.ok k o hk).2.2 hbk).1,fun i hi=>?_⟩
    have hi2:i<am.length:=by omega
    have h1:=q.own i hi2
    rw[Nat.zero_add]at h1
    refine⟨?_,by rw[hag i hi]; exact h1.symm⟩
    have:am.getD i (.d (.v undef))=am[i]:=by simp[List.getD,hi2]
    rw[this]
    exact q.xlt _ (List.getElem_mem hi2)
   obtain⟨us2,ρ2,k⟩:=jja (B:=Bn) (m:=w.heap.size) (fun k hk=>gB.le.kp k hk) (fun k hk=>(hna k hk).elim (fun h=>.inl (gB.le.kp k (hB k h))) (fun h=>h.2)) (fun k hk=>.inr hk) (fun k g hk=>by
    rw[hmn]
    cases hm2:B.mu k with
    |none=>exact hk
    |some g'=>exact absurd (hB k (.inr (by rw[hm2]; simp))) (Nat.not_lt_of_le (hmu k (by rw[hk]; simp)))) hh' t'.sel.2 ws [] hfw nx hp ρ hin
   refine⟨ρ2,?_,k.agree,jeH k.lt,k.le,⟨Bn,gn,k.heap⟩,jcb hbw hB,fun _=>hbw,fun _ h o b hle hf hbk=>?_⟩
   ·show Ending.returned _=Ending.returned ((jaV (jb6 am t'.sel.2 nx).ws).val ρ2)
    rw[←hws,jcy,jcy]
    simp only[k.val]
   ·have hf:find ((jb6 am t'.sel.2 nx).hp++hp) h=some o:=hf
    rw[jat]at hf
    cases hg2:find (jb6 am t'.sel.2 nx).hp h with
    |some o2=>rw[hg2]at hf; cases hf; exact k.fresh h o b hg2 hbk
    |none =>
     rw[hg2]at hf
     have:=(hh.ok h o hf).1
     omega
  ·cases hS
 ·cases hS
theorem jqf {o:Oper} {r:List Oper} {all:Array Oper} {Q:Exit→Act→World→Prop} (hg:o.guard=none) (h:o.wp P a w (fun a' w'=>wpList P all Q r a' w') Q):wpList P all Q (o::r) a w:=by
 unfold wpList
 rw[if_pos (by simp[Region.wanted,hg])]
 exact .inl h
def joF:Code→Option (List Oper)
 | .region _ ops false=>some ops.toList
 |_=>none
theorem jzj {c:Code} {l:List Oper} {Q:Exit→Act→World→Prop} (hc:joF c=some l) (h:wpList P l.toArray Q l a w):c.wp P Q a w:=by
 unfold joF at hc
 split at hc
 ·cases hc
  refine wp_region_list ?_
  simpa using h
 ·cases hc
theorem jxZ {fuel:Nat} {loops:jlE} {drawn:Array Oper→St→(St→Prop)→Prop} (hsp:jac P sp) (hdr:jgc P B N n0 ρ0 w0 drawn) {x y:Code} {cur:Nat} {gs:List Nat} {k:Ex→St→Prop}
  (h:sx P sp N n0 fuel loops drawn (.seq x y) cur gs st k) (hr:RelD ds ρ B N n0 st a w) (hag:jae n0 ρ0 ρ) (hbl:Bel B w0 w):x.wp P (Exit.then (y.wp P (Qx ds ρ0 B N n0 w0 k)) (Qx ds ρ0 B N n0 w0 k)) a w:=by
 unfold sx at h
 refine wp_mono (jbE hsp hdr x cur gs st _ ρ a w h hr hag hbl) ?_
 rintro e a' w' ⟨ex,ρ',st',rfl,hk,hr',hag',hbl'⟩
 cases ex with
 |normal=>exact jbE hsp hdr y cur gs st' k ρ' a' w' hk hr' hag' hbl'
 |exit j=>exact⟨.exit j,ρ',st',rfl,hk,hr',hag',hbl'⟩
 |ret=>exact⟨.ret,ρ',st',rfl,hk,hr',hag',hbl'⟩
def jA8 (P:Program) (sp:jaa) (N:Nat) (R1 CD:Code) (o1 o2:Oper) (x:Operand) (rs:List ResultVar) (c:Cont) (post:List RR):Prop :=
 sx P sp N 1 1 (fun _ _ _=>none) (jcZ P sp N) R1 0 [] ⟨jch 0 [.w (.c (.o 0))],[(0,.ext c)],1⟩ fun ex st=>ex=.normal∧jgr P sp N o1 st fun st=>jb5 st x=some (.w (.c (.o 0))) ∧
  (Ob (c.n=0)→sx P sp N 1 1 (fun _ _ _=>none) (jcZ P sp N) CD 0 [] (st.put o2.dst ⟨True,vb true,st.hp,st.nx⟩) (jdK P rs fun v hp _=>jkB 1 post v hp)) ∧
  sx P sp N 1 1 (fun _ _ _=>none) (jcZ P sp N) CD 0 [] (st.put o2.dst ⟨True,vb false,st.hp,st.nx⟩) (jdK P rs fun v hp _=>jkB 1 post v hp)
theorem jnm {f:Nat} {fn:Func} {R1 R2 C D:Code} {o1 o2:Oper} {t yt:TypeId} {x:Operand} {c0:Cont} {g:List Lf→Option GT} (hm:P.follows .mixedOrders=true) (hsp:jac P sp) (hf:P.funcs[f]?=some fn) (hb:fn.body=some (.seq R1 (.seq (.seq R2 C) D))) (hn:(fn.name == "runtime.NumGoroutine")=false)
  (hlen:1≤fn.ntmps) (hR2:joF R2=some [o1,o2]) (hg1:o1.guard=none) (hg2:o2.guard=none) (hop:o2.op=.binOp .eql t x (.const (.slice none 0 0)) yt) (hd:jb4 fn.ntmps o2.dst=true) (hit:jlz P t=true)
  (hg:∀ls t,g ls=some t→∃c ob post,ls=[.r c]∧t=.leaf ob post∧(ob→jA8 P sp fn.ntmps R1 (.seq C D) o1 o2 x fn.results.toList c post)):jaf P f true (jak [.c (.r c0)] g):=by
 refine jxY hf hb hn fun ls t ht ho b hbl hlt ρ w hh hB=>?_
 obtain⟨c,ob,post,rfl,rfl,hv⟩:=hg ls t ht
 have hv:=hv ho
 simp only[je9,jrQ,jeo,Option.map_some,jf1,Option.some.injEq]at hbl
 subst hbl
 have hh:HRel ρ (kd fun k=>k<w.heap.size) [(0,.ext c)] 1 w:=hh
 refine jua (args:=[.w (.c (.o 0))]) hf hb hlen hlt (Nat.le_refl _) ρ w hh hB fun a hr=>?_
 obtain⟨aa,cap,hval,hcap,hcell⟩:=(hh.ok 0 _ rfl).2.2.1
 refine wp_seq (wp_mono (jbE hsp (jck hm hsp) R1 0 [] _ _ ρ a w hv hr (jae.refl _ _) (Bel.refl _ _)) ?_)
 rintro e a1 w1 ⟨ex,ρ1,st1,rfl,⟨rfl,hdo⟩,hr1,hag1,hbl1⟩
 refine wp_seq (wp_seq (jzj hR2 (jqf hg1 (jeg hsp hr1 hag1 hbl1 hdo fun ρ2 st2 a2 w2 hr2 hag2 hbl2 hk=>?_))))
 obtain⟨hx,hk1,hk2⟩:=hk
 have hval2:(V.w (.c (.o 0))).val ρ2=.slice aa c.n cap:=by
  show ρ2 0=_
  rw[hag2 0 (by omega)]
  exact hval
 refine jqf hg2 (jA7 (u:=.w (.c (.o 0))) hop hd hit hx hval2 hr2 fun hr3=>?_)
 have fin:C.wp P (Exit.then (D.wp P (Qx [] ρ (kd fun k=>k<w.heap.size) fn.ntmps 1 w (jdK P fn.results.toList fun v hp _=>jkB 1 post v hp))) (Qx [] ρ (kd fun k=>k<w.heap.size) fn.ntmps 1 w (jdK P fn.results.toList fun v hp _=>jkB 1 post v hp))) (a2.put o2.dst (.bool aa.isNone)) w2:=by
  cases aa with
  |none =>
   refine jxZ hsp (jck hm hsp) (hk1 ⟨?_⟩) hr3 hag2 hbl2
   refine Nat.eq_zero_of_not_pos fun hn=>?_
   obtain⟨b,off,e,_⟩:=hcell hn
   cases e
  |some p=>exact jxZ hsp (jck hm hsp) hk2 hr3 hag2 hbl2
 unfold wpList
 exact fin
end
end Go.Sx
end

section
namespace Go.Sh
open Go Go.Proofs Go.RowKit Go.Sx Go.Sx09
def cl1 (f:Func):Oper:=((joF (Sx09.sub [1,0,0] (Sx09.bodyOf f))).getD []).getD 0 default
def cl2 (f:Func):Oper:=((joF (Sx09.sub [1,0,0] (Sx09.bodyOf f))).getD []).getD 1 default
def jlp:List SV:=[.c (.r (.ints .i64 []))]
def jdq (l:List (Int)):Option (List (Int)):=if l.length*8≤140737488355328 then some l else none
def jgS:List Lf→Option GT
 |[.r (.ints .i64 l)]=>some (.leaf (ok (jdq l)) [.c (.row 3 (.ints .i64 (val (jdq l))))])
 |_=>none
theorem jqR:jaf Tryz.prog 136 true (jak jlp jgS):=by
 refine jnm (sp:=sp0) (fn:=Tryz.f136) (R1:=Sx09.sub [0] (Sx09.bodyOf Tryz.f136)) (R2:=Sx09.sub [1,0,0] (Sx09.bodyOf Tryz.f136)) (C:=Sx09.sub [1,0,1] (Sx09.bodyOf Tryz.f136)) (D:=Sx09.sub [1,1] (Sx09.bodyOf Tryz.f136)) (o1:=cl1 Tryz.f136) (o2:=cl2 Tryz.f136) (t:=31) (yt:=31) (x:=.tmp 3)
  mixed jau Tryz.func136 (by kernel_rfl) (by kernel_rfl) (Nat.le_of_ble_eq_true (by kernel_rfl)) (by kernel_rfl) (by kernel_rfl) (by kernel_rfl) (by kernel_rfl) (by kernel_rfl) (by kernel_rfl) fun ls t h=>?_
 unfold jgS at h
 split at h
 ·rename_i l
  cases h
  refine⟨_,_,_,rfl,rfl,fun ho=>?_⟩
  have hl:l.length*8≤140737488355328:=by
   unfold ok jdq at ho
   split at ho
   ·assumption
   ·cases ho
  have hv:val (jdq l)=l:=by
   unfold jdq
   rw[if_pos hl]
   rfl
  rw[hv]
  refine Eq.mp (by kernel_rfl:(Ex.normal=Ex.normal∧some (V.w (W.c (Sx.C.o 0)))=some (V.w (W.c (Sx.C.o 0)))∧(Ob (l.length=0)→Ob True∧Ob (l.length=0)∧True)∧Ob ((([]:List (Int)).length+l.length)*8≤140737488355328∧([]:List (Int)).length+l.length≤9223372036854775807)∧Ob True∧Ob (([]:List (Int))++l=l)∧True)=_) ?_
  exact⟨rfl,rfl,fun h=>⟨⟨trivial⟩,h,trivial⟩,⟨by simp only[List.length_nil]; omega⟩,⟨trivial⟩,⟨rfl⟩,trivial⟩
 ·cases h
def jlq:List SV:=[.c (.r (.recs 5 []))]
def jdr (l:List (List Int)):Option (List (List Int)):=if l.length*40≤140737488355328 then some l else none
def jgT:List Lf→Option GT
 |[.r (.recs 5 l)]=>some (.leaf (ok (jdr l)) [.c (.row 148 (.recs 5 (val (jdr l))))])
 |_=>none
theorem jqS:jaf Tryz.prog 137 true (jak jlq jgT):=by
 refine jnm (sp:=sp0) (fn:=Tryz.f137) (R1:=Sx09.sub [0] (Sx09.bodyOf Tryz.f137)) (R2:=Sx09.sub [1,0,0] (Sx09.bodyOf Tryz.f137)) (C:=Sx09.sub [1,0,1] (Sx09.bodyOf Tryz.f137)) (D:=Sx09.sub [1,1] (Sx09.bodyOf Tryz.f137)) (o1:=cl1 Tryz.f137) (o2:=cl2 Tryz.f137) (t:=116) (yt:=116) (x:=.tmp 3)
  mixed jau Tryz.func137 (by kernel_rfl) (by kernel_rfl) (Nat.le_of_ble_eq_true (by kernel_rfl)) (by kernel_rfl) (by kernel_rfl) (by kernel_rfl) (by kernel_rfl) (by kernel_rfl) (by kernel_rfl) fun ls t h=>?_
 unfold jgT at h
 split at h
 ·rename_i l
  cases h
  refine⟨_,_,_,rfl,rfl,fun ho=>?_⟩
  have hl:l.length*40≤140737488355328:=by
   unfold ok jdr at ho
   split at ho
   ·assumption
   ·cases ho
  have hv:val (jdr l)=l:=by
   unfold jdr
   rw[if_pos hl]
   rfl
  rw[hv]
  refine Eq.mp (by kernel_rfl:(Ex.normal=Ex.normal∧some (V.w (W.c (Sx.C.o 0)))=some (V.w (W.c (Sx.C.o 0)))∧(Ob (l.length=0)→Ob True∧Ob (l.length=0)∧True)∧Ob ((([]:List (List Int)).length+l.length)*40≤140737488355328∧([]:List (List Int)).length+l.length≤9223372036854775807)∧Ob True∧Ob (([]:List (List Int))++l=l)∧True)=_) ?_
  exact⟨rfl,rfl,fun h=>⟨⟨trivial⟩,h,trivial⟩,⟨by simp only[List.length_nil]; omega⟩,⟨trivial⟩,⟨rfl⟩,trivial⟩
 ·cases h
def jlr:List SV:=[.c (.r (.recs 4 []))]
def jds (l:List (List Int)):Option (List (List Int)):=if l.length*32≤140737488355328 then some l else none
def jgU:List Lf→Option GT
 |[.r (.recs 4 l)]=>some (.leaf (ok (jds l)) [.c (.row 174 (.recs 4 (val (jds l))))])
 |_=>none
theorem jqT:jaf Tryz.prog 144 true (jak jlr jgU):=by
 refine jnm (sp:=sp0) (fn:=Tryz.f144) (R1:=Sx09.sub [0] (Sx09.bodyOf Tryz.f144)) (R2:=Sx09.sub [1,0,0] (Sx09.bodyOf Tryz.f144)) (C:=Sx09.sub [1,0,1] (Sx09.bodyOf Tryz.f144)) (D:=Sx09.sub [1,1] (Sx09.bodyOf Tryz.f144)) (o1:=cl1 Tryz.f144) (o2:=cl2 Tryz.f144) (t:=158) (yt:=158) (x:=.tmp 3)
  mixed jau Tryz.func144 (by kernel_rfl) (by kernel_rfl) (Nat.le_of_ble_eq_true (by kernel_rfl)) (by kernel_rfl) (by kernel_rfl) (by kernel_rfl) (by kernel_rfl) (by kernel_rfl) (by kernel_rfl) fun ls t h=>?_
 unfold jgU at h
 split at h
 ·rename_i l
  cases h
  refine⟨_,_,_,rfl,rfl,fun ho=>?_⟩
  have hl:l.length*32≤140737488355328:=by
   unfold ok jds at ho
   split at ho
   ·assumption
   ·cases ho
  have hv:val (jds l)=l:=by
   unfold jds
   rw[if_pos hl]
   rfl
  rw[hv]
  refine Eq.mp (by kernel_rfl:(Ex.normal=Ex.normal∧some (V.w (W.c (Sx.C.o 0)))=some (V.w (W.c (Sx.C.o 0)))∧(Ob (l.length=0)→Ob True∧Ob (l.length=0)∧True)∧Ob ((([]:List (List Int)).length+l.length)*32≤140737488355328∧([]:List (List Int)).length+l.length≤9223372036854775807)∧Ob True∧Ob (([]:List (List Int))++l=l)∧True)=_) ?_
  exact⟨rfl,rfl,fun h=>⟨⟨trivial⟩,h,trivial⟩,⟨by simp only[List.length_nil]; omega⟩,⟨trivial⟩,⟨rfl⟩,trivial⟩
 ·cases h
end Go.Sh
end

section
namespace Go.Sh
open Go Go.Proofs Go.RowKit Go.Sx
def jgV:List Lf→Option (List RR)
 |[.d (.i .i64 l0),.d (.i .i64 l1),.d (.i .i64 l2),.d (.i .i64 l3),.d (.i .i64 l4),.d (.i .i64 l5),.d (.i .i64 l6),.d (.i .i64 l7),.d (.i .i64 l8),.d (.i .i64 l9),.d (.i .i64 l10),.d (.i .i64 l11),.d (.i .i64 l12),.d (.i .i64 l13),.d (.i .i64 l14),.d (.i .i64 l15),.d (.i .i64 l16),.d (.i .i64 l17),.d (.i .i64 l18),.d (.i .i64 l19),.d (.i .i64 l20),.d (.i .i64 l21),.d (.i .i64 l22),.d (.i .i64 l23),.d (.i .i64 l24),.d (.i .i64 l25),.d (.i .i64 l26),.d (.i .i64 l27),.d (.i .i64 l28),.d (.i .i64 l29),.d (.i .i64 l30),.d (.i .i64 l31)]=>match jft l0 l1 l2 l3 l4 l5 l6 l7 l8 l9 l10 l11 l12 l13 l14 l15 l16 l17 l18 l19 l20 l21 l22 l23 l24 l25 l26 l27 l28 l29 l30 l31 with
  |some v=>some [.b .f32 32 (v)]
  |none=>none
 |_=>none
theorem joG:∀ls rs,jgV ls=some rs→∃t,jht ls=some t∧t.sel.2=rs∧t.sel.1:=by
 intro ls rs h
 unfold jgV at h
 split at h
 ·split at h
  ·rename_i v hv
   cases h
   exact⟨_,rfl,by simp only[GT.sel,hv]; rfl,jf2 hv⟩
  ·cases h
 ·cases h
def jd0:List Lf→Option (List RR)
 |[.d (.s r_graphEngineGraphName),.x (.st [.s,.i .i64,.ints .i64,.ints .i64,.ints .i64,.i .i64,.recs 5,.i .i64] r_graphEngineGraphUnits),.r (.ints .i64 r_graphorder),.d (.i .i64 r_beforeBlocks),.x (.ff .f32 r_beforePast),.x (.rr 4 r_beforeFilters),.r (.frs .f32 32 r_in),.r (.ints .i64 r_who),.r (.frs .f32 32 r_given),.x (.rr 4 r_after),.r (.ints .i64 r_cuts),.d (.s uName),.d (.i .i64 uKind),.r (.ints .i64 uFrom),.r (.ints .i64 uAlign),.r (.ints .i64 uGains),.d (.i .i64 uDelay),.r (.recs 5 uCascade),.d (.i .i64 uStand),.d (.i .i64 from_),.d (.i .i64 later)]=>match jah r_graphEngineGraphName r_graphEngineGraphUnits r_graphorder r_beforeBlocks r_beforePast r_beforeFilters r_in r_who r_given r_after r_cuts uName uKind uFrom uAlign uGains uDelay uCascade uStand from_ later with
  |some v=>some [.s [.d (.i .i64 (v.1)),.d (.i .i64 (v.2.1)),.d (.i .i64 (v.2.2.1)),.d (.i .i64 (v.2.2.2.1)),.d (.i .i64 (v.2.2.2.2.1)),.d (.i .i64 (v.2.2.2.2.2.1)),.d (.i .i64 (v.2.2.2.2.2.2.1)),.d (.i .i64 (v.2.2.2.2.2.2.2.1)),.d (.i .i64 (v.2.2.2.2.2.2.2.2.1)),.d (.i .i64 (v.2.2.2.2.2.2.2.2.2.1)),.d (.i .i64 (v.2.2.2.2.2.2.2.2.2.2.1)),.d (.i .i64 (v.2.2.2.2.2.2.2.2.2.2.2.1)),.d (.i .i64 (v.2.2.2.2.2.2.2.2.2.2.2.2.1)),.d (.i .i64 (v.2.2.2.2.2.2.2.2.2.2.2.2.2.1)),.d (.i .i64 (v.2.2.2.2.2.2.2.2.2.2.2.2.2.2.1)),.d (.i .i64 (v.2.2.2.2.2.2.2.2.2.2.2.2.2.2.2.1)),.d (.i .i64 (v.2.2.2.2.2.2.2.2.2.2.2.2.2.2.2.2.1)),.d (.i .i64 (v.2.2.2.2.2.2.2.2.2.2.2.2.2.2.2.2.2.1)),.d (.i .i64 (v.2.2.2.2.2.2.2.2.2.2.2.2.2.2.2.2.2.2.1)),.d (.i .i64 (v.2.2.2.2.2.2.2.2.2.2.2.2.2.2.2.2.2.2.2.1)),.d (.i .i64 (v.2.2.2.2.2.2.2.2.2.2.2.2.2.2.2.2.2.2.2.2.1)),.d (.i .i64 (v.2.2.2.2.2.2.2.2.2.2.2.2.2.2.2.2.2.2.2.2.2.1)),.d (.i .i64 (v.2.2.2.2.2.2.2.2.2.2.2.2.2.2.2.2.2.2.2.2.2.2.1)),.d (.i .i64 (v.2.2.2.2.2.2.2.2.2.2.2.2.2.2.2.2.2.2.2.2.2.2.2.1)),.d (.i .i64 (v.2.2.2.2.2.2.2.2.2.2.2.2.2.2.2.2.2.2.2.2.2.2.2.2.1)),.d (.i .i64 (v.2.2.2.2.2.2.2.2.2.2.2.2.2.2.2.2.2.2.2.2.2.2.2.2.2.1)),.d (.i .i64 (v.2.2.2.2.2.2.2.2.2.2.2.2.2.2.2.2.2.2.2.2.2.2.2.2.2.2.1)),.d (.i .i64 (v.2.2.2.2.2.2.2.2.2.2.2.2.2.2.2.2.2.2.2.2.2.2.2.2.2.2.2.1)),.d (.i .i64 (v.2.2.2.2.2.2.2.2.2.2.2.2.2.2.2.2.2.2.2.2.2.2.2.2.2.2.2.2.1)),.d (.i .i64 (v.2.2.2.2.2.2.2.2.2.2.2.2.2.2.2.2.2.2.2.2.2.2.2.2.2.2.2.2.2.1)),.d (.i .i64 (v.2.2.2.2.2.2.2.2.2.2.2.2.2.2.2.2.2.2.2.2.2.2.2.2.2.2.2.2.2.2.1)),.d (.i .i64 (v.2.2.2.2.2.2.2.2.2.2.2.2.2.2.2.2.2.2.2.2.2.2.2.2.2.2.2.2.2.2.2))]]
  |none=>none
 |_=>none
theorem jjX:∀ls rs,jd0 ls=some rs→∃t,jet ls=some t∧t.sel.2=rs∧t.sel.1:=by
 intro ls rs h
 unfold jd0 at h
 split at h
 ·split at h
  ·rename_i v hv
   cases h
   exact⟨_,rfl,by simp only[GT.sel,hv]; rfl,jf2 hv⟩
  ·cases h
 ·cases h
def jjB:List Lf→Option (List RR)
 |[.d (.s gName),.x (.st [.s,.i .i64,.ints .i64,.ints .i64,.ints .i64,.i .i64,.recs 5,.i .i64] gUnits),.r (.ints .i64 order),.d (.i .i64 i),.r (.bools placed)]=>match jcS gUnits i placed with
  |some v=>some [.c (.d (.b v))]
  |none=>none
 |_=>none
theorem jqU:∀ls rs,jjB ls=some rs→∃t,jhe ls=some t∧t.sel.2=rs∧t.sel.1:=by
 intro ls rs h
 unfold jjB at h
 split at h
 ·split at h
  ·rename_i v hv
   cases h
   exact⟨_,rfl,by simp only[GT.sel,hv]; rfl,jf2 hv⟩
  ·cases h
 ·cases h
def jd1:List Lf→Option (List RR)
 |[.d (.s r_graphEngineGraphName),.x (.st [.s,.i .i64,.ints .i64,.ints .i64,.ints .i64,.i .i64,.recs 5,.i .i64] r_graphEngineGraphUnits),.r (.ints .i64 r_graphorder),.d (.i .i64 r_beforeBlocks),.x (.ff .f32 r_beforePast),.x (.rr 4 r_beforeFilters),.r (.frs .f32 32 r_in),.r (.ints .i64 r_who),.r (.frs .f32 32 r_given),.x (.rr 4 r_after),.r (.ints .i64 r_cuts)]=>match jca r_graphEngineGraphName r_graphEngineGraphUnits r_graphorder r_beforeBlocks r_beforePast r_beforeFilters r_in r_who r_given r_after r_cuts with
  |some v=>some [.s [.d (.i .i64 (v.1)),.x 157 (.ff .f32 (v.2)),.g 8]]
  |none=>none
 |_=>none
theorem jjY:∀ls rs,jd1 ls=some rs→∃t,jev ls=some t∧t.sel.2=rs∧t.sel.1:=by
 intro ls rs h
 unfold jd1 at h
 split at h
 ·split at h
  ·rename_i v hv
   cases h
   exact⟨_,rfl,by simp only[GT.sel,hv]; rfl,jf2 hv⟩
  ·cases h
 ·cases h
def jfN:List Lf→Option (List RR)
 |[.r (.ints .i64 l)]=>match jdq l with
  |some v=>some [.c (.row 3 (.ints .i64 v))]
  |none=>none
 |_=>none
theorem jnn:∀ls rs,jfN ls=some rs→∃t,jgS ls=some t∧t.sel.2=rs∧t.sel.1:=by
 intro ls rs h
 unfold jfN at h
 split at h
 ·split at h
  ·rename_i v hv
   cases h
   exact⟨_,rfl,by simp only[GT.sel,hv]; rfl,jf2 hv⟩
  ·cases h
 ·cases h
def jfO:List Lf→Option (List RR)
 |[.r (.recs 5 l)]=>match jdr l with
  |some v=>some [.c (.row 148 (.recs 5 v))]
  |none=>none
 |_=>none
theorem jno:∀ls rs,jfO ls=some rs→∃t,jgT ls=some t∧t.sel.2=rs∧t.sel.1:=by
 intro ls rs h
 unfold jfO at h
 split at h
 ·split at h
  ·rename_i v hv
   cases h
   exact⟨_,rfl,by simp only[GT.sel,hv]; rfl,jf2 hv⟩
  ·cases h
 ·cases h
def jfP:List Lf→Option (List RR)
 |[.r (.recs 4 l)]=>match jds l with
  |some v=>some [.c (.row 174 (.recs 4 v))]
  |none=>none
 |_=>none
theorem jnp:∀ls rs,jfP ls=some rs→∃t,jgU ls=some t∧t.sel.2=rs∧t.sel.1:=by
 intro ls rs h
 unfold jfP at h
 split at h
 ·split at h
  ·rename_i v hv
   cases h
   exact⟨_,rfl,by simp only[GT.sel,hv]; rfl,jf2 hv⟩
  ·cases h
 ·cases h
end Go.Sh
end

section
namespace Go.Sh
open Go Go.Proofs Go.RowKit Go.Sx
def jA9:Nat→Bool
 |22|42|75|76|98|138=>true
 |_=>false
abbrev jbj:Globs:={ tab:=fun _=>none,nestL:=jA9 }
def xsR:List XC:=[.st [.s,.i .i64,.ints .i64,.ints .i64,.ints .i64,.i .i64,.recs 5,.i .i64] [],.rr 4 [],.ff .f32 []]
noncomputable def ovE:jaa:=fun f=>match f with
 |146=>some (true,jeY [] jhs jgV)
 |148=>some (true,jeY xsR jes jd0)
 |106=>some (true,jeY xsR jeu jd1)
 |136=>some (true,jeY [] jlp jfN)
 |137=>some (true,jeY [] jlq jfO)
 |144=>some (true,jeY [] jlr jfP)
 |85=>some (true,jeY xsR jk3 jjB)
 |_=>none
def roE:Nat→Bool
 |76|77|78|84|160|165|176|177|180|164|175|172|149|122|123|124|125|126|127|128|129|134|140|156|157|158|159|89|24|133|93|94|99|145|146|147|148|104|105|135|136|137|144=>true
 |_=>false
theorem jgW {f:Nat} {xs:List XC} {shs:List SV} {g0:List Lf→Option GT} {g:List Lf→Option (List RR)} (hs:jaf Tryz.prog f true (jak shs g0))
  (hg:∀ls rs,g ls=some rs→∃t,g0 ls=some t∧t.sel.2=rs∧t.sel.1):@jaf jbj Tryz.prog f true (jeY xs shs g) :=
 @jAk jbj _ _ _ _ _ _ (jqe globs jbj rfl rfl hs) hg
theorem jx0:@jac jbj Tryz.prog ovE:=fun f M S h=>by
 unfold ovE at h
 split at h<;>cases h
 ·exact jgW jrY joG
 ·exact jgW jnb jjX
 ·exact jgW jne jjY
 ·exact jgW jqR jnn
 ·exact jgW jqS jno
 ·exact jgW jqT jnp
 ·exact jgW joo jqU
theorem jsI:jbL ovE:=fun f M S args hp nx t h hS=>by
 unfold ovE at h
 split at h<;>cases h<;>exact jxW hS
noncomputable def dpE:jaa:=@jni jbj Tryz.prog ovE roE 200 20
theorem jBa:@jac jbj Tryz.prog dpE:=(@jpE jbj _ _ _ _ mixed jx0 jsI 20).1
theorem jzk:jbL dpE:=(@jpE jbj _ _ _ _ mixed jx0 jsI 20).2
noncomputable def jhh (c:Code) (st:St):Option (Ex × St):=@cx jbj Tryz.prog dpE Tryz.f16.ntmps 200 c st
noncomputable def pcE (n:Nat):Code:=(jhg (Tryz.f16.body.getD .skip)).getD n .skip
abbrev aO (h:Nat):V:=.w (.c (.o h))
abbrev aN:C:=.d (.v (.slice none 0 0))
abbrev aI (n:Int):C:=.d (.i .i64 n)
abbrev aR (l:List Int):O:=.row 3 (.ints .i64 l)
abbrev aH0:Nat × O:=(56,aR [0,1,2,3])
abbrev aH1:Nat × O:=(8,(.lbox 118 8 4 [(.d (.s ⟨#[109,105,99]⟩)),(aI 0),aN,aN,aN,(aI 0),aN,(aI (-1)),(.d (.s ⟨#[100]⟩)),(aI 2),(.o 1),(.o 2),aN,(aI 3),aN,(aI (-1)),(.d (.s ⟨#[109,105,120]⟩)),(aI 1),(.o 3),(.o 4),(.o 5),(aI 0),aN,(aI (-1)),(.d (.s ⟨#[111,117,116]⟩)),(aI 4),(.o 6),(.o 7),aN,(aI 0),aN,(aI (-1))]))
abbrev aH2:Nat × O:=(5,aR [500,1000])
abbrev aH3:Nat × O:=(4,aR [0,0])
abbrev aH4:Nat × O:=(3,aR [0,1])
abbrev aH5:Nat × O:=(165,aR [0,2])
abbrev aH6:Nat × O:=(65,(.lbox 118 8 4 [(.d (.s ⟨#[109,105,99]⟩)),(aI 0),aN,aN,aN,(aI 0),aN,(aI (-1)),(.d (.s ⟨#[100]⟩)),(aI 2),(.o 58),(.o 59),aN,(aI 3),aN,(aI (-1)),(.d (.s ⟨#[109,105,120]⟩)),(aI 1),(.o 60),(.o 61),(.o 62),(aI 0),aN,(aI (-1)),(.d (.s ⟨#[111,117,116]⟩)),(aI 4),(.o 63),(.o 64),aN,(aI 0),aN,(aI (-1))]))
abbrev aH7:Nat × O:=(62,aR [500,1000])
abbrev aH8:Nat × O:=(61,aR [0,0])
abbrev aH9:Nat × O:=(60,aR [0,1])
abbrev jsJ:Nat × O:=(259,(.box 24 [(.d (.s ⟨#[112]⟩)),(.o 240)]))
abbrev jsK:Nat × O:=(254,aR [0])
abbrev jsL:Nat × O:=(250,aR [3,0])
abbrev jsM:Nat × O:=(246,aR [0])
abbrev jsN:Nat × O:=(240,(.lbox 118 8 4 [(.d (.s ⟨#[109,105,99]⟩)),(aI 0),(.o 241),(.o 242),(.o 243),(aI 0),(.o 244),(aI (-1)),(.d (.s ⟨#[100]⟩)),(aI 2),(.o 245),(.o 246),(.o 247),(aI 3),(.o 248),(aI (-1)),(.d (.s ⟨#[109,105,120]⟩)),(aI 1),(.o 249),(.o 250),(.o 251),(aI 0),(.o 252),(aI (-1)),(.d (.s ⟨#[111,117,116]⟩)),(aI 4),(.o 253),(.o 254),(.o 255),(aI 0),(.o 256),(aI (-1))]))
abbrev jsO:Nat × O:=(256,(.row 148 (.recs 5 [])))
abbrev jsP:Nat × O:=(253,aR [2])
abbrev jsQ:Nat × O:=(252,(.row 148 (.recs 5 [])))
abbrev jsR:Nat × O:=(251,aR [500,1000])
abbrev jsS:Nat × O:=(249,aR [0,1])
abbrev jsT:Nat × O:=(248,(.row 148 (.recs 5 [])))
abbrev jsU:Nat × O:=(245,aR [0])
abbrev jsV:Nat × O:=(244,(.row 148 (.recs 5 [])))
abbrev jsW:Nat × O:=(187,(.lbox 118 8 4 [(.d (.s ⟨#[109,105,99]⟩)),(aI 0),aN,aN,aN,(aI 0),aN,(aI (-1)),(.d (.s ⟨#[100]⟩)),(aI 2),(.o 180),(.o 181),aN,(aI 3),aN,(aI (-1)),(.d (.s ⟨#[109,105,120]⟩)),(aI 1),(.o 182),(.o 183),(.o 184),(aI 0),aN,(aI (-1)),(.d (.s ⟨#[111,117,116]⟩)),(aI 4),(.o 185),(.o 186),aN,(aI 0),aN,(aI (-1))]))
abbrev jsX:Nat × O:=(186,aR [0])
abbrev jsY:Nat × O:=(185,aR [2])
abbrev jsZ:Nat × O:=(184,aR [500,1000])
abbrev js0:Nat × O:=(183,aR [0,0])
abbrev js1:Nat × O:=(182,aR [0,1])
abbrev js2:Nat × O:=(181,aR [0])
abbrev js3:Nat × O:=(180,aR [0])
abbrev aH31:Nat × O:=(351,aR [0,3,3,3])
abbrev aH32:Nat × O:=(428,(.lbox 79 1 1 [(.o 497)]))
abbrev aH33:Nat × O:=(497,(.row 110 (.frs .f32 32 [[1112276992,0,0,1120534528,0,0,0,0,0,0,0,0,0,0,0,0,0,0,0,0,0,0,0,0,0,0,0,0,0,0,0,0]])))
abbrev aH34:Nat × O:=(364,(.lbox 79 1 1 [(.o 363)]))
abbrev aH35:Nat × O:=(363,(.row 110 (.frs .f32 32 [[1120534528,0,0,0,0,0,0,0,0,0,0,0,0,0,0,0,0,0,0,0,0,0,0,0,0,0,0,0,0,0,0,0]])))
abbrev aH36:Nat × O:=(360,(.lbox 118 8 4 [(.d (.s ⟨#[109,105,99]⟩)),(aI 0),aN,aN,aN,(aI 0),aN,(aI (-1)),(.d (.s ⟨#[100]⟩)),(aI 2),(.o 353),(.o 354),aN,(aI 3),aN,(aI (-1)),(.d (.s ⟨#[109,105,120]⟩)),(aI 1),(.o 355),(.o 356),(.o 357),(aI 0),aN,(aI (-1)),(.d (.s ⟨#[111,117,116]⟩)),(aI 4),(.o 358),(.o 359),aN,(aI 0),aN,(aI (-1))]))
abbrev aH37:Nat × O:=(359,aR [0])
abbrev aH38:Nat × O:=(358,aR [2])
abbrev aH39:Nat × O:=(357,aR [500,1000])
abbrev aH40:Nat × O:=(356,aR [0,0])
abbrev aH41:Nat × O:=(355,aR [0,1])
abbrev aH42:Nat × O:=(354,aR [0])
abbrev aH43:Nat × O:=(353,aR [0])
abbrev aH44:Nat × O:=(501,aR [0,3,3,3])
abbrev aH45:Nat × O:=(500,aR [0,2])
abbrev aH46:Nat × O:=(499,aR [0,1,2,3])
abbrev awT0:List (Nat × V):=[]
def awS0:St:=⟨awT0,[],0⟩
abbrev awT1:List (Nat × V):=(0,(vb false))::[]
def awS1:St:=⟨awT1,[],0⟩
abbrev awT2:List (Nat × V):=(2,(vi .i64 0))::(1,(aO 56))::(16,(vi .i64 0))::(15,(aO 56))::(12,(.t [(.c (.o 56)),(.c (aI 0))]))::(14,(.t [(.c (.o 56)),(.c (aI 0))]))::(13,(.w (.a [(.d (.s ⟨#[112]⟩)),(.o 8)])))::awT1
def awS2:St:=⟨awT2,[aH0,aH1,(7,aR [0]),(6,aR [2]),aH2,aH3,aH4,(2,aR [0]),(1,aR [0])],57⟩
abbrev awT3:List (Nat × V):=(4,(vi .i64 0))::(3,(aO 165))::(21,(vi .i64 0))::(20,(aO 165))::(17,(.t [(.c (.o 165)),(.c (aI 0))]))::(19,(.t [(.c (.o 165)),(.c (aI 0))]))::(18,(.w (.a [(.d (.s ⟨#[112]⟩)),(.o 65)])))::awT2
def awS3:St:=⟨awT3,[aH5,aH6,(64,aR [0]),(63,aR [2]),aH7,aH8,aH9,(59,aR [0]),(58,aR [0]),aH0,aH1,(7,aR [0]),(6,aR [2]),aH2,aH3,aH4,(2,aR [0]),(1,aR [0])],179⟩
abbrev awT4:List (Nat × V):=(6,(vi .i64 0))::(5,(.w (.c (.p 259 0 1 0))))::(26,(vi .i64 0))::(25,(.w (.a [(.d (.s ⟨#[112]⟩)),(.o 240)])))::(22,(.t [(.a [(.d (.s ⟨#[112]⟩)),(.o 240)]),(.c (aI 0))]))::(24,(.t [(.a [(.d (.s ⟨#[112]⟩)),(.o 240)]),(.c (aI 0))]))::(23,(.w (.a [(.d (.s ⟨#[112]⟩)),(.o 187)])))::awT3
def awS4:St:=⟨awT4,[jsJ,jsK,jsL,jsM,jsN,jsO,(255,aR []),jsP,jsQ,jsR,jsS,jsT,(247,aR []),jsU,jsV,(243,aR []),(242,aR []),(241,aR []),jsW,jsX,jsY,jsZ,js0,js1,js2,js3,aH5,aH6,(64,aR [0]),(63,aR [2]),aH7,aH8,aH9,(59,aR [0]),(58,aR [0]),aH0,aH1,(7,aR [0]),(6,aR [2]),aH2,aH3,aH4,(2,aR [0]),(1,aR [0])],260⟩
abbrev awT5:List (Nat × V):=(8,(vi .i64 0))::(7,(aO 351))::(31,(vi .i64 0))::(30,(aO 351))::(27,(.t [(.c (.o 351)),(.c (aI 0))]))::(29,(.t [(.c (.o 351)),(.c (aI 0))]))::(28,(.w (.a [(.d (.s ⟨#[112]⟩)),(.o 240)])))::awT4
def awS5:St:=⟨awT5,[aH31,jsJ,jsK,jsL,jsM,jsN,jsO,(255,aR []),jsP,jsQ,jsR,jsS,jsT,(247,aR []),jsU,jsV,(243,aR []),(242,aR []),(241,aR []),jsW,jsX,jsY,jsZ,js0,js1,js2,js3,aH5,aH6,(64,aR [0]),(63,aR [2]),aH7,aH8,aH9,(59,aR [0]),(58,aR [0]),aH0,aH1,(7,aR [0]),(6,aR [2]),aH2,aH3,aH4,(2,aR [0]),(1,aR [0])],352⟩
abbrev awT6:List (Nat × V):=(11,(vi .i64 0))::(10,(vi .i64 0))::(9,(aO 428))::(40,(vi .i64 0))::(39,(vi .i64 0))::(38,(aO 428))::(32,(.t [(.c (.o 428)),(.c (aI 0)),(.c (aI 0))]))::(37,(.t [(.c (.o 428)),(.c (aI 0)),(.c (aI 0))]))::(36,(aO 364))::(35,(aO 363))::(34,(.w (.b .f32 32 [1120534528,0,0,0,0,0,0,0,0,0,0,0,0,0,0,0,0,0,0,0,0,0,0,0,0,0,0,0,0,0,0,0])))::(33,(.w (.a [(.d (.s ⟨#[112]⟩)),(.o 360)])))::awT5
def awS6:St:=⟨awT6,[aH32,aH33,aH34,aH35,aH36,aH37,aH38,aH39,aH40,aH41,aH42,aH43,aH31,jsJ,jsK,jsL,jsM,jsN,jsO,(255,aR []),jsP,jsQ,jsR,jsS,jsT,(247,aR []),jsU,jsV,(243,aR []),(242,aR []),(241,aR []),jsW,jsX,jsY,jsZ,js0,js1,js2,js3,aH5,aH6,(64,aR [0]),(63,aR [2]),aH7,aH8,aH9,(59,aR [0]),(58,aR [0]),aH0,aH1,(7,aR [0]),(6,aR [2]),aH2,aH3,aH4,(2,aR [0]),(1,aR [0])],499⟩
abbrev awT7:List (Nat × V):=(0,(vb true))::(107,(vb true))::(106,(vb true))::(105,(.w (.c (.d (.f .f32 1120534528)))))::(104,(.w (.c (.p 497 0 32 3))))::(103,(.w (.c (.p 497 0 32 0))))::(102,(aO 497))::(101,(.w (.c (.p 428 0 1 0))))::(100,(aO 428))::(99,(vb true))::(98,(vb true))::(97,(vb true))::(96,(.w (.c (.d (.f .f32 1112276992)))))::(95,(.w (.c (.p 497 0 32 0))))::(94,(.w (.c (.p 497 0 32 0))))::(93,(aO 497))::(92,(.w (.c (.p 428 0 1 0))))::(91,(aO 428))::(90,(vb true))::(89,(vb true))::(88,(vb true))::(87,(vi .i64 1))::(86,(aO 497))::(85,(.w (.c (.p 428 0 1 0))))::(84,(aO 428))::(83,(vb true))::(82,(vb true))::(81,(vb true))::(80,(vi .i64 1))::(79,(aO 428))::(78,(vb true))::(77,(vb true))::(76,(vb true))::(75,(vi .i64 0))::(74,(vb true))::(73,(vb true))::(72,(vb true))::(71,(vi .i64 0))::(70,(vb true))::(69,(vb true))::(68,(vb true))::(67,(aO 501))::(66,(aO 351))::(65,(vb true))::(64,(vb true))::(63,(vb true))::(62,(vi .i64 0))::(61,(vb true))::(60,(vb true))::(59,(vb true))::(58,(vi .i64 0))::(57,(vb true))::(56,(vb true))::(55,(vb true))::(54,(aO 500))::(53,(aO 165))::(52,(vb true))::(51,(vb true))::(50,(vb true))::(49,(vi .i64 0))::(48,(vb true))::(47,(vb true))::(46,(vb true))::(45,(aO 499))::(44,(aO 56))::(43,(vb true))::(42,(vb true))::(41,(vi .i64 0))::awT6
def awS7:St:=⟨awT7,[aH44,aH45,aH46,aH32,aH33,aH34,aH35,aH36,aH37,aH38,aH39,aH40,aH41,aH42,aH43,aH31,jsJ,jsK,jsL,jsM,jsN,jsO,(255,aR []),jsP,jsQ,jsR,jsS,jsT,(247,aR []),jsU,jsV,(243,aR []),(242,aR []),(241,aR []),jsW,jsX,jsY,jsZ,js0,js1,js2,js3,aH5,aH6,(64,aR [0]),(63,aR [2]),aH7,aH8,aH9,(59,aR [0]),(58,aR [0]),aH0,aH1,(7,aR [0]),(6,aR [2]),aH2,aH3,aH4,(2,aR [0]),(1,aR [0])],502⟩
abbrev awT8:List (Nat × V):=awT7
def awS8:St:=⟨awT8,[aH44,aH45,aH46,aH32,aH33,aH34,aH35,aH36,aH37,aH38,aH39,aH40,aH41,aH42,aH43,aH31,jsJ,jsK,jsL,jsM,jsN,jsO,(255,aR []),jsP,jsQ,jsR,jsS,jsT,(247,aR []),jsU,jsV,(243,aR []),(242,aR []),(241,aR []),jsW,jsX,jsY,jsZ,js0,js1,js2,js3,aH5,aH6,(64,aR [0]),(63,aR [2]),aH7,aH8,aH9,(59,aR [0]),(58,aR [0]),aH0,aH1,(7,aR [0]),(6,aR [2]),aH2,aH3,aH4,(2,aR [0]),(1,aR [0])],502⟩
end Go.Sh
end

section
namespace Go.Sh
open Go Go.Proofs Go.RowKit Go.Sx
set_option maxRecDepth 1000000 in
theorem aw_0:jhh (pcE 0) awS0=some (.normal,awS1):=by kernel_rfl
set_option maxRecDepth 1000000 in
theorem aw_1:jhh (pcE 1) awS1=some (.normal,awS2):=by kernel_rfl
set_option maxRecDepth 1000000 in
theorem aw_2:jhh (pcE 2) awS2=some (.normal,awS3):=by kernel_rfl
end Go.Sh
end

section
namespace Go.Sh
open Go Go.Proofs Go.RowKit Go.Sx
set_option maxRecDepth 1000000 in
theorem aw_3:jhh (pcE 3) awS3=some (.normal,awS4):=by kernel_rfl
end Go.Sh
end

section
namespace Go.Sh
open Go Go.Proofs Go.RowKit Go.Sx
set_option maxRecDepth 1000000 in
theorem aw_4:jhh (pcE 4) awS4=some (.normal,awS5):=by kernel_rfl
end Go.Sh
end

section
namespace Go.Sh
open Go Go.Proofs Go.RowKit Go.Sx
set_option maxRecDepth 1000000 in
theorem aw_5:jhh (pcE 5) awS5=some (.normal,awS6):=by kernel_rfl
end Go.Sh
end

section
namespace Go.Sh
open Go Go.Proofs Go.RowKit Go.Sx
set_option maxRecDepth 1000000 in
theorem aw_6:jhh (pcE 6) awS6=some (.normal,awS7):=by kernel_rfl
set_option maxRecDepth 1000000 in
theorem aw_7:jhh (pcE 7) awS7=some (.ret,awS8):=by kernel_rfl
end Go.Sh
end

section
namespace Go.Sh
open Go Go.Proofs Go.RowKit Go.Sx
def jmz:List SV:=[]
def jls:Option Bool:=some true
def jfe:List Lf→Option GT
 |[]=>some (.leaf (ok (jls)) [.c (.d (.b (val (jls))))])
 |_=>none
abbrev sp_16:jaa→jaa:=jaI 16 true (jak jmz jfe)
set_option maxRecDepth 1000000 in
theorem jAm:jhg (Tryz.f16.body.getD .skip)=[pcE 0,pcE 1,pcE 2,pcE 3,pcE 4,pcE 5,pcE 6,pcE 7]:=by kernel_rfl
theorem jBs:@cxL jbj Tryz.prog dpE Tryz.f16.ntmps 200 (jhg (Tryz.f16.body.getD .skip)) ⟨[],[],0⟩=some (.ret,awS8):=by
 rw[jAm]
 exact @jdZ jbj _ _ _ _ _ _ _ _ _ aw_0 (@jdZ jbj _ _ _ _ _ _ _ _ _ aw_1 (@jdZ jbj _ _ _ _ _ _ _ _ _ aw_2 (@jdZ jbj _ _ _ _ _ _ _ _ _ aw_3 (@jdZ jbj _ _ _ _ _ _ _ _ _ aw_4 (@jdZ jbj _ _ _ _ _ _ _ _ _ aw_5 (@jdZ jbj _ _ _ _ _ _ _ _ _ aw_6 ((@juW jbj _ _ _ _ _ _).trans aw_7)))))))
set_option maxRecDepth 1000000 in
theorem js4:jaf Tryz.prog 16 true (jak jmz jfe) :=
 jqe jbj globs rfl rfl (@jxX jbj Tryz.prog dpE 16 200 Tryz.f16 (Tryz.f16.body.getD .skip) (.b true) .ret awS8 jfe mixed jBa jzk Tryz.func16 (by kernel_rfl) (by kernel_rfl) jBs (fun j h=>by cases h) (by kernel_rfl) fun ls t h=>by
  unfold jfe at h
  split at h
  ·cases h
   exact⟨rfl,_,rfl⟩
  ·cases h)
theorem sp_16_ok {sp:jaa} (h:jac Tryz.prog sp):jac Tryz.prog (sp_16 sp):=jas js4 h
end Go.Sh
end

section
namespace Go.Sh
open Go Go.Proofs Go.RowKit Go.Sx
def jgX:List SV:=[.a [.d,.x (.st [.s,.i .i64,.ints .i64,.ints .i64,.ints .i64,.i .i64,.recs 5,.i .i64] [])]]
def jbG (u1:ByteArray) (u0:List (List NC)):Option Bool :=
 Option.bind (jd7 u1 u0) fun r0 =>
 if(!r0)=true then
  some true
 else
  Option.bind (y90 u1 u0) fun r1 =>
  Option.bind (jdx r1.1 r1.2) fun r2 =>
  Option.bind (y60 u1 u0) fun r3 =>
  if(r3 != 0)=true then
  if(r2.2==r3)=true then
   some ((↑(List.length r2.1):Int)==0)
  else
   some false
  else
  if(r2.2==0)=true then
   Option.bind (jdT u1 u0) fun r4 =>
   Option.bind (jgy r2.1 r4) fun r5 =>
   some r5
  else
   some false
def jgY:List Lf→Option GT
 |[.d (.s u1),.x (.st [.s,.i .i64,.ints .i64,.ints .i64,.ints .i64,.i .i64,.recs 5,.i .i64] u0)]=>some (.leaf (ok (jbG u1 u0)) [.c (.d (.b ((val (jbG u1 u0)))))])
 |_=>none
def jnq (u1:ByteArray) (u0:List (List NC)) (r:Bool):Sk (top r) (jbG u1 u0) :=
 .obC (ok jls) (by decide) (.call (.brB
 (.obT (.rc))
 (.call (.call (.call (.brB
 (.brB
 (.obT (.rc))
 (.obT (.rc)))
 (.brB
 (.call (.call (.obT (.rc))))
 (.obT (.rc)))))))))
theorem jlY (u1:ByteArray) (u0:List (List NC)) (r:Bool) (h:Option.bind (jbG u1 u0) some=some r):ja8 Tryz.f10 ((sp_16 (sp_17 (sp_19 (sp_49 (sp_22 (sp_50 (sp_24 sp0)))))))) (fun _ _ _=>none) (ja5 jgX [.d (.s u1),.x (.st [.s,.i .i64,.ints .i64,.ints .i64,.ints .i64,.i .i64,.recs 5,.i .i64] u0)]) [.c (.d (.b r))] :=
 Sk.vc (jnq u1 u0 r) (by kernel_rfl) h
theorem jlZ:jaf Tryz.prog 10 true (jak jgX jgY):=by
 refine jaw (sp:=(sp_16 (sp_17 (sp_19 (sp_49 (sp_22 (sp_50 (sp_24 sp0)))))))) (fn:=Tryz.f10) (body:=bodyOf Tryz.f10) mixed (sp_16_ok (sp_17_ok (sp_19_ok (sp_49_ok (sp_22_ok (sp_50_ok (sp_24_ok jau))))))) Tryz.func10 (by kernel_rfl) (by kernel_rfl) fun ls t h ho b hb=>?_
 unfold jgY at h
 split at h
 ·rename_i u1 u0
  cases h
  obtain rfl:=jaM hb
  exact⟨Nat.le_of_ble_eq_true (by kernel_rfl),_,_,jlY u1 u0 _ (jap ho)⟩
 ·cases h
end Go.Sh
end

section
namespace Go.Sh
open Go Go.Proofs Go.RowKit Go.Sx
theorem jqg {g:List (List NC)} (hw:Fw g) {nm:ByteArray} (hs:nm.size<1000) {e:Int} (he:0<e) (h:jbd nm g=some e):jdx nm g=some ([],e):=by
 unfold jdx jop jfc
 rw[h]
 show Option.bind (Option.bind (some e) _) _=_
 simp only[jad]
 rw[if_pos he,jad,jAb he]
theorem joH (nm:ByteArray) (g:List (List NC)):jbG nm g=some true:=by
 unfold jbG
 rcases jxn nm g with h|⟨h,hw,hs⟩
 ·rw[h]; rfl
 ·have hc:=jzI hw
  rw[h,jad,if_neg (by simp),jAa hw,jad,jt3 hw hs]
  by_cases h0:(cg nm g).2=0
  ·have hne:¬((cg nm g).2≠0):=fun hn=>hn h0
   rw[if_neg hne]
   cases hl:jdt (jbz g) g.length []with
   |none =>
    have ho:jbd nm (cpU g)=some 19:=by rw[jsr hc hs (by rw[jq0]; exact h0),jp8,jb3,hl]
    rw[jqg hc hs (by omega) ho]
    rfl
   |some l =>
    have hr:=rg_of hw h0 hl
    have hn:=hr.n
    have hwl:=jlf g l g.length
    rw[jy4 hr.cp nm hs (by rw[jq0]; exact h0),jb3,jAd]
    simp only[jad]
    rw[if_neg (by simp),if_pos (by simp),jy5 hr nm,jad,jxi _ (by omega)]
    rfl
  ·have hp:0<(cg nm g).2:=by have:=jxz nm g; omega
   have ho:jbd nm (cpU g)=some (cg nm g).2:=by rw[jxB hc hs (by rw[jq0]; exact h0),jq0]
   rw[jqg hc hs hp ho]
   simp only[jad]
   rw[if_pos h0,if_pos (bne_iff_ne.2 h0),if_pos (by simp)]
   rfl
end Go.Sh
end

section
namespace Go.Sx
open Go.RowKit Go.ChangeShapes Go.WideShapes
inductive K where
 |i (k:IntKind)|b|f (k:FloatKind)|s
def K.fits:K→D→Prop
 | .i k,.i k' n=>k'=k∧(Lit.int k n).wf=true
 | .b,.b _=>True
 | .f k,.f k' n=>k'=k∧(Lit.float k n).wf=true
 | .s,.s x=>x.size≤maxLen
 |_,_=>False
def jbg:List K→List D→Prop
 |[],[]=>True
 |k::ks,d::ds=>k.fits d∧jbg ks ds
 |_,_=>False
theorem jeZ:∀{ks:List K} {ds:List D} {ks':List K} {ds':List D},jbg ks ds→jbg ks' ds'→jbg (ks++ks') (ds++ds')
 |[],[],_,_,_,h=>h
 |_::_,_::_,_,_,h,h'=>⟨h.1,jeZ h.2 h'⟩
 |[],_::_,_,_,h,_=>h.elim
 |_::_,[],_,_,h,_=>h.elim
theorem je0:∀{ks:List K} {ds:List D},jbg ks ds→ds.length=ks.length
 |[],[],_=>rfl
 |_::_,_::_,h=>by simp[je0 h.2]
 |[],_::_,h=>h.elim
 |_::_,[],h=>h.elim
def jgf (g:TypeId→Option (List K)) (P:Program):Nat→List Field→Option (List K)
 |_,[]=>some []
 |n,f::fs=>match g f.type with
  |none=>none
  |some ks=>if f.offset=n∧P.cellsOf f.type=ks.length then(jgf g P (n+ks.length) fs).map (ks ++ ·)else none
def jhi (P:Program):Nat→TypeId→Option (List K)
 |0,_=>none
 |d+1,t=>match P.underlying t with
  |some .bool=>some [.b]
  |some (.int k)=>some [.i k]
  |some (.float k)=>some [.f k]
  |some .string=>some [.s]
  |some (.struct fs)=>match jgf (jhi P d) P 0 fs.toList with
   |some ks=>if P.cellsOf t=ks.length then some ks else none
   |none=>none
  |some (.array n e)=>match jhi P d e with
   |some ks=>if P.cellsOf t=n*ks.length∧P.cellsOf e=ks.length then some (List.replicate n ks).flatten else none
   |none=>none
  |_=>none
section
variable {H:Type} {enc:TypeId × Value→H} {P:Program} {w:World} {base:Nat} {spare:Nat→Bool} {held:Bool}
theorem jmA {ks:List K} {e:TypeId} {m:Nat} (ih:∀cs x,DataW.trod enc P w base spare held m e cs=some x→∃ds:List D,cs=ds.map D.val∧jbg ks ds) :
  ∀(n:Nat) (cs:List Value),cs.length=n*ks.length→(∀i,i<n→∃x,DataW.trod enc P w base spare held m e ((cs.drop (i*ks.length)).take ks.length)=some x)→∃ds:List D,cs=ds.map D.val∧jbg (List.replicate n ks).flatten ds
 |0,cs,hl,_=>⟨[],by simpa using hl,trivial⟩
 |n+1,cs,hl,h=>by
  obtain⟨x,hx⟩:=h 0 (by omega)
  obtain⟨ds0,h0,h1⟩:=ih _ x hx
  obtain⟨ds1,h2,h3⟩:=jmA ih n (cs.drop ks.length) (by rw[List.length_drop,hl,Nat.add_mul]; omega) (fun i hi=>by
   obtain⟨y,hy⟩:=h (i+1) (by omega)
   refine⟨y,?_⟩
   rw[List.drop_drop]
   rw[show ks.length+i*ks.length=(i+1)*ks.length by rw[Nat.add_mul]; omega]
   exact hy)
  refine⟨ds0++ds1,?_,jeZ h1 h3⟩
  rw[List.map_append,←h0,←h2]
  simp
theorem jlt {g:TypeId→Option (List K)} {m:Nat} (ih:∀t ks cs x,g t=some ks→DataW.trod enc P w base spare held m t cs=some x→∃ds:List D,cs=ds.map D.val∧jbg ks ds) :
  ∀(fs:List Field) (n:Nat) (ks:List K) (cs:List Value),jgf g P n fs=some ks→cs.length=n+ks.length→(∀f∈fs,∃x,DataW.trod enc P w base spare held m f.type ((cs.drop f.offset).take (P.cellsOf f.type))=some x) →
   ∃ds:List D,cs.drop n=ds.map D.val∧jbg ks ds
 |[],n,ks,cs,hk,hl,_=>by
  simp only[jgf,Option.some.injEq]at hk
  subst hk
  refine⟨[],?_,trivial⟩
  simp at hl
  simp[hl]
 |f::fs,n,ks,cs,hk,hl,h=>by
  simp only[jgf]at hk
  split at hk
  ·cases hk
  ·rename_i kf hg
   split at hk
   ·rename_i hc
    cases hr:jgf g P (n+kf.length) fs with
    |none=>simp[hr]at hk
    |some kr =>
     simp only[hr,Option.map_some,Option.some.injEq]at hk
     subst hk
     obtain⟨x,hx⟩:=h f List.mem_cons_self
     rw[hc.1,hc.2]at hx
     obtain⟨ds0,h0,h1⟩:=ih f.type kf _ x hg hx
     obtain⟨ds1,h2,h3⟩:=jlt ih fs (n+kf.length) kr cs hr (by rw[hl,List.length_append]; omega) (fun f' hf'=>h f' (List.mem_cons_of_mem _ hf'))
     refine⟨ds0++ds1,?_,jeZ h1 h3⟩
     rw[List.map_append,←h0,←h2,←List.drop_drop]
     exact(List.take_append_drop _ _).symm
   ·cases hk
theorem jf9:∀(d:Nat) (t:TypeId) (ks:List K) (fuel:Nat) (cs:List Value) (x:DataW H × List MemPlace),jhi P d t=some ks→DataW.trod enc P w base spare held fuel t cs=some x →
  ∃ds:List D,cs=ds.map D.val∧jbg ks ds
 |0,_,_,_,_,_,h,_=>by cases h
 |d+1,t,ks,fuel,cs,x,hk,hx=>by
  unfold jhi at hk
  split at hk
  ·rename_i ht
   cases hk
   obtain⟨b,rfl,_⟩:=DataW.trod_bool ht hx
   exact⟨[.b b],rfl,trivial,trivial⟩
  ·rename_i k ht
   cases hk
   obtain⟨n,rfl,_,hw⟩:=DataW.trod_int ht hx
   exact⟨[.i k n],rfl,⟨rfl,hw⟩,trivial⟩
  ·rename_i k ht
   cases hk
   cases fuel with
   |zero=>simp[DataW.trod]at hx
   |succ n =>
    rcases cs with _|⟨v,_|⟨v',r⟩⟩
    ·simp[DataW.trod,ht]at hx
    ·cases v with
     |float k2 n2 =>
      simp only[DataW.trod,ht]at hx
      split at hx
      ·rename_i hh
       exact⟨[.f k2 n2],rfl,⟨hh.1,hh.2⟩,trivial⟩
      ·cases hx
     |_=>simp[DataW.trod,ht]at hx
    ·simp[DataW.trod,ht]at hx
  ·rename_i ht
   cases hk
   obtain⟨z,rfl,_,hw⟩:=DataW.trod_string ht hx
   exact⟨[.s z],rfl,hw,trivial⟩
  ·rename_i fs ht
   split at hk
   ·rename_i ks' hks
    split at hk
    ·rename_i hc
     cases hk
     obtain⟨xs,n,rfl,_,hl,hxl,hf⟩:=DataW.trod_struct ht hx
     have:=jlt (enc:=enc) (w:=w) (base:=base) (spare:=spare) (held:=held) (g:=jhi P d) (m:=n) (fun t ks cs x h1 h2=>jf9 d t ks n cs x h1 h2) fs.toList 0 ks cs hks (by rw[hl,hc]; omega) (fun f hfm=>by
      obtain⟨i,hi,hfi⟩:=List.mem_iff_getElem.1 hfm
      have hi':i<fs.size:=by simpa using hi
      have h1:=hf i f (by rw[Array.getElem?_eq_getElem hi']; simpa using hfi)
      exact⟨xs[i]'(by omega),by rw[h1,List.getElem?_eq_getElem]⟩)
     simpa using this
    ·cases hk
   ·cases hk
  ·rename_i n e ht
   split at hk
   ·rename_i ks' hks
    split at hk
    ·rename_i hc
     cases hk
     obtain⟨xs,m,rfl,_,hl,hxl,hf⟩:=DataW.trod_array ht hx
     exact jmA (fun cs x h=>jf9 d e ks' m cs x hks h) n cs (by rw[hl,hc.1]) (fun i hi=>by
      have h1:=hf i hi
      rw[hc.2]at h1
      exact⟨xs[i]'(by omega),by rw[h1,List.getElem?_eq_getElem]⟩)
    ·cases hk
   ·cases hk
  ·cases hk
theorem jx1 {t e:TypeId} {ks:List K} {d fuel:Nat} {cs:List Value} {x:DataW H × List MemPlace} (ht:P.underlying t=some (.slice e)) (hk:jhi P d e=some ks) (hc:P.cellsOf e=ks.length) (h0:0<ks.length)
  (hx:DataW.trod enc P w base spare held fuel t cs=some x) :
  ∃(v:Value) (rows:List (List D)),cs=[v]∧(∀r∈rows,jbg ks r)∧jaF w v (.lits ks.length rows)∧(x.1=.nil∧rows=[]∨∃el sp,x.1=.slice el sp∧el.length=rows.length):=by
 rcases DataW.trod_slice ht hx with ⟨rfl,rfl⟩|⟨a,len,cap,elems,rest,n,rfl,rfl,rfl,hb,hl,hm,hel,hi,_,_⟩
 ·exact⟨_,[],rfl,(fun _ h=>by cases h),⟨none,0,rfl,⟨by simp[Cont.n],fun _=>rfl⟩,fun h=>absurd h (by simp[Cont.n])⟩,.inl ⟨rfl,rfl⟩⟩
 ·-- each element's cells
  have hget:∀i,i<len→∃ds:List D,jbg ks ds∧∀j,j<ks.length→w.cell? ((a.add (i*ks.length)).add j)=(ds[j]?).map D.val:=fun i hil=>by
   have h1:=hi i hil
   rw[hc]at h1
   have h2:elems[i]?=some (elems[i]'(by omega)):=List.getElem?_eq_getElem (by omega)
   rw[h2]at h1
   obtain⟨cs',hcs,htr⟩:=Option.bind_eq_some_iff.1 h1
   obtain⟨ds,hds,hfit⟩:=jf9 d e ks n cs' _ hk htr
   obtain⟨_,hcl,hat⟩:=World.cells?_some hcs
   refine⟨ds,hfit,fun j hj=>?_⟩
   rw[hat j hj,hds,List.getElem?_map]
  let R:Nat→List D:=fun i=>if h:i<len then Classical.choose (hget i h)else[]
  have hR:∀i (h:i<len),jbg ks (R i)∧∀j,j<ks.length→w.cell? ((a.add (i*ks.length)).add j)=((R i)[j]?).map D.val:=fun i h=>by
   show jbg ks (if h:i<len then _ else _)∧_
   simp only[R,dif_pos h]
   exact Classical.choose_spec (hget i h)
  refine⟨_,(List.range len).map R,rfl,fun r hr=>?_,?_,.inr ⟨_,_,rfl,by simp[hel]⟩⟩
  ·obtain⟨i,hi',rfl⟩:=List.mem_map.1 hr
   exact(hR i (by simpa using hi')).1
  ·refine⟨some a,cap,by simp[Cont.n],⟨by simpa [Cont.n]using hl,fun h=>by cases h⟩,fun hn=>?_⟩
   have hn:0<len:=by simpa [Cont.n]using hn
   have hsp:a.spot=none:=by
    have h1:=(hR 0 hn).2 0 h0
    have hfl:=je0 (hR 0 hn).1
    rw[List.getElem?_eq_getElem (by omega)]at h1
    simp[Addr.add]at h1
    cases hs:a.spot with
    |none=>rfl
    |some s =>
     exfalso
     unfold World.cell? at h1
     simp only[hs]at h1
     split at h1
     ·simp at h1
     ·cases h1
   obtain⟨b,off,sp⟩:=a
   simp only at hsp
   subst hsp
   refine⟨b,off,rfl,fun j y hj=>?_⟩
   have hne:0<ks.length:=h0
   have hjl:j<(Cont.lits ks.length ((List.range len).map R)).flat.length:=(List.getElem?_eq_some_iff.1 hj).1
   rw[Cont.flat_length]at hjl
   simp only[Cont.n,Cont.e,List.length_map,List.length_range]at hjl
   have hq:j/ks.length<len:=Nat.div_lt_of_lt_mul (by rw[Nat.mul_comm]; exact hjl)
   have hr:j%ks.length<ks.length:=Nat.mod_lt _ hne
   have hg:=Cont.flat_get (.lits ks.length ((List.range len).map R)) (i:=j/ks.length) (j:=j%ks.length) (by simpa [Cont.n]using hq) hr
   have ej:j/ks.length*ks.length+j%ks.length=j:=by rw[Nat.mul_comm]; exact Nat.div_add_mod j _
   simp only[Cont.e]at hg
   rw[ej,hj]at hg
   have hcell:=(hR (j/ks.length) hq).2 (j%ks.length) hr
   have hfl:=je0 (hR (j/ks.length) hq).1
   rw[jaK,jaK,Nat.add_assoc,ej,List.getElem?_eq_getElem (by omega)]at hcell
   rw[hcell]
   simp only[Option.some.injEq]at hg
   simp[hg,Cont.cell,List.getD,hq,List.getElem?_eq_getElem (show j%ks.length<(R (j/ks.length)).length by omega)]
theorem js5 {v:Value} {c c':Cont} (h:jaF w v c) (hn:c'.n=c.n) (hf:c'.flat=c.flat):jaF w v c':=by
 obtain⟨a,cap,hv,hc,hcell⟩:=h
 exact⟨a,cap,by rw[hn]; exact hv,by rw[hn]; exact hc,fun h=>by
  obtain⟨b,off,e,hx⟩:=hcell (by rw[←hn]; exact h)
  exact⟨b,off,e,by rw[hf]; exact hx⟩⟩
theorem juX:∀{n:Nat} {r:List D},jbg (List.replicate n (.i .i64)) r→∃l:List Int,r=l.map (D.i .i64)∧l.length=n∧∀x∈l,inI x
 |0,[],_=>⟨[],rfl,rfl,fun _ h=>by cases h⟩
 |n+1,.i k x::r,h=>by
  obtain⟨l,h1,h2,h3⟩:=juX (n:=n) h.2
  obtain⟨rfl,hw⟩:=h.1
  refine⟨x::l,by rw[h1]; rfl,by simp[h2],fun y hy=>?_⟩
  rcases List.mem_cons.1 hy with rfl|hy
  ·unfold inI
   simpa [Lit.wf,IntKind.min,IntKind.max,IntKind.signed,IntKind.bits]using hw
  ·exact h3 y hy
 |0,_::_,h=>h.elim
 |_+1,[],h=>h.elim
 |_+1,.b _::_,h=>h.1.elim
 |_+1,.f _ _::_,h=>h.1.elim
 |_+1,.s _::_,h=>h.1.elim
 |_+1,.v _::_,h=>h.1.elim
theorem jx2 {n:Nat} {rows:List (List D)} (h:∀r∈rows,jbg (List.replicate n (.i .i64)) r):∃l:List (List Int),rows=l.map (fun r=>r.map (D.i .i64))∧l.length=rows.length∧∀r∈l,r.length=n∧∀x∈r,inI x:=by
 induction rows with
 |nil=>exact⟨[],rfl,rfl,fun _ h=>by cases h⟩
 |cons r rows ih =>
  obtain⟨l,h1,h2,h3⟩:=ih fun r hr=>h r (List.mem_cons_of_mem _ hr)
  obtain⟨x,h4,h5,h6⟩:=juX (h r List.mem_cons_self)
  refine⟨x::l,by rw[h1,h4]; rfl,by simp[h2],fun y hy=>?_⟩
  rcases List.mem_cons.1 hy with rfl|hy
  ·exact⟨h5,h6⟩
  ·exact h3 y hy
theorem jx3 {n:Nat} {l:List (List Int)} (h:∀r∈l,r.length=n):(Cont.recs n l).flat=(Cont.lits n (l.map fun r=>r.map (D.i .i64))).flat:=by
 simp only[Cont.flat]
 induction l with
 |nil=>rfl
 |cons r l ih =>
  rw[List.flatMap_cons,List.map_cons,List.flatMap_cons,ih fun r hr=>h r (List.mem_cons_of_mem _ hr)]
  congr 1
  have hr:=h r List.mem_cons_self
  subst hr
  rw[jj7]
  exact(litD_self' (r.map (D.i .i64)) (by simp)).symm
 where
 litD_self' {n:Nat} (r:List D) (h:r.length=n):jiz n r=r:=by subst h; exact jj8 r
end
section
variable [Globs] {P:Program} {w:World}
end
section
variable {H:Type} {enc:TypeId × Value→H} {P:Program}
theorem js6 {sp:Nat→Bool} (hl:laidOutB P=true) {W W':World} (hb:Below W.heap.size W W'):∀(ts:List TypeId) (vs:List Value) (ds:List (DataW H)) (ps:List MemPlace),(∀t∈ts,P.readableRec t=true∧t<P.types.size) →
  DataW.TrodAll enc P W 0 (fun _=>true) true ts vs ds ps→(∀p∈ps,p.block<W.heap.size)→(∀p∈ps,sp p.block=true)→DataW.TrodAll enc P W' 0 sp true ts vs ds ps
 |[],[],[],_,_,h,_,_=>h
 |t::ts,v::vs,d::ds,ps,ht,h,hlt,hs=>by
  obtain⟨p,q,h1,h2,rfl⟩:=h
  have htt:=ht t List.mem_cons_self
  exact⟨p,q,WideElems.Trod_stays hl htt.1 htt.2 h1 (fun x hx=>hb.same (hlt x (List.mem_append_left _ hx))) (fun x hx=>hs x (List.mem_append_left _ hx)),
   js6 hl hb ts vs ds q (fun t ht'=>ht t (List.mem_cons_of_mem _ ht')) h2 (fun x hx=>hlt x (List.mem_append_right _ hx)) (fun x hx=>hs x (List.mem_append_right _ hx)),rfl⟩
 |[],_::_,_,_,_,h,_,_=>h.elim
 |_::_,[],_,_,_,h,_,_=>h.elim
 |[],[],_::_,_,_,h,_,_=>h.elim
 |_::_,_::_,[],_,_,h,_,_=>h.elim
theorem jzy {f:Func} {s:ChangeSpec} {apart fresh handsOn again:Bool} {W W':World} {args:Array Value} {ds gs:List (DataW H)} {before:List MemPlace} {tb:TypeId} (hvars:s.vars=[]) (hrt:f.resultTypes=#[tb]) (htb:P.underlying tb=some .bool)
  (hres:(s.fn H (ds++gs)).results=[.lit (.bool true)]) (hargs:(s.fn H (ds++gs)).args=ds) (hsv:(s.fn H (ds++gs)).vars=[]) (hl:laidOutB P=true) (hread:∀t∈f.params.toList,P.readableRec t=true∧t<P.types.size)
  (hW:DataW.Whole enc P f.params.toList s.vars apart W args.toList ds gs before) (hb:Below W.heap.size W W'):s.post enc P f apart fresh handsOn again W args (.bool true) W':=by
 have hlt:∀p∈before,p.block<W.heap.size:=fun p hp=>hW.lt p hp
 have hW':=hW
 obtain⟨p,q,h1,h2,rfl,hfz,hnd⟩:=hW'
 rw[hvars]at h2
 have hq:q=[]:=by
  cases gs with
  |nil=>exact h2
  |cons _ _=>exact h2.elim
 subst hq
 rw[List.append_nil]at hlt hfz hnd
 have hA:∀sp:Nat→Bool,(∀x∈p,sp x.block=true)→DataW.TrodAll enc P W' 0 sp true f.params.toList args.toList ds p:=fun sp hs=>js6 hl hb _ _ _ _ hread h1 hlt hs
 have hR:∀(b:Nat) (sp:Nat→Bool) (hd:Bool),DataW.TrodAll enc P W' b sp hd [tb] [.bool true] [.lit (.bool true)] []:=fun b sp hd=>⟨[],[],⟨1,by simp[DataW.trod,htb,Value.cells]⟩,rfl,rfl⟩
 have hrl:(Value.bool true).resultList f.resultTypes.size=[.bool true]:=by rw[hrt]; rfl
 have hrt':f.resultTypes.toList=[tb]:=by rw[hrt]
 refine⟨ds,gs,p++[],[],p,[],hW,?_,?_,?_,World.keptBut_mono (fun x hx=>⟨hx,.inr (.inl (by simpa using hx))⟩) (hb.frame (·∈ p++[])),fun _=>⟨fun j t r hj hr=>?_,?_⟩⟩
 ·rw[hrl,hrt',hres]; exact hR _ _ _
 ·rw[hargs]; exact hA _ (fun x hx=>by simpa using hlt x hx)
 ·rw[hvars,hsv]; rfl
 ·rw[hrt]at hj
  rw[hrl]at hr
  cases j with
  |zero =>
   simp at hj hr
   subst hj; subst hr
   exact okWide_bool_mk htb _
  |succ j=>simp at hj
 ·refine⟨[.lit (.bool true)]++ds,[],p,⟨p,[],?_,by rw[hvars]; rfl,by simp,?_,?_⟩,fun x hx _=>by simpa using hx⟩
  ·rw[hrl,hrt']
   exact⟨[],p,⟨1,by simp[DataW.trod,htb,Value.cells]⟩,hA _ (fun _ _=>rfl),rfl⟩
  ·intro b off hp
   rw[hb.frozen (hlt _ hp)]
   exact hfz b off hp
  ·exact hnd
end
section
variable {H:Type} {enc:TypeId × Value→H} {P:Program} {w:World} {base:Nat} {spare:Nat→Bool} {held:Bool} {r:Reach} {b0:Nat}
end
end Go.Sx
end

section
namespace Go.Sx
open Go.RowKit Go.ChangeShapes Go.WideShapes
inductive K2 where
 |d (k:K)
 |s (ks:List K)
inductive T1 where
 |d (x:D)
 |r (c:Cont)
 |xl (X:XC)
inductive Cell2 (w:World):K2→Value→T1→Prop where
 |d (k:K) (x:D) (h:k.fits x):Cell2 w (.d k) x.val (.d x)
 |s (ks:List K) (v:Value) (rows:List (List D)) (h0:0<ks.length) (h:∀r∈rows,jbg ks r) (hr:jaF w v (.lits ks.length rows)):Cell2 w (.s ks) v (.r (.lits ks.length rows))
inductive Cells2 (w:World):List K2→List Value→List T1→Prop where
 |nil:Cells2 w [] [] []
 |cons {k:K2} {v:Value} {t:T1} {ks:List K2} {vs:List Value} {ts:List T1} (h:Cell2 w k v t) (r:Cells2 w ks vs ts):Cells2 w (k::ks) (v::vs) (t::ts)
theorem Cells2.append {w:World} {ks ks':List K2} {vs vs':List Value} {ts ts':List T1} (h:Cells2 w ks vs ts) (h':Cells2 w ks' vs' ts'):Cells2 w (ks++ks') (vs++vs') (ts++ts'):=by
 induction h with
 |nil=>exact h'
 |cons h r ih=>exact .cons h ih
def je1 (g:TypeId→Option (List K2)) (P:Program):Nat→List Field→Option (List K2)
 |_,[]=>some []
 |n,f::fs=>match g f.type with
  |none=>none
  |some ks=>if f.offset=n∧P.cellsOf f.type=ks.length then(je1 g P (n+ks.length) fs).map (ks ++ ·)else none
def jgZ (P:Program):Nat→TypeId→Option (List K2)
 |0,_=>none
 |d+1,t=>match jhi P d t with
  |some ks=>some (ks.map .d)
  |none=>match P.underlying t with
   |some (.slice e)=>match jhi P d e with
    |some (k::ks)=>if P.cellsOf e=ks.length+1 then some [.s (k::ks)]else none
    |_=>none
   |some (.struct fs)=>match je1 (jgZ P d) P 0 fs.toList with
    |some ks=>if P.cellsOf t=ks.length then some ks else none
    |none=>none
   |_=>none
section
variable {H:Type} {enc:TypeId × Value→H} {P:Program} {w:World} {base:Nat} {spare:Nat→Bool} {held:Bool}
theorem jzz {ks:List K} {ds:List D} (h:jbg ks ds):Cells2 w (ks.map .d) (ds.map D.val) (ds.map .d):=by
 induction ks generalizing ds with
 |nil=>cases ds with
  |nil=>exact .nil
  |cons _ _=>exact h.elim
 |cons k ks ih=>cases ds with
  |nil=>exact h.elim
  |cons d ds=>exact .cons (.d k d h.1) (ih h.2)
theorem jjI {g:TypeId→Option (List K2)} {m:Nat} (ih:∀t ks cs x,g t=some ks→DataW.trod enc P w base spare held m t cs=some x→∃ts,Cells2 w ks cs ts) :
  ∀(fs:List Field) (n:Nat) (ks:List K2) (cs:List Value),je1 g P n fs=some ks→cs.length=n+ks.length→(∀f∈fs,∃x,DataW.trod enc P w base spare held m f.type ((cs.drop f.offset).take (P.cellsOf f.type))=some x) →
   ∃ts,Cells2 w ks (cs.drop n) ts
 |[],n,ks,cs,hk,hl,_=>by
  simp only[je1,Option.some.injEq]at hk
  subst hk
  refine⟨[],?_⟩
  simp at hl
  rw[List.drop_eq_nil_of_le (by omega)]
  exact .nil
 |f::fs,n,ks,cs,hk,hl,h=>by
  simp only[je1]at hk
  split at hk
  ·cases hk
  ·rename_i kf hg
   split at hk
   ·rename_i hc
    cases hr:je1 g P (n+kf.length) fs with
    |none=>simp[hr]at hk
    |some kr =>
     simp only[hr,Option.map_some,Option.some.injEq]at hk
     subst hk
     obtain⟨x,hx⟩:=h f List.mem_cons_self
     rw[hc.1,hc.2]at hx
     obtain⟨ts0,h0⟩:=ih f.type kf _ x hg hx
     obtain⟨ts1,h1⟩:=jjI ih fs (n+kf.length) kr cs hr (by rw[hl,List.length_append]; omega) (fun f' hf'=>h f' (List.mem_cons_of_mem _ hf'))
     refine⟨ts0++ts1,?_⟩
     have e:cs.drop n=(cs.drop n).take kf.length++cs.drop (n+kf.length):=by rw[←List.drop_drop]; exact(List.take_append_drop _ _).symm
     rw[e]
     exact h0.append h1
   ·cases hk
theorem jhX:∀(d:Nat) (t:TypeId) (ks:List K2) (fuel:Nat) (cs:List Value) (x:DataW H × List MemPlace),jgZ P d t=some ks→DataW.trod enc P w base spare held fuel t cs=some x→∃ts,Cells2 w ks cs ts
 |0,_,_,_,_,_,h,_=>by cases h
 |d+1,t,ks,fuel,cs,x,hk,hx=>by
  unfold jgZ at hk
  split at hk
  ·rename_i ks' hks
   cases hk
   obtain⟨ds,rfl,h2⟩:=jf9 d t ks' fuel cs x hks hx
   exact⟨_,jzz h2⟩
  ·split at hk
   ·rename_i e ht
    split at hk
    ·rename_i k ks' hks
     split at hk
     ·rename_i hc
      cases hk
      obtain⟨v,rows,rfl,h2,h3,_⟩:=jx1 ht hks (by simpa using hc) (by simp) hx
      exact⟨_,.cons (.s _ v rows (by simp) h2 h3) .nil⟩
     ·cases hk
    ·cases hk
   ·rename_i fs ht
    split at hk
    ·rename_i ks' hks
     split at hk
     ·rename_i hc
      cases hk
      obtain⟨xs,n,rfl,_,hl,hxl,hf⟩:=DataW.trod_struct ht hx
      have:=jjI (enc:=enc) (w:=w) (base:=base) (spare:=spare) (held:=held) (g:=jgZ P d) (m:=n) (fun t ks cs x h1 h2=>jhX d t ks n cs x h1 h2) fs.toList 0 ks cs hks (by rw[hl,hc]; omega) (fun f hfm=>by
       obtain⟨i,hi,hfi⟩:=List.mem_iff_getElem.1 hfm
       have hi':i<fs.size:=by simpa using hi
       have h1:=hf i f (by rw[Array.getElem?_eq_getElem hi']; simpa using hfi)
       exact⟨xs[i]'(by omega),by rw[h1,List.getElem?_eq_getElem]⟩)
      simpa using this
     ·cases hk
    ·cases hk
   ·cases hk
end
inductive T1Is (w:World):Value→T1→Prop where
 |d (x:D):T1Is w x.val (.d x)
 |r (v:Value) (c:Cont) (he:0<c.e) (h:jaF w v c):T1Is w v (.r c)
 |xl (v:Value) (X:XC) (h:IsX (fun k=>k<w.heap.size) w v X):T1Is w v (.xl X)
theorem jnr {w:World} {v:Value} {t:T1} (h:Cell2 w (.d (.i .i64)) v t):∃n:Int,T1Is w v (.d (.i .i64 n))∧inI n:=by
 cases h with
 |d k x h =>
  cases x with
  |i k n =>
   obtain⟨rfl,hw⟩:=h
   exact⟨n,.d _,by unfold inI; simpa [Lit.wf,IntKind.min,IntKind.max,IntKind.signed,IntKind.bits]using hw⟩
  |_=>exact h.elim
theorem js7 {w:World} {v:Value} {t:T1} (h:Cell2 w (.d .s) v t):∃n:ByteArray,T1Is w v (.d (.s n))∧n.size≤maxLen:=by
 cases h with
 |d k x h =>
  cases x with
  |s n=>exact⟨n,.d _,h⟩
  |_=>exact h.elim
theorem jqh {w:World} {n:Nat} {v:Value} {t:T1} (h:Cell2 w (.s (List.replicate n (.i .i64))) v t):∃l:List (List Int),T1Is w v (.r (.recs n l))∧∀r∈l,r.length=n∧∀x∈r,inI x:=by
 cases h with
 |s ks v rows h0 h2 h3 =>
  obtain⟨l,h5,h6,h7⟩:=jx2 h2
  subst h5
  rw[List.length_replicate]at h0 h3
  exact⟨l,.r v _ h0 (js5 h3 (by simp[Cont.n]) (jx3 fun r hr=>(h7 r hr).1)),h7⟩
theorem jlu {w:World} {v:Value} {t:T1} (h:Cell2 w (.s [.i .i64]) v t):∃l:List Int,T1Is w v (.r (.ints .i64 l))∧∀x∈l,inI x:=by
 obtain⟨l,h2,h3⟩:=jqh (n:=1) h
 cases h2 with
 |r _ _ _ h2 =>
  refine⟨l.map (fun r=>r.getD 0 0),.r v _ (Nat.succ_pos 0) (js5 h2 (by simp[Cont.n]) ?_),fun x hx=>?_⟩
  ·simp only[Cont.flat]
   rename_i he
   clear h2 he
   induction l with
   |nil=>rfl
   |cons r l ih =>
    rw[List.map_cons,List.flatMap_cons,List.flatMap_cons,ih (fun r hr=>h3 r (List.mem_cons_of_mem _ hr))]
    rfl
  ·obtain⟨r,hr,rfl⟩:=List.mem_map.1 hx
   have:=h3 r hr
   match r,this with
   |[y],this=>exact this.2 y (by simp)
section
variable [Globs]
inductive T2 where
 |c (t:T1)
 |a (l:List T1)
inductive T1sAre (w:World):List Value→List T1→Prop where
 |nil:T1sAre w [] []
 |cons {v:Value} {t:T1} {vs:List Value} {ts:List T1} (h:T1Is w v t) (r:T1sAre w vs ts):T1sAre w (v::vs) (t::ts)
inductive T2Is (w:World):Value→T2→Prop where
 |c {v:Value} {t:T1} (h:T1Is w v t):T2Is w v (.c t)
 |a {vs:List Value} {ts:List T1} (h:T1sAre w vs ts):T2Is w (.agg vs.toArray) (.a ts)
inductive T2sAre (w:World):List Value→List T2→Prop where
 |nil:T2sAre w [] []
 |cons {v:Value} {t:T2} {vs:List Value} {ts:List T2} (h:T2Is w v t) (r:T2sAre w vs ts):T2sAre w (v::vs) (t::ts)
structure TB where
 cs:List C
 hp:Hp
 n:Nat
def T1.bld (n:Nat):T1→TB
 | .d x=>⟨[.d x],[],n⟩
 | .r c=>⟨[.o n],[(n,.ext c)],n+1⟩
 | .xl X=>⟨[.o n],[(n,.xext X)],n+1⟩
def joI:Nat→List T1→TB
 |n,[]=>⟨[],[],n⟩
 |n,t::l=>let a:=t.bld n; let b:=joI a.n l; ⟨a.cs++b.cs,b.hp++a.hp,b.n⟩
structure TV where
 vs:List V
 hp:Hp
 n:Nat
def T2.bld (n:Nat):T2→TV
 | .c t=>let a:=t.bld n; ⟨[.w (.c (jf1 a.cs))],a.hp,a.n⟩
 | .a l=>let a:=joI n l; ⟨[.w (.a a.cs)],a.hp,a.n⟩
def jco:Nat→List T2→TV
 |n,[]=>⟨[],[],n⟩
 |n,t::l=>let a:=t.bld n; let b:=jco a.n l; ⟨a.vs++b.vs,b.hp++a.hp,b.n⟩
def Hk (w:World) (v:Value):O→Prop
 | .ext c=>jaF w v c∧0<c.e
 | .xext X=>IsX (fun k=>k<w.heap.size) w v X
 |_=>False
structure TOK (w:World) (n:Nat) (ρ ρ':Env) (vals:List Value) (cs:List C) (hp:Hp) (n':Nat):Prop where
 agree:jae n ρ ρ'
 le:n≤n'
 val:cs.map (C.val ρ')=vals
 lt:∀c∈cs,C.lt n' c
 heap:∀k o,find hp k=some o→n≤k∧k<n'∧Hk w (ρ' k) o
theorem T1.bld_ok {w:World} {v:Value} {t:T1} (h:T1Is w v t) (n:Nat) (ρ:Env):∃ρ',TOK w n ρ ρ' [v] (t.bld n).cs (t.bld n).hp (t.bld n).n:=by
 cases h with
 |d x=>exact⟨ρ,jae.refl _ _,Nat.le_refl _,rfl,(fun c hc=>by simp only[T1.bld,List.mem_singleton]at hc; subst hc; trivial),fun _ _ h=>by cases h⟩
 |r v c he h =>
  refine⟨upd ρ n v,jal _ _ _,Nat.le_succ _,by simp[T1.bld,C.val],(fun c hc=>by simp only[T1.bld,List.mem_singleton]at hc; subst hc; exact Nat.lt_succ_self n),fun k o hf=>?_⟩
  simp only[T1.bld,find]at hf
  split at hf
  ·rename_i e
   subst e
   cases hf
   exact⟨Nat.le_refl _,Nat.lt_succ_self _,by rw[upd_same]; exact⟨h,he⟩⟩
  ·cases hf
 |xl v X h =>
  refine⟨upd ρ n v,jal _ _ _,Nat.le_succ _,by simp[T1.bld,C.val],(fun c hc=>by simp only[T1.bld,List.mem_singleton]at hc; subst hc; exact Nat.lt_succ_self n),fun k o hf=>?_⟩
  simp only[T1.bld,find]at hf
  split at hf
  ·rename_i e
   subst e
   cases hf
   exact⟨Nat.le_refl _,Nat.lt_succ_self _,by rw[upd_same]; exact h⟩
  ·cases hf
theorem TOK.append {w:World} {n n1 n2:Nat} {ρ ρ1 ρ2:Env} {a b:List Value} {ca cb:List C} {ha hb:Hp} (h1:TOK w n ρ ρ1 a ca ha n1) (h2:TOK w n1 ρ1 ρ2 b cb hb n2):TOK w n ρ ρ2 (a++b) (ca++cb) (hb++ha) n2:=by
 refine⟨h1.agree.trans h2.agree h1.le,Nat.le_trans h1.le h2.le,?_,?_,?_⟩
 ·rw[List.map_append,h2.val,←h1.val]
  congr 1
  exact List.map_congr_left fun c hc=>C.val_agree h2.agree (h1.lt c hc)
 ·intro c hc
  rcases List.mem_append.1 hc with hc|hc
  ·exact C.lt_mono h2.le (h1.lt c hc)
  ·exact h2.lt c hc
 ·intro k o hf
  rw[jat]at hf
  cases hg:find hb k with
  |some o2 =>
   rw[hg]at hf
   cases hf
   obtain⟨q1,q2,q3⟩:=h2.heap k o hg
   exact⟨Nat.le_trans h1.le q1,q2,q3⟩
  |none =>
   rw[hg]at hf
   obtain⟨q1,q2,q3⟩:=h1.heap k o hf
   exact⟨q1,Nat.lt_of_lt_of_le q2 h2.le,by rw[h2.agree k q2]; exact q3⟩
theorem jzA {w:World} {vs:List Value} {ts:List T1} (h:T1sAre w vs ts):∀(n:Nat) (ρ:Env),∃ρ',TOK w n ρ ρ' vs (joI n ts).cs (joI n ts).hp (joI n ts).n:=by
 induction h with
 |nil=>exact fun n ρ=>⟨ρ,jae.refl _ _,Nat.le_refl _,rfl,(fun _ h=>by cases h),fun _ _ h=>by cases h⟩
 |cons h r ih =>
  intro n ρ
  obtain⟨ρ1,k1⟩:=T1.bld_ok h n ρ
  obtain⟨ρ2,k2⟩:=ih _ ρ1
  exact⟨ρ2,k1.append k2⟩
structure TVOK (w:World) (n:Nat) (ρ ρ':Env) (vals:List Value) (vs:List V) (hp:Hp) (n':Nat):Prop where
 agree:jae n ρ ρ'
 le:n≤n'
 val:vs.map (V.val ρ')=vals
 lt:∀c∈vs,V.lt n' c
 heap:∀k o,find hp k=some o→n≤k∧k<n'∧Hk w (ρ' k) o
theorem T2.bld_ok {w:World} {v:Value} {t:T2} (h:T2Is w v t) (n:Nat) (ρ:Env):∃ρ',TVOK w n ρ ρ' [v] (t.bld n).vs (t.bld n).hp (t.bld n).n:=by
 cases h with
 | @c v t h =>
  obtain⟨ρ',k⟩:=T1.bld_ok h n ρ
  have hone:∃c,(t.bld n).cs=[c]:=by cases t<;>exact⟨_,rfl⟩
  obtain⟨c,hc⟩:=hone
  have hval:=k.val
  have hlt:=k.lt
  rw[hc]at hval hlt
  refine⟨ρ',k.agree,k.le,?_,?_,k.heap⟩
  ·simp only[T2.bld,hc,jf1,List.map_cons,List.map_nil,V.val,W.val]
   simpa using hval
  ·intro y hy
   simp only[T2.bld,hc,jf1,List.mem_singleton]at hy
   subst hy
   exact hlt c List.mem_cons_self
 | @a vs ts h =>
  obtain⟨ρ',k⟩:=jzA h n ρ
  refine⟨ρ',k.agree,k.le,?_,?_,k.heap⟩
  ·simp only[T2.bld,List.map_cons,List.map_nil,V.val,W.val,k.val]
  ·intro y hy
   simp only[T2.bld,List.mem_singleton]at hy
   subst hy
   exact k.lt
theorem jzB {w:World} {vs:List Value} {ts:List T2} (h:T2sAre w vs ts):∀(n:Nat) (ρ:Env),∃ρ',TVOK w n ρ ρ' vs (jco n ts).vs (jco n ts).hp (jco n ts).n:=by
 induction h with
 |nil=>exact fun n ρ=>⟨ρ,jae.refl _ _,Nat.le_refl _,rfl,(fun _ h=>by cases h),fun _ _ h=>by cases h⟩
 | @cons v t vs ts h r ih =>
  intro n ρ
  obtain⟨ρ1,k1⟩:=T2.bld_ok h n ρ
  obtain⟨ρ2,k2⟩:=ih (t.bld n).n ρ1
  refine⟨ρ2,k1.agree.trans k2.agree k1.le,Nat.le_trans k1.le k2.le,?_,?_,?_⟩
  ·simp only[jco,List.map_append,k2.val]
   have:(t.bld n).vs.map (V.val ρ2)=[v]:=by
    rw[←k1.val]
    exact List.map_congr_left fun c hc=>V.val_agree k2.agree (k1.lt c hc)
   rw[this]
   rfl
  ·intro c hc
   rcases List.mem_append.1 hc with hc|hc
   ·exact V.lt_mono k2.le (k1.lt c hc)
   ·exact k2.lt c hc
  ·intro k o hf
   have hf:find ((jco (t.bld n).n ts).hp++(t.bld n).hp) k=some o:=hf
   rw[jat]at hf
   cases hg:find (jco (t.bld n).n ts).hp k with
   |some o2 =>
    rw[hg]at hf
    cases hf
    obtain⟨q1,q2,q3⟩:=k2.heap k o hg
    exact⟨Nat.le_trans k1.le q1,q2,q3⟩
   |none =>
    rw[hg]at hf
    obtain⟨q1,q2,q3⟩:=k1.heap k o hf
    exact⟨q1,Nat.lt_of_lt_of_le q2 k2.le,by rw[k2.agree k q2]; exact q3⟩
theorem jwt {P:Program} {w:World} {f:Nat} {shs:List SV} {g:List Lf→Option GT} {vs:List Value} {ts:List T2} {ls:List Lf} {am:List C} {ob:Prop} {b:Bool} {fn:Func} (hok:jaf P f true (jak shs g)) (hargs:T2sAre w vs ts)
  (hto:ji8 (jco 0 ts).hp shs (jco 0 ts).vs=some (ls,am)) (hg:g ls=some (.leaf ob [.c (.d (.b b))])) (ho:ob) (hb:b=true)
  (hfn:P.funcs[f]?=some fn) (hbody:fn.body=some (fn.body.getD .skip)) (hn:(fn.name == "runtime.NumGoroutine")=false) (hgl:jb0 (fun k=>k<w.heap.size) w) :
  Calls P f vs.toArray w fun e w'=>e=.returned (.bool true)∧Below w.heap.size w w':=by
 subst hb
 obtain⟨ρ,k⟩:=jzB hargs 0 (fun _=>undef)
 have hh:HRel ρ (kd fun k=>k<w.heap.size) (jco 0 ts).hp (jco 0 ts).n w:=by
  refine⟨fun x o hf=>?_,fun x o x' o' q hf hf' _ hb=>?_,hgl⟩
  ·obtain⟨_,q2,q3⟩:=k.heap x o hf
   cases o with
   |ext c=>exact⟨q2,trivial,q3.1,jaF.lt q3.1 q3.2⟩
   |xext X=>exact⟨q2,trivial,q3⟩
   |_=>exact q3.elim
  ·obtain⟨_,_,q3⟩:=k.heap x o hf
   cases o with
   |ext c=>cases hb
   |xext X=>cases hb
   |_=>exact q3.elim
 have:=(hok.sound hfn hbody hn).sound ρ (kd fun k=>k<w.heap.size) w (jco 0 ts).vs (jco 0 ts).hp (jco 0 ts).n ((GT.leaf ob [.c (.d (.b true))]).toRT am (jco 0 ts).hp (jco 0 ts).n) (by
  unfold jak
  rw[hto]
  dsimp only
  rw[hg]) ho k.lt hh (fun k hk=>jbA.1 hk)
 rw[k.val]at this
 refine this.mono ?_
 rintro e w' ⟨ρ',rfl,hl⟩
 exact⟨rfl,hl.mono rfl⟩
end
end Go.Sx
end

section
namespace Go.Sx
open Go.RowKit Go.ChangeShapes Go.WideShapes
def jzS (w:World) (ks:List K2) (v:Value):Prop :=
 ∃(n:Nat) (us:Nat→List Value) (ts:Nat→List T1) (a:Option Addr) (cap:Nat),(∀i,i<n→Cells2 w ks (us i) (ts i))∧v=.slice a n cap∧(n≤cap∧(a=none→cap=0)) ∧
  (0<n→∃b off,a=some ⟨b,off,none⟩∧b<w.heap.size∧∀i j,i<n→j<ks.length→w.cell? ⟨b,off+(i*ks.length+j),none⟩=(us i)[j]?)
inductive K3 where
 |k (k:K2)
 |x (ks:List K2)
inductive Cell3 (w:World):K3→Value→Prop where
 |k (k:K2) (v:Value) (t:T1) (h:Cell2 w k v t):Cell3 w (.k k) v
 |x (ks:List K2) (v:Value) (h0:0<ks.length) (h:jzS w ks v):Cell3 w (.x ks) v
inductive Cells3 (w:World):List K3→List Value→Prop where
 |nil:Cells3 w [] []
 |cons {k:K3} {v:Value} {ks:List K3} {vs:List Value} (h:Cell3 w k v) (r:Cells3 w ks vs):Cells3 w (k::ks) (v::vs)
theorem Cells3.append {w:World} {ks ks':List K3} {vs vs':List Value} (h:Cells3 w ks vs) (h':Cells3 w ks' vs'):Cells3 w (ks++ks') (vs++vs'):=by
 induction h with
 |nil=>exact h'
 |cons h r ih=>exact .cons h ih
theorem jzC {w:World} {ks:List K2} {vs:List Value} {ts:List T1} (h:Cells2 w ks vs ts):Cells3 w (ks.map .k) vs:=by
 induction h with
 |nil=>exact .nil
 |cons h r ih=>exact .cons (.k _ _ _ h) ih
def je2 (g:TypeId→Option (List K3)) (P:Program):Nat→List Field→Option (List K3)
 |_,[]=>some []
 |n,f::fs=>match g f.type with
  |none=>none
  |some ks=>if f.offset=n∧P.cellsOf f.type=ks.length then(je2 g P (n+ks.length) fs).map (ks ++ ·)else none
def jlv (P:Program):Nat→TypeId→Option (List K3)
 |0,_=>none
 |d+1,t=>match jgZ P d t with
  |some ks=>some (ks.map .k)
  |none=>match P.underlying t with
   |some (.slice e)=>match jgZ P d e with
    |some (k::ks)=>if P.cellsOf e=ks.length+1 then some [.x (k::ks)]else none
    |_=>none
   |some (.struct fs)=>match je2 (jlv P d) P 0 fs.toList with
    |some ks=>if P.cellsOf t=ks.length then some ks else none
    |none=>none
   |_=>none
theorem Cells2.len {w:World} {ks:List K2} {vs:List Value} {ts:List T1} (h:Cells2 w ks vs ts):vs.length=ks.length∧ts.length=ks.length:=by
 induction h with
 |nil=>exact⟨rfl,rfl⟩
 |cons h r ih=>exact⟨by simp[ih.1],by simp[ih.2]⟩
section
variable {H:Type} {enc:TypeId × Value→H} {P:Program} {w:World} {base:Nat} {spare:Nat→Bool} {held:Bool}
theorem jwu {t e:TypeId} {ks:List K2} {d fuel:Nat} {cs:List Value} {x:DataW H × List MemPlace} (ht:P.underlying t=some (.slice e)) (hk:jgZ P d e=some ks) (hc:P.cellsOf e=ks.length) (h0:0<ks.length)
  (hx:DataW.trod enc P w base spare held fuel t cs=some x):∃v,cs=[v]∧jzS w ks v:=by
 rcases DataW.trod_slice ht hx with ⟨rfl,rfl⟩|⟨a,len,cap,elems,rest,n,rfl,rfl,rfl,hb,hl,hm,hel,hi,_,_⟩
 ·exact⟨_,rfl,0,fun _=>[],fun _=>[],none,0,fun i hi=>by omega,rfl,⟨Nat.le_refl _,fun _=>rfl⟩,fun h=>by omega⟩
 ·have hget:∀i,i<len→∃p:List Value × List T1,Cells2 w ks p.1 p.2∧∀j,j<ks.length→w.cell? ((a.add (i*ks.length)).add j)=p.1[j]?:=fun i hil=>by
   have h1:=hi i hil
   rw[hc]at h1
   have h2:elems[i]?=some (elems[i]'(by omega)):=List.getElem?_eq_getElem (by omega)
   rw[h2]at h1
   obtain⟨cs',hcs,htr⟩:=Option.bind_eq_some_iff.1 h1
   obtain⟨ts,hts⟩:=jhX d e ks n cs' _ hk htr
   obtain⟨_,hcl,hat⟩:=World.cells?_some hcs
   exact⟨(cs',ts),hts,fun j hj=>hat j hj⟩
  let R:Nat→List Value × List T1:=fun i=>if h:i<len then Classical.choose (hget i h)else([],[])
  have hR:∀i (h:i<len),Cells2 w ks (R i).1 (R i).2∧∀j,j<ks.length→w.cell? ((a.add (i*ks.length)).add j)=(R i).1[j]?:=fun i h=>by
   have e:R i=Classical.choose (hget i h):=dif_pos h
   rw[e]
   exact Classical.choose_spec (hget i h)
  refine⟨_,rfl,len,fun i=>(R i).1,fun i=>(R i).2,some a,cap,fun i h=>(hR i h).1,rfl,⟨hl,fun h=>by cases h⟩,fun hn=>?_⟩
  have hlen:=(hR 0 hn).1.len.1
  have hcell0:w.cell? ((a.add (0*ks.length)).add 0)=some ((R 0).1[0]'(by omega)):=by
   rw[(hR 0 hn).2 0 h0,List.getElem?_eq_getElem]
  have hsp:a.spot=none:=by
   have h1:=hcell0
   simp[Addr.add]at h1
   cases hs:a.spot with
   |none=>rfl
   |some s =>
    exfalso
    unfold World.cell? at h1
    simp only[hs]at h1
    split at h1
    ·simp at h1
    ·cases h1
  obtain⟨b,off,sp⟩:=a
  simp only at hsp
  subst hsp
  refine⟨b,off,rfl,?_,fun i j hi hj=>?_⟩
  ·have h1:=hcell0
   rw[jaK,jaK]at h1
   exact World.block_lt_of_cell? w _ h1
  ·have:=(hR i hi).2 j hj
   rw[jaK,jaK,Nat.add_assoc]at this
   exact this
theorem jjJ {g:TypeId→Option (List K3)} {m:Nat} (ih:∀t ks cs x,g t=some ks→DataW.trod enc P w base spare held m t cs=some x→Cells3 w ks cs) :
  ∀(fs:List Field) (n:Nat) (ks:List K3) (cs:List Value),je2 g P n fs=some ks→cs.length=n+ks.length→(∀f∈fs,∃x,DataW.trod enc P w base spare held m f.type ((cs.drop f.offset).take (P.cellsOf f.type))=some x) →
   Cells3 w ks (cs.drop n)
 |[],n,ks,cs,hk,hl,_=>by
  simp only[je2,Option.some.injEq]at hk
  subst hk
  simp at hl
  rw[List.drop_eq_nil_of_le (by omega)]
  exact .nil
 |f::fs,n,ks,cs,hk,hl,h=>by
  simp only[je2]at hk
  split at hk
  ·cases hk
  ·rename_i kf hg
   split at hk
   ·rename_i hc
    cases hr:je2 g P (n+kf.length) fs with
    |none=>simp[hr]at hk
    |some kr =>
     simp only[hr,Option.map_some,Option.some.injEq]at hk
     subst hk
     obtain⟨x,hx⟩:=h f List.mem_cons_self
     rw[hc.1,hc.2]at hx
     have h0:=ih f.type kf _ x hg hx
     have h1:=jjJ ih fs (n+kf.length) kr cs hr (by rw[hl,List.length_append]; omega) (fun f' hf'=>h f' (List.mem_cons_of_mem _ hf'))
     have e:cs.drop n=(cs.drop n).take kf.length++cs.drop (n+kf.length):=by rw[←List.drop_drop]; exact(List.take_append_drop _ _).symm
     rw[e]
     exact h0.append h1
   ·cases hk
theorem jmB:∀(d:Nat) (t:TypeId) (ks:List K3) (fuel:Nat) (cs:List Value) (x:DataW H × List MemPlace),jlv P d t=some ks→DataW.trod enc P w base spare held fuel t cs=some x→Cells3 w ks cs
 |0,_,_,_,_,_,h,_=>by cases h
 |d+1,t,ks,fuel,cs,x,hk,hx=>by
  unfold jlv at hk
  split at hk
  ·rename_i ks' hks
   cases hk
   obtain⟨ts,h2⟩:=jhX d t ks' fuel cs x hks hx
   exact jzC h2
  ·split at hk
   ·rename_i e ht
    split at hk
    ·rename_i k ks' hks
     split at hk
     ·rename_i hc
      cases hk
      obtain⟨v,rfl,h2⟩:=jwu ht hks (by simpa using hc) (by simp) hx
      exact .cons (.x _ v (by simp) h2) .nil
     ·cases hk
    ·cases hk
   ·rename_i fs ht
    split at hk
    ·rename_i ks' hks
     split at hk
     ·rename_i hc
      cases hk
      obtain⟨xs,n,rfl,_,hl,hxl,hf⟩:=DataW.trod_struct ht hx
      have:=jjJ (enc:=enc) (w:=w) (base:=base) (spare:=spare) (held:=held) (g:=jlv P d) (m:=n) (fun t ks cs x h1 h2=>jmB d t ks n cs x h1 h2) fs.toList 0 ks cs hks (by rw[hl,hc]; omega) (fun f hfm=>by
       obtain⟨i,hi,hfi⟩:=List.mem_iff_getElem.1 hfm
       have hi':i<fs.size:=by simpa using hi
       have h1:=hf i f (by rw[Array.getElem?_eq_getElem hi']; simpa using hfi)
       exact⟨xs[i]'(by omega),by rw[h1,List.getElem?_eq_getElem]⟩)
      simpa using this
     ·cases hk
    ·cases hk
   ·cases hk
theorem jwv {r:Reach} {b0:Nat} {t:TypeId} {d:Nat} {ks:List K3} {v:Value} {x:DataW H} {p:List MemPlace} (ht:jbk P t=some true) (hk:jlv P d t=some ks)
  (hval:Value.okWide P w r b0 t v) (h:DataW.Trod enc P w base spare held t v x p):∃vs,v=.agg (List.toArray vs)∧Cells3 w ks vs:=by
 obtain⟨fuel,hx⟩:=h
 have h1:=jmB d t ks fuel _ _ hk hx
 have hv:∃cs,v=.agg cs:=by
  unfold Value.okWide at hval
  cases hU:P.underlying t with
  |none=>simp[jbk,hU]at ht
  |some u =>
   rw[hU]at hval
   cases u with
   |struct fs=>obtain⟨cs,h,_⟩:=hval; exact⟨cs,h⟩
   |array n e=>obtain⟨cs,h,_⟩:=hval; exact⟨cs,h⟩
   |_=>simp[jbk,hU]at ht
 obtain⟨cs,rfl⟩:=hv
 exact⟨cs.toList,by simp,h1⟩
end
def T1.nc:T1→NC
 | .d x=>.d x
 | .r c=>.r c
 | .xl _=>.d (.v undef)
section
variable [Globs]
theorem jhj {w:World} {v:Value} {t:T1} (h:T1Is w v t) (hx:∀X,t≠.xl X):t.nc.at (fun k=>k<w.heap.size) w v:=by
 cases h with
 |d x=>exact rfl
 |r v c he h=>exact⟨h,jaF.lt h he⟩
 |xl v X h=>exact(hx X rfl).elim
abbrev jww:List K2:=[.d .s,.d (.i .i64),.s [.i .i64],.s [.i .i64],.s [.i .i64],.d (.i .i64),.s (List.replicate 5 (.i .i64)),.d (.i .i64)]
abbrev jff:List NK:=[.s,.i .i64,.ints .i64,.ints .i64,.ints .i64,.i .i64,.recs 5,.i .i64]
theorem jns {w:World} {vs:List Value} {ts:List T1} (h:Cells2 w jww vs ts):∃r:List NC,jcf jff r∧r.length=8∧vs.length=8∧∀j u,vs[j]?=some u→(r.getD j (.d (.v undef))).at (fun k=>k<w.heap.size) w u:=by
 rcases h with _|⟨k0,r0⟩
 rcases r0 with _|⟨k1,r1⟩
 rcases r1 with _|⟨k2,r2⟩
 rcases r2 with _|⟨k3,r3⟩
 rcases r3 with _|⟨k4,r4⟩
 rcases r4 with _|⟨k5,r5⟩
 rcases r5 with _|⟨k6,r6⟩
 rcases r6 with _|⟨k7,r7⟩
 cases r7
 obtain⟨a0,e0,_⟩:=js7 k0
 obtain⟨a1,e1,_⟩:=jnr k1
 obtain⟨a2,e2,_⟩:=jlu k2
 obtain⟨a3,e3,_⟩:=jlu k3
 obtain⟨a4,e4,_⟩:=jlu k4
 obtain⟨a5,e5,_⟩:=jnr k5
 obtain⟨a6,e6,_⟩:=jqh k6
 obtain⟨a7,e7,_⟩:=jnr k7
 refine⟨[.d (.s a0),.d (.i .i64 a1),.r (.ints .i64 a2),.r (.ints .i64 a3),.r (.ints .i64 a4),.d (.i .i64 a5),.r (.recs 5 a6),.d (.i .i64 a7)],⟨rfl,fun j k x hk hx=>?_⟩,rfl,rfl,fun j u hu=>?_⟩
 ·match j,hk,hx with
  |0,hk,hx=>cases hk; cases hx; rfl
  |1,hk,hx=>cases hk; cases hx; rfl
  |2,hk,hx=>cases hk; cases hx; rfl
  |3,hk,hx=>cases hk; cases hx; rfl
  |4,hk,hx=>cases hk; cases hx; rfl
  |5,hk,hx=>cases hk; cases hx; rfl
  |6,hk,hx=>cases hk; cases hx; rfl
  |7,hk,hx=>cases hk; cases hx; rfl
  |j+8,hk,hx=>simp at hk
 ·match j,hu with
  |0,hu=>cases hu; exact jhj e0 (fun X h=>by cases h)
  |1,hu=>cases hu; exact jhj e1 (fun X h=>by cases h)
  |2,hu=>cases hu; exact jhj e2 (fun X h=>by cases h)
  |3,hu=>cases hu; exact jhj e3 (fun X h=>by cases h)
  |4,hu=>cases hu; exact jhj e4 (fun X h=>by cases h)
  |5,hu=>cases hu; exact jhj e5 (fun X h=>by cases h)
  |6,hu=>cases hu; exact jhj e6 (fun X h=>by cases h)
  |7,hu=>cases hu; exact jhj e7 (fun X h=>by cases h)
  |j+8,hu=>simp at hu
theorem jwx {w:World} {v:Value} (h:Cell3 w (.x jww) v):∃l:List (List NC),T1Is w v (.xl (.st jff l)):=by
 cases h with
 |x ks v h0 h =>
  obtain⟨n,us,ts,a,cap,h1,rfl,h3,h4⟩:=h
  let R:Nat→List NC:=fun i=>if h:i<n then Classical.choose (jns (h1 i h))else[]
  have hR:∀i (h:i<n),jcf jff (R i)∧(R i).length=8∧(us i).length=8∧∀j u,(us i)[j]?=some u→((R i).getD j (.d (.v undef))).at (fun k=>k<w.heap.size) w u:=fun i h=>by
   have e:R i=Classical.choose (jns (h1 i h)):=dif_pos h
   rw[e]
   exact Classical.choose_spec (jns (h1 i h))
  have hrows:∀r∈(List.range n).map R,jcf jff r:=fun r hr=>by
   obtain⟨i,hi,rfl⟩:=List.mem_map.1 hr
   exact(hR i (List.mem_range.1 hi)).1
  obtain⟨m1,m2,m3⟩:=(XC.st jff []).cell_mk hrows
  have m1:(XC.st jff ((List.range n).map R)).n=((List.range n).map R).length:=m1
  have m3:∀i j,i<((List.range n).map R).length→j<8→(XC.st jff ((List.range n).map R)).cell i j=(((List.range n).map R).getD i []).getD j (.d (.v undef)):=m3
  have hn:(XC.st jff ((List.range n).map R)).n=n:=by rw[m1]; simp
  refine⟨(List.range n).map R,.xl _ _ ⟨a,cap,by rw[hn],by rw[hn]; exact h3,fun h=>?_⟩⟩
  rw[hn]at h
  obtain⟨b,off,rfl,hb,hc⟩:=h4 h
  refine⟨b,off,rfl,hb,fun i j hi hj=>?_⟩
  rw[hn]at hi
  have hj:j<8:=hj
  obtain⟨_,q2,q3,q4⟩:=hR i hi
  have hu:(us i)[j]?=some ((us i)[j]'(by omega)):=List.getElem?_eq_getElem (by omega)
  refine⟨_,(hc i j hi hj).trans hu,?_⟩
  rw[m3 i j (by simpa using hi) hj]
  have:((List.range n).map R).getD i []=R i:=by simp[List.getD,hi]
  rw[this]
  exact q4 j _ hu
end
end Go.Sx
end
